import Derived.Test.YtngdldcgkaplbaaGreatK13
set_option linter.unusedVariables false
set_option linter.unusedSimpArgs false
namespace Go.Proofs.YtngdldcgkaplbaaGreat.Lk
open Go
section
variable {P:Program} {F:FuncId→Prop} {α β:Type} {r:Map}
theorem mild_typeInfo (t:TypeId):Mild (typeInfo t):=Mild.bnd .program' fun p=>by split<;>first|exact .pur _|exact .stuck _
theorem mild_underlying (t:TypeId):Mild (underlying t):=Mild.bnd .program' fun p=>by split<;>first|exact .pur _|exact .stuck _
theorem mild_sizeOf (t:TypeId):Mild (sizeOf t):=Mild.bnd (mild_typeInfo t) fun i=>.pur _
theorem mild_isAgg (t:TypeId):Mild (isAgg t):=Mild.bnd (mild_underlying t) fun d=>by split<;>exact .pur _
theorem grim_error (m:String):Grim (runtimePanic (.error m):Sem α):=Grim.bnd .program' fun p=>.halt _ trivial
theorem grim_nil:Grim (runtimePanic .nilDeref:Sem α):=Grim.bnd .program' fun p=>.halt _ trivial
theorem grim_bounds (k:IntKind)(x y:Int)(c:BoundsCode):Grim (boundsPanic k x y c:Sem α):=by
 unfold boundsPanic
 dsimp only
 split
 ·exact Grim.bnd (Mild.map (.choose' _)) fun b=>Grim.bnd .program' fun p=>.halt _ trivial
 ·exact Grim.bnd (.pur _) fun b=>Grim.bnd .program' fun p=>.halt _ trivial
theorem mild_askRoom (n:Nat):Mild (askRoom n):=by
 unfold askRoom
 split
 ·exact .noRoom _ (.pure _)
 ·exact .pur _
theorem asIntOf_like {x x':Value}(h:VR F r x x'):SR P F r (fun _ a b=>a=b) (asIntOf x) (asIntOf x'):=by
 cases h with
 |ptr k=>exact .halt trivial
 |int k n=>exact .pur rfl
 |_=>exact .halt trivial
theorem asInt_like {x x':Value}(h:VR F r x x'):SR P F r (fun _ a b=>a=b) (asInt x) (asInt x'):=SR.bnd (asIntOf_like h) fun r1 _ a b e=>by subst e;exact .pur rfl
theorem asBool_like {x x':Value}(h:VR F r x x'):SR P F r (fun _ a b=>a=b) (asBool x) (asBool x'):=by
 cases h with
 |bool b=>exact .pur rfl
 |_=>exact .halt trivial
theorem sureAddr_like {x x':Value}(h:VR F r x x'):SR P F r (fun r1 a b=>AR r1 a b) (Instr.sureAddr x) (Instr.sureAddr x'):=by
 cases h with
 |ptr k=>exact .pur k
 |_=>exact .halt trivial
theorem asAgg_like {x x':Value}(h:VR F r x x'):SR P F r (fun r1 a b=>VA F r1 a b) (asAgg x) (asAgg x'):=by
 cases h with
 |agg h1 h2=>exact .pur ⟨h1,h2⟩
 |_=>exact .halt trivial
theorem loadCellsFrom_like {a a':Addr}:∀(n i:Nat) (acc acc':Array Value) (r:Map),AR r a a'→VA F r acc acc'→SR P F r (fun r1 x y=>VA F r1 x y) (loadCellsFrom a i n acc) (loadCellsFrom a' i n acc')
 |0,i,acc,acc',r,ha,h=>.pur h
 |n+1,i,acc,acc',r,ha,h=>SR.bnd (sr_load (ha.add i)) fun r1 h1 x y hv=>loadCellsFrom_like n (i+1) _ _ r1 (ha.mono h1) ((h.mono h1).push hv)
theorem loadCells_like {a a':Addr}(n:Nat)(ha:AR r a a'):SR P F r (fun r1 x y=>VA F r1 x y) (loadCells a n) (loadCells a' n):=loadCellsFrom_like n 0 _ _ r ha VA.empty
theorem storeCells_like {a a':Addr}:∀(xs ys:List Value) (i:Nat) (r:Map),AR r a a'→xs.length=ys.length→(∀(i:Nat) (v v':Value),xs[i]?=some v→ys[i]?=some v'→VR F r v v')→SR P F r (fun _ _ _=>True) (storeCells a xs i) (storeCells a' ys i)
 |[],[],i,r,ha,hl,h=>.pur trivial
 |x::xs,y::ys,i,r,ha,hl,h=>SR.bnd (sr_store (ha.add i) (h 0 x y rfl rfl)) fun r1 h1 _ _ _=>storeCells_like xs ys (i+1) r1 (ha.mono h1) (by simpa using hl) fun j v v' hv hv'=>(h (j+1) v v' (by simpa using hv) (by simpa using hv')).mono h1
 |[],_::_,i,r,ha,hl,h=>by simp at hl
 |_::_,[],i,r,ha,hl,h=>by simp at hl
theorem storeCells_arr {a a':Addr}{xs ys:Array Value}(ha:AR r a a')(h:VA F r xs ys):SR P F r (fun _ _ _=>True) (storeCells a xs.toList) (storeCells a' ys.toList):=
 storeCells_like _ _ 0 r ha (by simpa using h.1) fun i v v' h1 h2=>h.2 i v v' (by simpa using h1) (by simpa using h2)
theorem loadVar_like {a a':Addr}(t:TypeId)(ha:AR r a a'):SR P F r (fun r1 x y=>VR F r1 x y) (loadVar t a) (loadVar t a'):=by
 unfold loadVar
 refine SR.bnd (mild_isAgg t).sr fun r1 h1 b b' e=>?_
 subst e
 cases b
 ·exact sr_load (ha.mono h1)
 ·refine SR.bnd (mild_sizeOf t).sr fun r2 h2 n n' e=>?_
  subst e
  exact SR.bnd (loadCells_like n ((ha.mono h1).mono h2)) fun r3 h3 x y hv=>.pur (.agg' hv)
theorem storeVar_like {a a':Addr}{x x':Value}(t:TypeId)(ha:AR r a a')(hx:VR F r x x'):SR P F r (fun _ _ _=>True) (storeVar t a x) (storeVar t a' x'):=by
 unfold storeVar
 refine SR.bnd (mild_sizeOf t).sr fun r1 h1 n n' e=>?_
 subst e
 have hc:=(hx.mono h1).cells
 rw [←hc.1]
 split
 ·exact .halt trivial
 ·exact storeCells_arr (ha.mono h1) hc
theorem newVar_like {x x':Value}(t:TypeId)(hx:VR F r x x'):SR P F r (fun r1 a b=>AR r1 a b) (newVar t x) (newVar t x'):=sr_newRow t hx.cells
def closed1:Value→Bool
 | .bool _ | .int .. | .float .. | .string _ | .pointer none | .slice none _ _ | .nilFunc | .nilIface=>true
 |_=>false
def closedB:Value→Bool
 | .agg cs=>cs.all closed1
 | .tuple cs=>cs.all closed1
 |v=>closed1 v
theorem closed1_like {x:Value}(h:closed1 x=true):VR F r x x:=by
 cases x with
 |bool b=>exact .bool b
 |int k n=>exact .int k n
 |float k n=>exact .float k n
 |string s=>exact .string s
 |pointer a=>cases a with
  |none=>exact .nilp
  |some a=>cases h
 |slice a l c=>cases a with
  |none=>exact .nils l c
  |some a=>cases h
 |nilFunc=>exact .nilf
 |nilIface=>exact .nili
 |_=>cases h
theorem all_like {cs:Array Value}(h:cs.all closed1=true):VA F r cs cs:=⟨rfl,fun i v v' h1 h2=>by
 rw [h1]at h2;injection h2 with h2;subst h2
 exact closed1_like (Array.all_eq_true'.1 h v (Array.mem_of_getElem? h1))⟩
theorem closedB_like {x:Value}(h:closedB x=true):VR F r x x:=by
 cases x with
 |agg cs=>exact .agg' (all_like h)
 |tuple cs=>exact .tuple' (all_like h)
 |_=>exact closed1_like h
def zeroOk (P:Program)(t:TypeId):Bool:=match (P.info? t).bind (·.zero)with
 |some z=>closedB z
 |none=>true
theorem zeroValue_like (t:TypeId)(h:zeroOk P t=true):SR P F r (fun r1 a b=>a=b∧VR F r1 a b) (zeroValue t) (zeroValue t):=by
 unfold zeroValue typeInfo
 refine SR.bnd (A:=fun r1 (a b:TypeInfo)=>a=b∧P.info? t=some a) (SR.bnd sr_program fun r1 _ a b e=>?_) fun r1 _ a b e=>?_
 ·rw [e.1,e.2]
  cases hi:P.info? t with
  |none=>exact .halt trivial
  |some i=>exact .pur ⟨rfl,rfl⟩
 ·obtain⟨rfl,e⟩:=e
  unfold zeroOk at h
  rw [e]at h
  simp only [Option.bind_some]at h
  cases hz:a.zero with
  |none=>exact .halt trivial
  |some z=>rw [hz]at h;exact .pur ⟨rfl,closedB_like h⟩
theorem loadAt_like {x x':Value}(t:TypeId)(h:VR F r x x'):SR P F r (fun r1 a b=>VR F r1 a b) (Instr.loadAt t x) (Instr.loadAt t x'):=SR.bnd (sureAddr_like h) fun r1 h1 a b ha=>loadVar_like t ha
theorem storeAt_like {x x' y y':Value}(t:TypeId)(h:VR F r x x')(hy:VR F r y y'):SR P F r (fun _ _ _=>True) (Instr.storeAt t x y) (Instr.storeAt t x' y'):=SR.bnd (sureAddr_like h) fun r1 h1 a b ha=>storeVar_like t ha (hy.mono h1)
theorem alloc_like (t:TypeId)(h:zeroOk P t=true):SR P F r (fun r1 a b=>VR F r1 a b) (Instr.alloc t true (.tuple #[])) (Instr.alloc t true (.tuple #[])):=by
 unfold Instr.alloc
 exact SR.bnd (zeroValue_like t h) fun r1 h1 a b e=>SR.bnd (newVar_like t e.2) fun r2 h2 a b ha=>.pur (.ptr ha)
theorem box_like {x x':Value}(t:TypeId)(h:VR F r x x'):SR P F r (fun r1 a b=>VR F r1 a b) (Instr.box t x) (Instr.box t x'):=by
 unfold Instr.box
 exact SR.bnd (newVar_like t h) fun r2 h2 a b ha=>.pur (.ptr ha)
theorem part_like {xs ys:Array Value}(t:TypeId)(off:Nat)(h:VA F r xs ys):SR P F r (fun r1 a b=>VR F r1 a b) (part t xs off) (part t ys off):=by
 unfold part
 refine SR.bnd (mild_isAgg t).sr fun r1 h1 b b' e=>?_
 subst e
 cases b
 ·simp only [Bool.false_eq_true,if_false]
  cases hx:xs[off]? with
  |none=>exact .halt trivial
  |some x=>
   obtain⟨y,h2,h3⟩:=h.get hx
   rw [h2]
   exact .pur (h3.mono h1)
 ·refine SR.bnd (mild_sizeOf t).sr fun r2 h2 n n' e=>?_
  subst e
  exact .pur (.agg' (((h.mono h1).mono h2).extract _ _))
theorem field_like {x x':Value}(t:TypeId)(f:Nat)(h:VR F r x x'):SR P F r (fun r1 a b=>VR F r1 a b) (Instr.field t x f) (Instr.field t x' f):=by
 unfold Instr.field
 refine SR.bnd (mild_underlying t).sr fun r1 h1 d d' e=>?_
 subst e
 split
 ·split
  ·exact SR.bnd (asAgg_like (h.mono h1)) fun r2 h2 a b ha=>part_like _ _ ha
  ·exact .halt trivial
 ·exact .halt trivial
theorem extract_like {x x':Value}(i:Nat)(h:VR F r x x'):SR P F r (fun r1 a b=>VR F r1 a b) (Instr.extract x i) (Instr.extract x' i):=by
 unfold Instr.extract
 cases h with
 |tuple h1 h2=>
  rename_i xs ys
  simp only
  cases hx:xs[i]? with
  |none=>exact .halt trivial
  |some a=>
   obtain⟨b,hb,hv⟩:=VA.get ⟨h1,h2⟩ hx
   rw [hb]
   exact .pur hv
 |_=>exact .halt trivial
theorem index_like {x x' i i':Value}(t:TypeId)(h:VR F r x x')(hi:VR F r i i'):SR P F r (fun r1 a b=>VR F r1 a b) (Instr.index t x i) (Instr.index t x' i'):=by
 unfold Instr.index
 refine SR.bnd (asIntOf_like hi) fun r1 h1 n n' e=>?_
 subst e
 obtain⟨k,n⟩:=n
 refine SR.bnd (mild_underlying t).sr fun r2 h2 d d' e=>?_
 subst e
 have h':=(h.mono h1).mono h2
 cases h' with
 |agg h3 h4=>
  cases d with
  |array len elem=>
   dsimp only
   split
   ·refine SR.bnd (mild_sizeOf elem).sr fun r3 h5 m m' e=>?_
    subst e
    exact part_like _ _ (VA.mono h5 ⟨h3,h4⟩)
   ·exact(grim_bounds _ _ _ _).sr
  |_=>exact .halt trivial
 |string s=>
  cases d with
  |string=>
   dsimp only
   generalize (if 0≤n then s[n.toNat]? else none)=z
   cases z with
   |none=>exact(grim_bounds _ _ _ _).sr
   |some b=>exact .pur (.int _ _)
  |_=>exact .halt trivial
 |_=>cases d<;>exact .halt trivial
theorem fieldAt_like {x x':Value}(t:TypeId)(f:Nat)(h:VR F r x x')(hz:∀ fs g,P.underlying t=some (.struct fs)→fs[f]?=some g→P.cellsOf g.type≠0):SR P F r (fun r1 a b=>VR F r1 a b) (Instr.fieldAt t x f) (Instr.fieldAt t x' f):=by
 unfold Instr.fieldAt underlying
 refine SR.bnd (A:=fun r1 (a b:TypeDesc)=>a=b∧P.underlying t=some a) (SR.bnd sr_program fun r1 _ a b e=>?_) fun r1 h1 d d' e=>?_
 ·rw [e.1,e.2]
  cases hi:P.underlying t with
  |none=>exact .halt trivial
  |some i=>exact .pur ⟨rfl,rfl⟩
 ·obtain⟨rfl,e⟩:=e
  cases d with
  |struct fs=>
   dsimp only
   cases hf:fs[f]? with
   |none=>exact .halt trivial
   |some g=>
    dsimp only
    refine SR.bnd (sureAddr_like (h.mono h1)) fun r2 h2 a b ha=>?_
    refine SR.bnd (A:=fun r1 a b=>AR r1 a b) ?_ fun r3 h3 a b ha=>.pur (.ptr ha)
    unfold fieldPlace
    refine SR.bnd (A:=fun r1 (a b:Nat)=>a=b∧a=P.cellsOf g.type) ?_ fun r3 h3 n n' e=>?_
    ·unfold sizeOf typeInfo
     refine SR.bnd (A:=fun r1 (a b:TypeInfo)=>a=b∧P.info? g.type=some a) (SR.bnd sr_program fun r1 _ a b e=>?_) fun r1 h1 i i' e=>?_
     ·rw [e.1,e.2]
      cases hi:P.info? g.type with
      |none=>exact .halt trivial
      |some i=>exact .pur ⟨rfl,rfl⟩
     ·obtain⟨rfl,e⟩:=e
      exact .pur ⟨rfl,by unfold Program.cellsOf;rw [e];rfl⟩
    ·obtain⟨rfl,e⟩:=e
     rw [if_neg (by rw [e];exact hz fs g (by assumption) hf),if_neg (by rw [e];exact hz fs g (by assumption) hf)]
     exact .pur ((ha.mono h3).add _)
  |_=>exact .halt trivial
theorem idx_tail {y y':Option Addr}(t:TypeId)(k:IntKind)(n:Int)(len:Nat)(elem:TypeId)(ha:(y=none∧y'=none)∨∃ a a',y=some a∧y'=some a'∧AR r a a') :
  SR P F r (fun r1 a b=>VR F r1 a b) (do
   let d ←underlying t
   match y with
    |some a=>
     if 0≤n∧n<(len:Int)then do
      let m ←sizeOf elem
      pure (Value.pointer (some (a.add (n.toNat*m))))
     else (if (decide (len ≤ 1) && (match d with | .array .. => true | _ => false)) = true then unsupported (.noEntry "op/indexAddr.an index out of range at an array of length 0 or 1 (ledger 616)") else boundsPanic k n len .index)
    |none=>boundsPanic k n 0 .index) (do
   let d ←underlying t
   match y' with
    |some a=>
     if 0≤n∧n<(len:Int)then do
      let m ←sizeOf elem
      pure (Value.pointer (some (a.add (n.toNat*m))))
     else (if (decide (len ≤ 1) && (match d with | .array .. => true | _ => false)) = true then unsupported (.noEntry "op/indexAddr.an index out of range at an array of length 0 or 1 (ledger 616)") else boundsPanic k n len .index)
    |none=>boundsPanic k n 0 .index):=by
 refine SR.bnd (mild_underlying t).sr fun r2 h2 d d' e=>?_
 subst e
 rcases ha with ⟨rfl,rfl⟩|⟨a,a',rfl,rfl,ha⟩
 ·exact(grim_bounds _ _ _ _).sr
 ·dsimp only
  split
  ·refine SR.bnd (mild_sizeOf elem).sr fun r3 h3 m m' e=>?_
   subst e
   exact .pur (.ptr (((ha.mono h2).mono h3).add _))
  ·split<;>(split<;>first|exact .halt trivial|exact(grim_bounds _ _ _ _).sr)
theorem indexAt_like {x x' i i':Value}(t:TypeId)(h:VR F r x x')(hi:VR F r i i'):SR P F r (fun r1 a b=>VR F r1 a b) (Instr.indexAt t x i) (Instr.indexAt t x' i'):=by
 unfold Instr.indexAt
 refine SR.bnd (asIntOf_like hi) fun r1 h1 n n' e=>?_
 subst e
 obtain⟨k,n⟩:=n
 dsimp only
 refine SR.bnd (mild_underlying t).sr fun r2 h2 d d' e=>?_
 subst e
 have h':=(h.mono h1).mono h2
 cases d with
 |array len elem=>exact SR.bnd (sureAddr_like h') fun r4 h4 a b ha=>idx_tail t k n len elem (.inr ⟨a,b,rfl,rfl,ha⟩)
 |slice elem=>
  cases h' with
  |nils l c=>exact idx_tail t k n l elem (.inl ⟨rfl,rfl⟩)
  |slice l c ha=>exact idx_tail t k n l elem (.inr ⟨_,_,rfl,rfl,ha⟩)
  |_=>exact .halt trivial
 |_=>exact .halt trivial
theorem sliceBound_like {x x':Value}(y:Nat)(c:BoundsCode)(h:VR F r x x'):SR P F r (fun _ a b=>a=b) (Instr.sliceBound x y c) (Instr.sliceBound x' y c):=by
 unfold Instr.sliceBound
 refine SR.bnd (asIntOf_like h) fun r1 h1 n n' e=>?_
 subst e
 obtain⟨k,n⟩:=n
 dsimp only
 split
 ·exact .pur rfl
 ·exact(grim_bounds _ _ _ _).sr
def OR (F:FuncId→Prop)(r:Map)(x y:Option Value):Prop:=(x=none∧y=none)∨∃a b,x=some a∧y=some b∧VR F r a b
theorem OR.mono {s:Map}(h:r.le s){x y:Option Value}(k:OR F r x y):OR F s x y:=k.imp id fun⟨a,b,h1,h2,h3⟩=>⟨a,b,h1,h2,h3.mono h⟩
theorem sliceBounds_like {lo lo' hi hi' mx mx':Option Value}(sl:Bool)(len cap:Nat)(h1:OR F r lo lo')(h2:OR F r hi hi')(h3:OR F r mx mx'):SR P F r (fun _ a b=>a=b) (Instr.sliceBounds sl len cap lo hi mx) (Instr.sliceBounds sl len cap lo' hi' mx'):=by
 unfold Instr.sliceBounds
 have tail:∀(r1:Map) (h:Nat) (m:Nat) (b:Bool),r.le r1→SR P F r1 (fun _ (a b:Nat×Nat×Nat)=>a=b) (do
   let l ←match lo with
    |some v=>Instr.sliceBound v h (if b then .slice3C else .sliceB)
    |none=>pure 0
   pure (l,h,m)) (do
   let l ←match lo' with
    |some v=>Instr.sliceBound v h (if b then .slice3C else .sliceB)
    |none=>pure 0
   pure (l,h,m)):=by
  intro r1 h m b hr
  rcases h1 with ⟨rfl,rfl⟩|⟨x,y,rfl,rfl,hv⟩
  ·exact .pur rfl
  ·exact SR.bnd (sliceBound_like h _ (hv.mono hr)) fun r2 _ l l' e=>by subst e;exact .pur rfl
 rcases h3 with ⟨rfl,rfl⟩|⟨x,y,rfl,rfl,hv⟩
 ·refine SR.bnd (A:=fun _ (a b:Nat)=>a=b) (.pur rfl) fun r0 hr0 m m' e=>?_
  subst e
  rcases h2 with ⟨rfl,rfl⟩|⟨u,v,rfl,rfl,hu⟩
  ·exact tail r0 len m false hr0
  ·exact SR.bnd (sliceBound_like m _ (hu.mono hr0)) fun r2 hr l l' e=>by subst e;exact tail r2 l m false (Map.le_trans hr0 hr)
 ·refine SR.bnd (sliceBound_like cap _ hv) fun r2 hr m m' e=>?_
  subst e
  rcases h2 with ⟨rfl,rfl⟩|⟨u,v,rfl,rfl,hu⟩
  ·exact .halt trivial
  ·exact SR.bnd (sliceBound_like m _ (hu.mono hr)) fun r3 hr3 l l' e=>by subst e;exact tail r3 l m true (Map.le_trans hr hr3)
end
section
variable {P:Program} {F:FuncId→Prop} {α β:Type} {r:Map}
theorem und_like (t:TypeId):SR P F r (fun _ (a b:TypeDesc)=>a=b∧P.underlying t=some a) (underlying t) (underlying t):=by
 unfold underlying
 refine SR.bnd sr_program fun r1 _ a b e=>?_
 rw [e.1,e.2]
 cases hi:P.underlying t with
 |none=>exact .halt trivial
 |some i=>exact .pur ⟨rfl,rfl⟩
theorem slice_like {x x':Value}{lo lo' hi hi' mx mx':Option Value}(t:TypeId)(h:VR F r x x')(h1:OR F r lo lo')(h2:OR F r hi hi')(h3:OR F r mx mx'):SR P F r (fun r1 a b=>VR F r1 a b) (Instr.slice t x lo hi mx) (Instr.slice t x' lo' hi' mx'):=by
 unfold Instr.slice
 refine SR.bnd (mild_underlying t).sr fun r1 hr d d' e=>?_
 subst e
 have h':=h.mono hr
 have h1':=h1.mono hr
 have h2':=h2.mono hr
 have h3':=h3.mono hr
 cases d with
 |slice elem=>
  cases h' with
  |nils l c=>
   refine SR.bnd (sliceBounds_like true l c h1' h2' h3') fun r2 hr2 p p' e=>?_
   subst e
   obtain⟨a,b,m⟩:=p
   refine SR.bnd (mild_sizeOf elem).sr fun r3 hr3 n n' e=>?_
   subst e
   split<;>exact .pur (.nils _ _)
  |slice l c ha=>
   refine SR.bnd (sliceBounds_like true l c h1' h2' h3') fun r2 hr2 p p' e=>?_
   subst e
   obtain⟨a,b,m⟩:=p
   refine SR.bnd (mild_sizeOf elem).sr fun r3 hr3 n n' e=>?_
   subst e
   have ha':=(ha.mono hr2).mono hr3
   split
   ·exact .pur (.slice _ _ ha')
   ·exact .pur (.slice _ _ (ha'.add _))
  |_=>exact .halt trivial
 |string=>
  cases h' with
  |string s=>
   dsimp only
   rcases h3' with ⟨rfl,rfl⟩|⟨a,b,rfl,rfl,hv⟩
   ·refine SR.bnd (sliceBounds_like false s.size s.size h1' h2' (.inl ⟨rfl,rfl⟩)) fun r2 hr2 p p' e=>?_
    subst e
    exact .pur (.string _)
   ·exact .halt trivial
  |_=>exact .halt trivial
 |pointer arr=>
  refine SR.bnd (A:=fun r1 a b=>AR r1 a b) ?_ fun r2 hr2 a b ha=>?_
  ·cases h' with
   |ptr ha=>exact .pur ha
   |nilp=>exact grim_nil.sr
   |_=>exact .halt trivial
  ·refine SR.bnd (mild_underlying arr).sr fun r3 hr3 d d' e=>?_
   subst e
   cases d with
   |array n elem=>
    refine SR.bnd (sliceBounds_like false n n ((h1'.mono hr2).mono hr3) ((h2'.mono hr2).mono hr3) ((h3'.mono hr2).mono hr3)) fun r4 hr4 p p' e=>?_
    subst e
    obtain⟨l,h,m⟩:=p
    refine SR.bnd (mild_sizeOf elem).sr fun r5 hr5 k k' e=>?_
    subst e
    have ha':=((ha.mono hr3).mono hr4).mono hr5
    split
    ·exact .pur (.slice _ _ ha')
    ·exact .pur (.slice _ _ (ha'.add _))
   |_=>exact .halt trivial
 |_=>exact .halt trivial
theorem sliceAt_like {x x':Value}{lo lo' hi hi' mx mx':Option Value}(t:TypeId)(h:VR F r x x')(h1:OR F r lo lo')(h2:OR F r hi hi')(h3:OR F r mx mx'):SR P F r (fun r1 a b=>VR F r1 a b) (Instr.sliceAt t x lo hi mx) (Instr.sliceAt t x' lo' hi' mx'):=by
 unfold Instr.sliceAt
 refine SR.bnd (mild_underlying t).sr fun r1 hr d d' e=>?_
 subst e
 have h':=h.mono hr
 have h1':=h1.mono hr
 have h2':=h2.mono hr
 have h3':=h3.mono hr
 cases d with
 |array n elem=>
  refine SR.bnd (sureAddr_like h') fun r2 hr2 a b ha=>?_
  refine SR.bnd (sliceBounds_like false n n (h1'.mono hr2) (h2'.mono hr2) (h3'.mono hr2)) fun r4 hr4 p p' e=>?_
  subst e
  obtain⟨l,h,m⟩:=p
  refine SR.bnd (mild_sizeOf elem).sr fun r5 hr5 k k' e=>?_
  subst e
  have ha':=(ha.mono hr4).mono hr5
  split
  ·exact .pur (.slice _ _ ha')
  ·exact .pur (.slice _ _ (ha'.add _))
 |_=>exact slice_like t h' h1' h2' h3'
theorem zeros_like {z:Value}(n:Nat)(h:VA F r z.cells z.cells)(hz:z.cells.size≠0∨n=0):VA F r ((Array.range n).map (z.cells[·%z.cells.size]!)) ((Array.range n).map (z.cells[·%z.cells.size]!)):=by
 refine⟨rfl,fun i v v' h1 h2=>?_⟩
 rw [h1]at h2;injection h2 with h2;subst h2
 rw [Array.getElem?_map]at h1
 obtain⟨j,hj,rfl⟩:=Option.map_eq_some_iff.1 h1
 have hn:n≠0:=by
  intro h0
  subst h0
  have:=(Array.getElem?_eq_some_iff.1 hj).1
  simp at this
 have hz':0<z.cells.size:=by omega
 have hl:j%z.cells.size<z.cells.size:=Nat.mod_lt _ hz'
 rw [getElem!_pos z.cells (j%z.cells.size) hl]
 exact h.2 _ _ _ (Array.getElem?_eq_getElem hl) (Array.getElem?_eq_getElem hl)
def zeroSz (P:Program)(t:TypeId):Bool:=match (P.info? t).bind (·.zero)with
 |some z=>closedB z&&(z.cells.size != 0)
 |none=>true
theorem zeroValue_sz (t:TypeId)(h:zeroSz P t=true):SR P F r (fun r1 a b=>a=b∧VR F r1 a b∧a.cells.size≠0) (zeroValue t) (zeroValue t):=by
 unfold zeroValue typeInfo
 refine SR.bnd (A:=fun r1 (a b:TypeInfo)=>a=b∧P.info? t=some a) (SR.bnd sr_program fun r1 _ a b e=>?_) fun r1 _ a b e=>?_
 ·rw [e.1,e.2]
  cases hi:P.info? t with
  |none=>exact .halt trivial
  |some i=>exact .pur ⟨rfl,rfl⟩
 ·obtain⟨rfl,e⟩:=e
  unfold zeroSz at h
  rw [e]at h
  simp only [Option.bind_some]at h
  cases hz:a.zero with
  |none=>exact .halt trivial
  |some z=>
   rw [hz]at h
   simp only [Bool.and_eq_true,bne_iff_ne,ne_eq]at h
   exact .pur ⟨rfl,closedB_like h.1,h.2⟩
def elemSz (P:Program)(t:TypeId):Bool:=match P.underlying t with
 |some (.slice e)=>zeroSz P e
 |_=>true
theorem makeSlice_like {x x' y y':Value}(t:TypeId)(hx:VR F r x x')(hy:VR F r y y')(hz:elemSz P t=true):SR P F r (fun r1 a b=>VR F r1 a b) (Instr.makeSlice t x y) (Instr.makeSlice t x' y'):=by
 unfold Instr.makeSlice
 refine SR.bnd (und_like t) fun r1 hr d d' e=>?_
 obtain⟨rfl,ed⟩:=e
 cases d with
 |slice elem=>
  unfold elemSz at hz
  rw [ed]at hz
  dsimp only at hz ⊢
  refine SR.bnd (asInt_like (hx.mono hr)) fun r2 hr2 l l' e=>?_
  subst e
  refine SR.bnd (asInt_like ((hy.mono hr).mono hr2)) fun r3 hr3 c c' e=>?_
  subst e
  refine SR.bnd (mild_typeInfo elem).sr fun r4 hr4 i i' e=>?_
  subst e
  have tail:∀(r4:Map) (l c:Int),SR P F r4 (fun r1 a b=>VR F r1 a b) (do
    askRoom (c.toNat*i.bytes)
    let k ←sizeOf elem
    let n:=c.toNat*k
    let zero ←if n=0 then pure #[]else do pure (←zeroValue elem).cells
    let a ←newRow elem ((Array.range n).map (zero[·%zero.size]!))
    pure (Value.slice (some a) l.toNat c.toNat)) (do
    askRoom (c.toNat*i.bytes)
    let k ←sizeOf elem
    let n:=c.toNat*k
    let zero ←if n=0 then pure #[]else do pure (←zeroValue elem).cells
    let a ←newRow elem ((Array.range n).map (zero[·%zero.size]!))
    pure (Value.slice (some a) l.toNat c.toNat)):=by
   intro r4 l c
   refine SR.bnd (mild_askRoom _).sr fun r5 hr5 _ _ _=>?_
   refine SR.bnd (mild_sizeOf elem).sr fun r6 hr6 k k' e=>?_
   subst e
   dsimp only
   by_cases hn:c.toNat*k=0
   ·simp only [hn,if_true]
    exact SR.bnd (A:=fun r1 (a b:Array Value)=>a=b) (.pur rfl) fun r7 hr7 z z' e=>by
     subst e
     refine SR.bnd (sr_newRow elem (cs:=(Array.range 0).map (z[·%z.size]!)) (cs':=(Array.range 0).map (z[·%z.size]!)) ⟨rfl,fun i v v' h1 h2=>by simp at h1⟩) fun r8 hr8 a b ha=>SR.pur (VR.slice _ _ ha)
   ·simp only [hn,if_false]
    refine SR.bnd (zeroValue_sz elem hz) fun r7 hr7 z z' e=>?_
    obtain⟨rfl,h1,h2⟩:=e
    refine SR.bnd (A:=fun r1 (a b:Array Value)=>a=z.cells∧b=z.cells) (.pur ⟨rfl,rfl⟩) fun r9 hr9 a b e=>?_
    obtain⟨rfl,rfl⟩:=e
    replace h1:=h1.mono hr9
    exact SR.bnd (sr_newRow elem (zeros_like _ h1.cells (.inl h2))) fun r8 hr8 a b ha=>SR.pur (VR.slice _ _ ha)
  split
  ·split
   ·exact(grim_error _).sr
   ·split
    ·exact(grim_error _).sr
    ·exact(Grim.bnd (.choose' _) fun b=>grim_error _).sr
  ·exact tail r4 _ _
 |_=>exact .halt trivial
end
inductive MildQ {α:Type}(Q:α→Prop):Sem α→Prop
 |pure (a:α) (h:Q a):MildQ Q (.pure a)
 |choose (q:Question) (k:Nat→Sem α) (h:∀n,MildQ Q (k n)):MildQ Q (.choose q k)
 |program (k:Program→Sem α) (h:∀p,MildQ Q (k p)):MildQ Q (.program k)
 |halt (x:Halt) (h:x.soft):MildQ Q (.halt x)
section
variable {P:Program} {F:FuncId→Prop} {α β:Type} {r:Map} {Q:α→Prop}
theorem MildQ.sr {s:Sem α}(h:MildQ Q s){A:Map→α→α→Prop}:∀{r:Map},(∀r1,r.le r1→∀a,Q a→A r1 a a)→SR P F r A s s:=by
 induction h with
 |pure a h=>exact fun k=>.pure (k _ (Map.le_refl _) a h)
 |choose q g h ih=>exact fun k=>SR.bind (s:=Go.choose q) (s':=Go.choose q) (sr_choose q) fun r1 h1 a b e=>by subst e;exact ih a fun r2 h2=>k r2 (Map.le_trans h1 h2)
 |program g h ih=>exact fun k=>SR.bind (s:=Go.program) (s':=Go.program) sr_program fun r1 h1 a b e=>by rw [e.1,e.2];exact ih P fun r2 h2=>k r2 (Map.le_trans h1 h2)
 |halt x h=>exact fun k=>.halt h
theorem MildQ.bind {Q':β→Prop}{s:Sem α}{f:α→Sem β}(h:MildQ Q s)(k:∀ a,Q a→MildQ Q' (f a)):MildQ Q' (s.bind f):=by
 induction h with
 |pure a h=>exact k a h
 |choose q g h ih=>exact .choose q _ ih
 |program g h ih=>exact .program _ ih
 |halt x h=>exact .halt x h
theorem MildQ.bnd {Q':β→Prop}{s:Sem α}{f:α→Sem β}(h:MildQ Q s)(k:∀ a,Q a→MildQ Q' (f a)):MildQ Q' (s >>= f):=MildQ.bind h k
theorem MildQ.pur {a:α}(h:Q a):MildQ Q (Pure.pure a:Sem α):=.pure a h
theorem MildQ.stk (why:String):MildQ Q (stuck why:Sem α):=.halt _ trivial
theorem MildQ.error (m:String):MildQ Q (runtimePanic (.error m):Sem α):=.program _ fun p=>.halt _ trivial
theorem MildQ.uns (u:Unsupported)(h:∀ g,u≠.initOrder g):MildQ Q (unsupported u:Sem α):=.halt _ (by cases u<;>first|trivial|exact absurd rfl (h _))
theorem MildQ.chs (q:Question):MildQ (fun _=>True) (Go.choose q):=.choose q _ fun n=>.pure n trivial
def Sc (v:Value):Prop:=closed1 v=true
theorem MildQ.val {s:Sem Value}(h:MildQ Sc s):SR P F r (fun r1 a b=>VR F r1 a b) s s:=h.sr fun r1 _ a ha=>closed1_like ha
theorem q_shift (op:BinOp)(k:IntKind)(x:Int)(j:IntKind)(y:Int):MildQ Sc (Op.shift op k x j y):=by
 unfold Op.shift
 split
 ·exact .error _
 ·dsimp only
  split<;>first|exact .pur rfl|exact .stk _
theorem q_intArith (op:BinOp)(k:IntKind)(x y:Int):MildQ Sc (Op.intArith op k x y):=by
 unfold Op.intArith
 split<;>first|exact .pur rfl|exact .stk _
theorem q_intDiv (op:BinOp)(k:IntKind)(x y:Int):MildQ Sc (Op.intDiv op k x y):=by
 unfold Op.intDiv
 split
 ·exact .error _
 ·split<;>first|exact .pur rfl|exact .stk _
theorem q_intBits (op:BinOp)(k:IntKind)(x y:Int):MildQ Sc (Op.intBits op k x y):=by
 unfold Op.intBits
 dsimp only
 split<;>first|exact .pur rfl|exact .stk _
theorem q_intCmp (op:BinOp)(x y:Int):MildQ Sc (Op.intCmp op x y):=by
 unfold Op.intCmp
 split<;>first|exact .pur rfl|exact .stk _
theorem q_floatArith (op:BinOp)(k:FloatKind)(x y:Nat):MildQ Sc (Op.floatArith op k x y):=by
 unfold Op.floatArith
 have tail:∀o:Option Nat,MildQ Sc (match o with|some r=>Pure.pure (Value.float k r)|none=>do Pure.pure (.float k (←Go.choose (.nanBits k x y)))):=by
  intro o
  cases o with
  |some r=>exact .pur rfl
  |none=>exact .bnd (.chs _) fun n _=>.pur rfl
 cases op<;>first|exact tail _|exact .stk _
theorem q_floatCmp (op:BinOp)(k:FloatKind)(x y:Nat):MildQ Sc (Op.floatCmp op k x y):=by
 unfold Op.floatCmp
 dsimp only
 split<;>first|exact .pur rfl|exact .stk _
theorem q_stringOp (op:BinOp)(x y:ByteArray):MildQ Sc (Op.stringOp op x y):=by
 unfold Op.stringOp
 dsimp only
 split<;>first|exact .pur rfl|exact .stk _|(split<;>first|exact .pur rfl|exact .uns _ (fun g h=>by cases h))
theorem q_unary_int (op:UnOp)(k:IntKind)(n:Int):MildQ Sc (Op.unary op (.int k n)):=by
 unfold Op.unary
 cases op<;>first|exact q_intArith _ _ _ _|exact q_intBits _ _ _ _|exact .stk _
theorem q_floatToInt (s:FloatKind)(b:Nat)(k:IntKind):MildQ Sc (Conv.floatToInt s b k):=by
 unfold Conv.floatToInt
 dsimp only
 have any:MildQ Sc (do Pure.pure (Value.int k (k.wrap (←Go.choose (.floatToInt s b k)))):Sem Value):=.bnd (.chs _) fun n _=>.pur rfl
 split
 ·split
  ·exact .pur rfl
  ·exact any
 ·exact any
theorem q_floatToFloat (s:FloatKind)(b:Nat)(k:FloatKind):MildQ Sc (Conv.floatToFloat s b k):=by
 unfold Conv.floatToFloat
 split
 ·exact .pur rfl
 ·split
  ·exact .bnd (.chs _) fun n _=>.pur rfl
  ·exact .pur rfl
  ·dsimp only
   split
   ·exact .bnd (.chs _) fun n _=>.pur rfl
   ·exact .pur rfl
def pureT (P:Program):Nat→TypeId→Bool
 |0,_=>false
 | n + 1, t => (match P.info? t with | some { desc := .named "sync.copyChecker" _, .. } => false | _ => true) &&
  match P.underlying t with
  |some (.int _)|some (.float _)|some .bool|some .string=>true
  |some (.struct fs)=>fs.all fun f=>pureT P n f.type
  |some (.array _ e)=>pureT P n e
  |_=>false
theorem info_like (t:TypeId):SR P F r (fun _ (a b:TypeInfo)=>a=b∧P.info? t=some a) (typeInfo t) (typeInfo t):=by
 unfold typeInfo
 refine SR.bnd sr_program fun r1 _ a b e=>?_
 rw [e.1,e.2]
 cases hi:P.info? t with
 |none=>exact .halt trivial
 |some i=>exact .pur ⟨rfl,rfl⟩
theorem numberAt_like {b B s:Nat}(hb:r b=some (B,s)):SR P F r (fun r1 x y=>(x=none∧y=none)∨∃a a' l,x=some (a,l)∧y=some (a',l)∧AR r1 a a') (numberAt b) (numberAt B):=by
 unfold numberAt
 refine SR.bnd (sr_shape hb) fun r1 hr x y h=>?_
 have hb1:=hr _ _ hb
 rcases h with ⟨e,n,C,rfl,rfl,_⟩|⟨e,n,z,rfl,rfl,_⟩|⟨rfl,rfl⟩
 ·exact .pur (.inl ⟨rfl,rfl⟩)
 ·exact .pur (.inl ⟨rfl,rfl⟩)
 ·refine SR.bnd (sr_getObj hb1) fun r2 hr2 x y h=>?_
  obtain⟨a,a',l,rfl,rfl,ha⟩:=h
  exact .pur (.inr ⟨a,a',l,rfl,rfl,ha⟩)
theorem behindNumber_like {a a':Addr}(ha:AR r a a'):SR P F r (fun r1 x y=>x.2=y.2∧AR r1 x.1 y.1) (behindNumber a) (behindNumber a'):=by
 obtain⟨b,o,B,s,rfl,hb,rfl⟩:=ha
 unfold behindNumber
 refine SR.bnd (numberAt_like hb) fun r1 hr x y h=>?_
 rcases h with ⟨rfl,rfl⟩|⟨a,a',l,rfl,rfl,ha⟩
 ·exact .pur ⟨rfl,AR.mono hr ⟨b,o,B,s,rfl,hb,rfl⟩⟩
 ·exact .pur ⟨rfl,ha⟩
theorem SR.low {A:Map→α→β→Prop}{s:Sem α}{s':Sem β}{b B k:Nat}(hb:r b=some (B,k))(h:P.globals.size≤b→P.globals.size≤B→SR P F r A s s'):SR P F r A s s':=fun v w hw=>h (hw.low b B k hb).1 (hw.low b B k hb).2 v w hw
theorem SR.end_ {A:Map→α→β→Prop}{s:Sem α}{s':Sem β}(h:∃ x,s=Sem.halt x∧x.soft):SR P F r A s s':=by
 obtain⟨x,rfl,hx⟩:=h
 exact .halt hx
theorem eq_ptrs {a a' b b' : Addr} (t : TypeId) (hn : (match P.info? t with | some { desc := .named "sync.copyChecker" _, .. } => false | _ => true) = true) (ha : AR r a a') (hb : AR r b b') : SR P F r (fun _ a b => a = b)
  (do
    let x ←behindNumber a
    let y ←behindNumber b
    let p ←program
    if(x.1.block==y.1.block&&decide (x.1.block<p.globals.size))=true then do
     let m ←byteOf x.1
     let n ←byteOf y.1
     pure (m==n)
    else do
     let i ←typeInfo t
     match i.desc with
     | .named "sync.copyChecker" _ => if (x.1 == y.1) = true then pure true else unsupported .addressObserved
     |_=>unsupported .addressObserved)
  (do
    let x ←behindNumber a'
    let y ←behindNumber b'
    let p ←program
    if(x.1.block==y.1.block&&decide (x.1.block<p.globals.size))=true then do
     let m ←byteOf x.1
     let n ←byteOf y.1
     pure (m==n)
    else do
     let i ←typeInfo t
     match i.desc with
     | .named "sync.copyChecker" _ => if (x.1 == y.1) = true then pure true else unsupported .addressObserved
     |_=>unsupported .addressObserved):=by
 refine SR.bnd (behindNumber_like ha) fun r1 h1 x x' e1=>?_
 refine SR.bnd (behindNumber_like (hb.mono h1)) fun r2 h2 y y' e2=>?_
 refine SR.bnd sr_program fun r3 h3 p p' e3=>?_
 rw [e3.1,e3.2]
 obtain⟨b1,o,B,s,hx,hb1,hx'⟩:=(e1.2.mono h2).mono h3
 refine SR.low hb1 fun l1 l2=>?_
 have n1:(x.1.block==y.1.block&&decide (x.1.block<P.globals.size))=false:=by
  rw [hx]
  simp only [Bool.and_eq_false_iff,decide_eq_false_iff_not]
  exact .inr (Nat.not_lt.2 l1)
 rw [n1]
 simp only [Bool.false_eq_true,if_false]
 have half:∀(i:TypeInfo),P.info? t=some i→∃z,(match i.desc with
    | .named "sync.copyChecker" _ => if (x.1 == y.1) = true then pure true else unsupported .addressObserved
    |_=>unsupported .addressObserved:Sem Bool)=Sem.halt z∧z.soft:=by
  intro i hi
  rw [hi]at hn
  obtain⟨desc,_⟩:=i
  split
  ·rename_i e
   dsimp only at e
   subst e
   simp at hn
  ·exact⟨_,rfl,trivial⟩
 intro v w hw ht es es'
 have hi:=info_like (P:=P) (F:=F) (r:=r3) t v w hw ht es es'
 rw [show ∀(m:Sem TypeInfo) (f:TypeInfo→Sem Bool),(m >>= f)=m.bind f from fun _ _=>rfl,Sem.runT_bind']
 generalize (typeInfo t).runT P v es=z at hi ⊢
 obtain⟨z,es1⟩:=z
 cases z with
 |halt x v1=>exact hi
 |ok i v1=>
  obtain⟨r4,i',w1,u,_,_,_,hi2⟩:=hi
  obtain⟨z,hz,hs⟩:=half i hi2
  simp only
  rw [hz]
  exact hs
theorem forIn_like {γ σ:Type}(f f':γ→σ→Sem (ForInStep σ)):∀(l:List γ) (s:σ) (r:Map),(∀r1,r.le r1→∀x,x∈l→∀s,SR P F r1 (fun _ a b=>a=b) (f x s) (f' x s))→SR P F r (fun _ a b=>a=b) (forIn l s f) (forIn l s f')
 |[],s,r,h=>.pur rfl
 |x::l,s,r,h=>by
  rw [List.forIn_cons,List.forIn_cons]
  refine SR.bnd (h r (Map.le_refl r) x List.mem_cons_self s) fun r1 h1 a b e=>?_
  subst e
  cases a with
  |done s=>exact .pur rfl
  |yield s=>exact forIn_like f f' l s r1 fun r2 h2 x hx s=>h r2 (Map.le_trans h1 h2) x (List.mem_cons_of_mem _ hx) s
theorem equalIn_like:∀(d m:Nat) (t:TypeId) (r:Map) (x x' y y':Value),pureT P m t=true→VR F r x x'→VR F r y y'→SR P F r (fun _ a b=>a=b) (Op.equalIn d t x y) (Op.equalIn d t x' y')
 |0,m,t,r,x,x',y,y',ht,hx,hy=>.halt trivial
 |d+1,0,t,r,x,x',y,y',ht,hx,hy=>by cases ht
 |d+1,m+1,t,r,x,x',y,y',ht,hx,hy=>by
  unfold Op.equalIn
  refine SR.bnd (und_like t) fun r1 hr D D' e=>?_
  obtain⟨rfl,ed⟩:=e
  unfold pureT at ht
  rw [ed]at ht
  simp only [Bool.and_eq_true]at ht
  obtain⟨hn,ht⟩:=ht
  replace hx:=hx.mono hr
  replace hy:=hy.mono hr
  cases D with
  |int k=>
   cases hx with
   |int k a=>
    cases hy with
    |int k' b=>
     dsimp only
     split
     ·exact .pur rfl
     ·exact .halt trivial
    |ptr ha=>
     rcases Decidable.em (a=0)with rfl|h0
     ·exact .pur rfl
     ·exact SR.end_ ⟨.unsupported .addressObserved,by split<;>first|rfl|(exfalso;simp_all;done),trivial⟩
    |nilp=>exact SR.end_ ⟨.unsupported .addressObserved,by split<;>first|rfl|(exfalso;simp_all;done),trivial⟩
    |_=>exact .halt trivial
   |ptr ha=>
    cases hy with
    |int k' b=>
     rcases Decidable.em (b=0)with rfl|h0
     ·exact .pur rfl
     ·exact SR.end_ ⟨.unsupported .addressObserved,by split<;>first|rfl|(exfalso;simp_all;done),trivial⟩
    |ptr hb=>exact eq_ptrs t hn ha hb
    |_=>exact .halt trivial
   |nilp=>cases hy<;>exact .halt trivial
   |_=>cases hy<;>exact .halt trivial
  |float k=>
   cases hx with
   |float k a=>
    cases hy with
    |float k' b=>
     dsimp only
     split
     ·exact .pur rfl
     ·exact .halt trivial
    |_=>exact .halt trivial
   |_=>cases hy<;>exact .halt trivial
  |bool=>
   cases hx with
   |bool a=>
    cases hy with
    |bool b=>exact .pur rfl
    |_=>exact .halt trivial
   |_=>cases hy<;>exact .halt trivial
  |string=>
   cases hx with
   |string a=>
    cases hy with
    |string b=>exact .pur rfl
    |_=>exact .halt trivial
   |_=>cases hy<;>exact .halt trivial
  |struct fs=>
   cases hx with
   |agg hx1 hx2=>
    cases hy with
    |agg hy1 hy2=>
     refine SR.bnd sr_program fun r2 h2 p p' e=>?_
     rw [e.1,e.2]
     by_cases hst:P.stoodInHeld t=true
     ·simp only [hst,if_true]
      exact .halt trivial
     ·simp only [hst,if_false,Bool.false_eq_true]
      refine SR.bnd (A:=fun _ a b=>a=b) ?_ fun r3 h3 s s' e=>by subst e;obtain⟨a,b⟩:=s;cases a<;>exact .pur rfl
      rw [←Array.forIn_toList,←Array.forIn_toList]
      refine forIn_like _ _ _ _ _ fun r3 h3 f hf s=>?_
      have hfT:pureT P m f.type=true:=Array.all_eq_true'.1 ht f (by simpa using hf)
      split
      ·refine SR.bnd (part_like _ _ (VA.mono (Map.le_trans h2 h3) ⟨hx1,hx2⟩)) fun r4 h4 a a' ha=>?_
       refine SR.bnd (part_like _ _ (VA.mono (Map.le_trans (Map.le_trans h2 h3) h4) ⟨hy1,hy2⟩)) fun r5 h5 b b' hb=>?_
       refine SR.bnd (equalIn_like d m f.type r5 a a' b b' hfT (ha.mono h5) hb) fun r6 h6 q q' e=>?_
       subst e
       split<;>exact .pur rfl
      ·exact .pur rfl
    |_=>exact .halt trivial
   |_=>cases hy<;>exact .halt trivial
  |array n e=>
   cases hx with
   |agg hx1 hx2=>
    cases hy with
    |agg hy1 hy2=>
     refine SR.bnd (mild_sizeOf e).sr fun r2 h2 k k' e=>?_
     subst e
     refine SR.bnd (A:=fun _ a b=>a=b) ?_ fun r3 h3 s s' e=>by subst e;obtain⟨a,b⟩:=s;cases a<;>exact .pur rfl
     rw [Std.Legacy.Range.forIn_eq_forIn_range',Std.Legacy.Range.forIn_eq_forIn_range']
     refine forIn_like _ _ _ _ _ fun r3 h3 i hi s=>?_
     refine SR.bnd (part_like _ _ (VA.mono (Map.le_trans h2 h3) ⟨hx1,hx2⟩)) fun r4 h4 a a' ha=>?_
     refine SR.bnd (part_like _ _ (VA.mono (Map.le_trans (Map.le_trans h2 h3) h4) ⟨hy1,hy2⟩)) fun r5 h5 b b' hb=>?_
     refine SR.bnd (equalIn_like d m _ r5 a a' b b' ht (ha.mono h5) hb) fun r6 h6 q q' e=>?_
     subst e
     split<;>exact .pur rfl
    |_=>exact .halt trivial
   |_=>cases hy<;>exact .halt trivial
  |_=>cases ht
end
section
variable {P:Program} {F:FuncId→Prop} {α β:Type} {r:Map}
theorem viewAt_like {b B s:Nat}(hb:r b=some (B,s)):SR P F r (fun r1 x y=>x=none∧y=none) (viewAt b) (viewAt B):=by
 unfold viewAt
 refine SR.bnd (sr_shape hb) fun r1 hr x y h=>?_
 have hb1:=hr _ _ hb
 rcases h with ⟨e,n,C,rfl,rfl,_⟩|⟨e,n,z,rfl,rfl,_⟩|⟨rfl,rfl⟩
 ·exact .pur ⟨rfl,rfl⟩
 ·exact .pur ⟨rfl,rfl⟩
 ·refine SR.bnd (sr_getObj hb1) fun r2 hr2 x y h=>?_
  obtain⟨a,a',l,rfl,rfl,ha⟩:=h
  exact .pur ⟨rfl,rfl⟩
theorem unsafeAdd_like0 {x x' y y':Value}(t:TypeId)(hx:VR F r x x')(hy:VR F r y y'):SR P F r (fun r1 a b=>VR F r1 a b∧a≠.nilFunc) (Builtin.unsafeAdd_ #[] t #[x,y]) (Builtin.unsafeAdd_ #[] t #[x',y']):=by
 unfold Builtin.unsafeAdd_
 cases hx with
 |nilp=>
  refine SR.bnd (asInt_like hy) fun r1 hr n n' e=>?_
  subst e
  dsimp only
  split
  ·exact .halt trivial
  ·split<;>exact .halt trivial
 |ptr ha=>
  refine SR.bnd (asInt_like hy) fun r1 hr n n' e=>?_
  subst e
  obtain⟨b,o,B,s,rfl,hb,rfl⟩:=ha.mono hr
  dsimp only
  split
  ·refine SR.bnd (viewAt_like hb) fun r2 hr2 x y h=>?_
   obtain⟨rfl,rfl⟩:=h
   exact .pur ⟨.ptr ⟨b,o,B,s,rfl,hr2 _ _ hb,rfl⟩,by simp⟩
  ·split
   ·exact .halt trivial
   ·refine SR.bnd (sr_shape hb) fun r2 hr2 x y h=>?_
    have hb2:=hr2 _ _ hb
    rcases h with ⟨e,k,C,rfl,rfl,h0⟩|⟨e,k,z,rfl,rfl,h0⟩|⟨rfl,rfl⟩
    ·rw [hb2]at h0
     injection h0 with h0;injection h0 with h1 h2
     subst h1 h2
     refine SR.bnd sr_program fun r3 hr3 p p' e=>?_
     rw [e.1,e.2]
     dsimp only [Nat.add_zero]
     split
     ·exact .pur ⟨.ptr ⟨b,_,B,0,rfl,hr3 _ _ hb2,rfl⟩,by simp⟩
     ·exact .halt trivial
    ·refine SR.bnd sr_program fun r3 hr3 p p' e'=>?_
     rw [e'.1,e'.2]
     have hc:cellAtBytes P P.depth e (k/P.cellsOf e) o n=none:=by
      unfold cellAtBytes
      have:P.cellsOf e=0:=by unfold Program.cellsOf;rw [h0];rfl
      simp [this]
     exact SR.end_ ⟨.unsupported (.unsafePointer "Add"), by rw [hc]; rfl, trivial⟩
    ·exact .halt trivial
 |_=>exact .halt trivial
theorem unsafeAdd_like {x x' y y':Value}(t:TypeId)(hx:VR F r x x')(hy:VR F r y y'):SR P F r (fun r1 a b=>VR F r1 a b) (Builtin.unsafeAdd_ #[] t #[x,y]) (Builtin.unsafeAdd_ #[] t #[x',y']):=(unsafeAdd_like0 t hx hy).mono fun _ _ _ _ h=>h.1
theorem asNumber_like {a a':Addr}(l:Bool)(ha:AR r a a'):SR P F r (fun r1 a b=>VR F r1 a b) (asNumber a l) (asNumber a' l):=SR.bnd (sr_newNumber l ha) fun r1 hr x y h=>.pur (.ptr h)
theorem movedNumber_like {x x' y y':Value}(t:TypeId)(hx:VR F r x x')(hy:VR F r y y'):SR P F r (fun r1 a b=>VR F r1 a b) (movedNumber t x y) (movedNumber t x' y'):=by
 unfold movedNumber
 refine SR.bnd (mild_underlying t).sr fun r1 hr d d' e=>?_
 subst e
 have tail:SR P F r1 (fun r1 a b=>VR F r1 a b) (do
   let .pointer (some n):=x|Builtin.unsafeAdd_ #[] t #[x,y]
   let (a,lost) ←behindNumber n
   match ←Builtin.unsafeAdd_ #[] t #[.pointer (some a),y]with
   | .pointer (some b)=>asNumber b lost
   |v=>pure v) (do
   let .pointer (some n):=x'|Builtin.unsafeAdd_ #[] t #[x',y']
   let (a,lost) ←behindNumber n
   match ←Builtin.unsafeAdd_ #[] t #[.pointer (some a),y']with
   | .pointer (some b)=>asNumber b lost
   |v=>pure v):=by
  cases hx with
  |ptr ha=>
   refine SR.bnd (behindNumber_like (ha.mono hr)) fun r2 hr2 p p' e=>?_
   obtain⟨a,l⟩:=p
   obtain⟨a',l'⟩:=p'
   obtain⟨e1,e2⟩:=e
   dsimp only at e1 e2
   subst e1
   refine SR.bnd (unsafeAdd_like0 t (.ptr e2) ((hy.mono hr).mono hr2)) fun r3 hr3 u u' hu=>?_
   obtain⟨hu,hn⟩:=hu
   cases hu with
   |voidp=>exact absurd rfl hn
   |ptr hb=>exact asNumber_like l hb
   |_=>exact .pur (by first|exact .bool _|exact .int _ _|exact .float _ _|exact .string _|exact .nilp|exact .nils _ _|exact .slice _ _ (by assumption)|exact .nilf|exact .void|exact .voidp|exact .nili|exact .chan _|exact .iface _ (by assumption)|exact .agg (by assumption) (by assumption)|exact .tuple (by assumption) (by assumption)|exact .func (by assumption) (by assumption) (by assumption) (by assumption) (by assumption))
  |nilp=>exact unsafeAdd_like t .nilp (hy.mono hr)
  |_=>exact .halt trivial
 cases d<;>first|exact tail|exact .halt trivial
theorem twoPlaces_like {a a' b b':Addr}{A:Map→(Nat×Nat)→(Nat×Nat)→Prop}(ha:AR r a a'):SR P F r A (Op.twoPlaces a b) (Op.twoPlaces a' b'):=by
 unfold Op.twoPlaces
 obtain⟨c,o,B,s,rfl,hb,rfl⟩:=ha
 refine SR.bnd sr_program fun r1 hr p p' e=>?_
 rw [e.1,e.2]
 refine SR.low (hr _ _ hb) fun l1 l2=>?_
 have:(c != b.block||decide (c ≥ P.globals.size))=true:=by simp [l1]
 dsimp only
 rw [if_pos this]
 exact .halt trivial
def Pin (P:Program)(e:TypeId)(m:Nat)(s:Nat→Sem α)(g:Except Halt α):Prop:=∀(w:World) (b:Nat) (es:Array Event),w.shape? b=some (e,m)→(s b).runT P w es=(match g with | .ok a=>(.ok a w,es) | .error h=>(.halt h w,es))
theorem Pin.ok {e:TypeId}{m:Nat}{s:Nat→Sem α}{f:Nat→α→Sem β}{a:α}{g:Except Halt β}(h:Pin P e m s (.ok a))(k:Pin P e m (fun b=>f b a) g):Pin P e m (fun b=>s b >>= f b) g:=fun w b es hs=>by
 show((s b).bind (f b)).runT P w es=_
 rw [Sem.runT_bind',h w b es hs]
 exact k w b es hs
theorem Pin.err {e:TypeId}{m:Nat}{s:Nat→Sem α}{f:Nat→α→Sem β}{x:Halt}(h:Pin P e m s (.error x)):Pin P e m (fun b=>s b >>= f b) (.error x):=fun w b es hs=>by
 show((s b).bind (f b)).runT P w es=_
 rw [Sem.runT_bind',h w b es hs]
theorem Pin.pur {e:TypeId}{m:Nat}(a:α):Pin P e m (fun _=>(Pure.pure a:Sem α)) (.ok a):=fun w b es hs=>rfl
theorem Pin.hlt {e:TypeId}{m:Nat}(x:Halt):Pin P e m (fun _=>(Sem.halt x:Sem α)) (.error x):=fun w b es hs=>rfl
theorem Pin.shape {e:TypeId}{m:Nat}:Pin P e m (fun b=>shape b) (.ok (some (e,m))):=fun w b es hs=>by
 show(Result.ok (w.shape? b) w,es)=_
 rw [hs]
theorem Pin.prog {e:TypeId}{m:Nat}:Pin P e m (fun b=>program) (.ok P):=fun w b es hs=>rfl
theorem Pin.info {e:TypeId}{m:Nat}{t:TypeId}{i:TypeInfo}(h:P.info? t=some i):Pin P e m (fun b=>typeInfo t) (.ok i):=by
 refine Pin.ok .prog ?_
 rw [h]
 exact .pur i
theorem Pin.info0 {e : TypeId} {m : Nat} {t : TypeId} (h : P.info? t = none) : Pin P e m (fun b => typeInfo t) (.error (.stuck "no such type")) := by
 refine Pin.ok .prog ?_
 rw [h]
 exact .hlt _
theorem Pin.noView {e:TypeId}{m o:Nat}:Pin P e m (fun b=>noView ⟨b,o,none⟩) (.ok ()):=by
 unfold Go.noView viewAt
 exact Pin.ok (Pin.ok .shape (.pur none)) (.pur ())
theorem pin_byteOf (e:TypeId)(m o:Nat):∃g,Pin P e m (fun b=>byteOf ⟨b,o,none⟩) g∧∀h,g=.error h→h.soft:=by
 unfold byteOf
 dsimp only
 by_cases h0:P.cellsOf e=0
 ·refine⟨.ok 0,Pin.ok .prog (Pin.ok .noView (Pin.ok .shape ?_)),fun h e=>by cases e⟩
  dsimp only
  simp only [h0,if_true]
  exact .pur 0
 ·cases hb:byteOfCell P P.depth e (o%P.cellsOf e)with
  |none=>
   refine ⟨.error (.stuck "byteOf: no such cell"), Pin.ok .prog (Pin.ok .noView (Pin.ok .shape ?_)), fun h e => (by injection e with e; subst e; exact trivial)⟩
   dsimp only
   simp only [h0,if_false,hb]
   exact .hlt _
  |some k=>
   refine⟨.ok (o/P.cellsOf e*P.bytesOf e+k),Pin.ok .prog (Pin.ok .noView (Pin.ok .shape ?_)),fun h e=>by cases e⟩
   dsimp only
   simp only [h0,if_false,hb]
   exact .pur _
theorem pin_addrMod (e:TypeId)(m o:Nat)(k:IntKind)(n:Int):∃g,Pin P e m (fun b=>Op.addrMod k ⟨b,o,none⟩ n) g∧(∀h,g=.error h→h.soft)∧∀a,g=.ok a→Sc a:=by
 unfold Op.addrMod
 cases hi:P.info? e with
 |none=>exact⟨_,Pin.ok .shape (Pin.err (.info0 hi)),fun h e=>by injection e with e;subst e;exact trivial,fun a e=>by cases e⟩
 |some i=>
  by_cases hc:(decide (n<1)||decide (n.toNat > i.align)||i.align%n.toNat != 0)=true
  ·refine⟨.error (.unsupported .addressObserved),Pin.ok .shape (Pin.ok (.info hi) ?_),fun h e=>(by injection e with e;subst e;exact trivial),fun a e=>by cases e⟩
   dsimp only
   simp only [hc,if_true]
   exact Pin.err (.hlt _)
  ·obtain⟨g,hg,hs⟩:=pin_byteOf (P:=P) e m o
   cases g with
   |error x=>
    refine⟨.error x,Pin.ok .shape (Pin.ok (.info hi) ?_),fun h e=>(by injection e with e;subst e;exact hs _ rfl),fun a e=>by cases e⟩
    dsimp only
    simp only [hc,if_false,Bool.false_eq_true]
    exact Pin.err hg
   |ok a=>
    refine⟨.ok (.int k (a%n.toNat:Nat)),Pin.ok .shape (Pin.ok (.info hi) ?_),fun h e=>(by cases e),fun a e=>by injection e with e;subst e;exact rfl⟩
    dsimp only
    simp only [hc,if_false,Bool.false_eq_true]
    exact Pin.ok hg (.pur _)
theorem addrMod_like {a a':Addr}(k:IntKind)(n:Int)(ha:AR r a a'):SR P F r (fun r1 a b=>VR F r1 a b) (Op.addrMod k a n) (Op.addrMod k a' n):=by
 obtain⟨b,o,B,s,rfl,hb,rfl⟩:=ha
 intro v w hw ht es es'
 rcases hw.live b B s hb with ⟨cs,e,lo,hi,cs',e',lo',hi',h1,h2,h3,h4,h5,h6⟩|⟨n0,n',lost,h1,h2,h3,h4⟩
 ·have s1:v.shape? b=some (e,cs.size):=by simp [World.shape?,h1]
  have s2:w.shape? B=some (e',cs'.size):=by simp [World.shape?,h2]
  obtain⟨g,hg,hs,hv⟩:=pin_addrMod (P:=P) e cs.size o k n
  rw [hg v b es s1]
  rcases h6 with ⟨rfl,h7,rfl⟩|h6
  ·cases g with
   |error x=>exact hs x rfl
   |ok y=>
    refine⟨r,y,w,[],?_,St.refl hw ht,closed1_like (hv y rfl)⟩
    rw [Nat.add_zero]
    have:=hg w B es' (by rw [s2,h7])
    rw [this]
    simp
  ·have g2 : Pin P e cs.size (fun b => Op.addrMod k ⟨b, o, none⟩ n) (.error (.stuck "no such type")) := by
    unfold Op.addrMod
    exact Pin.ok .shape (Pin.err (.info0 h6))
   have e1:=hg v b es s1
   rw [g2 v b es s1]at e1
   cases g with
   |error x=>exact hs x rfl
   |ok y=>simp at e1
 ·have s1:v.shape? b=none:=by simp [World.shape?,h1]
  have:(Op.addrMod k ⟨b,o,none⟩ n).runT P v es=(.halt (.unsupported .addressObserved) v,es):=by
   unfold Op.addrMod
   show((shape b).bind _).runT P v es=_
   rw [Sem.runT_bind',show(shape b).runT P v es=(.ok (v.shape? b) v,es)from rfl,s1]
   rfl
  rw [this]
  exact trivial
end
section
variable {P:Program} {F:FuncId→Prop} {α β:Type} {r:Map}
theorem addrSub_like {a a' b b':Addr}(k:IntKind)(ha:AR r a a'):SR P F r (fun r1 a b=>VR F r1 a b) (Op.addrSub k a b) (Op.addrSub k a' b'):=SR.bnd (A:=fun _ _ _=>False) (twoPlaces_like ha) fun _ _ _ _ h=>h.elim
theorem addrCmp_like {a a' b b':Addr}(op:BinOp)(ha:AR r a a'):SR P F r (fun r1 a b=>VR F r1 a b) (Op.addrCmp op a b) (Op.addrCmp op a' b'):=SR.bnd (A:=fun _ _ _=>False) (twoPlaces_like ha) fun _ _ _ _ h=>h.elim
theorem q_int2 (op:BinOp)(t:TypeId)(k k':IntKind)(a b:Int):MildQ Sc (binOp op t (.int k a) (.int k' b)):=by
 have gen : MildQ Sc (if k ≠ k' then stuck "BinOp: operands of different kinds" else
  match op with
  | .add | .sub | .mul=>Op.intArith op k a b
  | .quo | .rem=>Op.intDiv op k a b
  | .and | .or | .xor | .andNot=>Op.intBits op k a b
  |_=>Op.intCmp op a b):=by
  split
  ·exact .stk _
  ·split<;>first|exact q_intArith _ _ _ _|exact q_intDiv _ _ _ _|exact q_intBits _ _ _ _|exact q_intCmp _ _ _
 cases op
 case shl=>exact q_shift .shl k a k' b
 case shr=>exact q_shift .shr k a k' b
 all_goals exact gen
theorem q_float2 (op:BinOp)(t:TypeId)(k k':FloatKind)(a b:Nat):MildQ Sc (binOp op t (.float k a) (.float k' b)):=by
 have gen : MildQ Sc (if k ≠ k' then stuck "BinOp: operands of different kinds" else
  match op with
  | .add | .sub | .mul | .quo=>Op.floatArith op k a b
  |_=>Op.floatCmp op k a b):=by
  split
  ·exact .stk _
  ·split<;>first|exact q_floatArith _ _ _ _|exact q_floatCmp _ _ _ _
 cases op<;>exact gen
theorem q_string2 (op:BinOp)(t:TypeId)(a b:ByteArray):MildQ Sc (binOp op t (.string a) (.string b)):=by
 have e:binOp op t (.string a) (.string b)=Op.stringOp op a b:=by cases op<;>rfl
 rw [e]
 exact q_stringOp _ _ _
def opT (P:Program)(op:BinOp)(t:TypeId):Bool:=(match P.underlying t with|some .unsafePointer=>false|_=>true)&&match op with
 | .eql | .neq=>pureT P 8 t
 |_=>true
theorem moved_like {x x' y y':Value}{op:BinOp}(t:TypeId)(ht:opT P op t=true)(hx:VR F r x x')(hy:VR F r y y'):SR P F r (fun r1 a b=>VR F r1 a b) (do if(←underlying t) matches .unsafePointer then movedPointer t x y else movedNumber t x y) (do if(←underlying t) matches .unsafePointer then movedPointer t x' y' else movedNumber t x' y'):=by
 refine SR.bnd (und_like t) fun r1 hr d d' e=>?_
 obtain⟨rfl,ed⟩:=e
 unfold opT at ht
 rw [ed]at ht
 cases d with
 |unsafePointer=>simp at ht
 |_=>exact movedNumber_like t (hx.mono hr) (hy.mono hr)
theorem equal_like {x x' y y':Value}(t:TypeId)(ht:pureT P 8 t=true)(hx:VR F r x x')(hy:VR F r y y'):SR P F r (fun _ a b=>a=b) (Op.equal t x y) (Op.equal t x' y'):=equalIn_like _ 8 t r x x' y y' ht hx hy
theorem eql_like {x x' y y':Value}(t:TypeId)(ht:opT P .eql t=true)(hx:VR F r x x')(hy:VR F r y y'):SR P F r (fun r1 a b=>VR F r1 a b) (do pure (.bool (←Op.equal t x y)):Sem Value) (do pure (.bool (←Op.equal t x' y')):Sem Value):=
 SR.bnd (equal_like t (by unfold opT at ht;simp only [Bool.and_eq_true]at ht;exact ht.2) hx hy) fun r1 hr a b e=>by subst e;exact .pur (.bool _)
theorem neq_like {x x' y y':Value}(t:TypeId)(ht:opT P .neq t=true)(hx:VR F r x x')(hy:VR F r y y'):SR P F r (fun r1 a b=>VR F r1 a b) (do pure (.bool (!(←Op.equal t x y))):Sem Value) (do pure (.bool (!(←Op.equal t x' y'))):Sem Value):=
 SR.bnd (equal_like t (by unfold opT at ht;simp only [Bool.and_eq_true]at ht;exact ht.2) hx hy) fun r1 hr a b e=>by subst e;exact .pur (.bool _)
theorem ptr_like {a a':Addr}{y y':Value}(op:BinOp)(t:TypeId)(ht:opT P op t=true)(ha:AR r a a')(hy:VR F r y y'):SR P F r (fun r1 a b=>VR F r1 a b) (binOp op t (.pointer (some a)) y) (binOp op t (.pointer (some a')) y'):=by
 have hx:VR F r (.pointer (some a)) (.pointer (some a')):=.ptr ha
 by_cases h1:op=.eql
 ·subst h1;have hy0:=hy;cases hy<;>exact eql_like t ht hx hy0
 by_cases h2:op=.neq
 ·subst h2;have hy0:=hy;cases hy<;>exact neq_like t ht hx hy0
 cases hy with
 |int k n=>
  cases op
  case add=>exact moved_like t ht hx (.int k n)
  case sub=>exact movedNumber_like t hx (.int k (-n))
  case rem=>exact SR.bnd (behindNumber_like ha) fun r1 hr p p' e=>addrMod_like k _ e.2
  case and=>exact SR.bnd (behindNumber_like ha) fun r1 hr p p' e=>addrMod_like k _ e.2
  case eql=>exact absurd rfl h1
  case neq=>exact absurd rfl h2
  all_goals exact .halt trivial
 |ptr hb=>
  cases op
  case sub=>exact SR.bnd (behindNumber_like ha) fun r1 hr p p' e=>SR.bnd (behindNumber_like (hb.mono hr)) fun r2 hr2 q q' e2=>addrSub_like _ (e.2.mono hr2)
  case lss=>exact SR.bnd (behindNumber_like ha) fun r1 hr p p' e=>SR.bnd (behindNumber_like (hb.mono hr)) fun r2 hr2 q q' e2=>addrCmp_like _ (e.2.mono hr2)
  case leq=>exact SR.bnd (behindNumber_like ha) fun r1 hr p p' e=>SR.bnd (behindNumber_like (hb.mono hr)) fun r2 hr2 q q' e2=>addrCmp_like _ (e.2.mono hr2)
  case gtr=>exact SR.bnd (behindNumber_like ha) fun r1 hr p p' e=>SR.bnd (behindNumber_like (hb.mono hr)) fun r2 hr2 q q' e2=>addrCmp_like _ (e.2.mono hr2)
  case geq=>exact SR.bnd (behindNumber_like ha) fun r1 hr p p' e=>SR.bnd (behindNumber_like (hb.mono hr)) fun r2 hr2 q q' e2=>addrCmp_like _ (e.2.mono hr2)
  case eql=>exact absurd rfl h1
  case neq=>exact absurd rfl h2
  all_goals exact .halt trivial
 |_=>
  cases op
  case eql=>exact absurd rfl h1
  case neq=>exact absurd rfl h2
  all_goals exact .halt trivial
theorem nilp_like {y y':Value}(op:BinOp)(t:TypeId)(ht:opT P op t=true)(hy:VR F r y y'):SR P F r (fun r1 a b=>VR F r1 a b) (binOp op t (.pointer none) y) (binOp op t (.pointer none) y'):=by
 have hx:VR F r (.pointer none) (.pointer none):=.nilp
 by_cases h1:op=.eql
 ·subst h1;have hy0:=hy;cases hy<;>exact eql_like t ht hx hy0
 by_cases h2:op=.neq
 ·subst h2;have hy0:=hy;cases hy<;>exact neq_like t ht hx hy0
 cases hy with
 |int k n=>
  cases op
  case add=>exact moved_like t ht hx (.int k n)
  case sub=>exact movedNumber_like t hx (.int k (-n))
  case eql=>exact absurd rfl h1
  case neq=>exact absurd rfl h2
  all_goals exact .halt trivial
 |_=>
  cases op
  case eql=>exact absurd rfl h1
  case neq=>exact absurd rfl h2
  all_goals exact .halt trivial
theorem int_like {y y':Value}(op:BinOp)(k:IntKind)(n:Int)(t:TypeId)(ht:opT P op t=true)(hy:VR F r y y'):SR P F r (fun r1 a b=>VR F r1 a b) (binOp op t (.int k n) y) (binOp op t (.int k n) y'):=by
 have hx:VR F r (.int k n) (.int k n):=.int k n
 have hy0:=hy
 cases hy with
 |int j m=>exact(q_int2 op t k j n m).val
 |ptr ha=>
  cases op
  case add=>exact movedNumber_like t (.ptr ha) hx
  case and=>exact SR.bnd (behindNumber_like ha) fun r1 hr p p' e=>addrMod_like k _ e.2
  case eql=>exact eql_like t ht hx (.ptr ha)
  case neq=>exact neq_like t ht hx (.ptr ha)
  all_goals exact .halt trivial
 |nilp=>
  cases op
  case add=>exact movedNumber_like t .nilp hx
  case eql=>exact eql_like t ht hx .nilp
  case neq=>exact neq_like t ht hx .nilp
  all_goals exact .halt trivial
 |_=>
  cases op
  case eql=>exact eql_like t ht hx hy0
  case neq=>exact neq_like t ht hx hy0
  all_goals exact .halt trivial
theorem dead_op {x y x' y':Value}(op:BinOp)(t:TypeId)(hx:VR F r x x')(hy:VR F r y y')(g1:op≠.eql)(g2:op≠.neq)(h0:∀ a,x≠.pointer a)(h1:∀ k n,x≠.int k n)(h2:∀ k n s m,¬ (x=.float k n∧y=.float s m))(h3:∀ s u,¬ (x=.string s∧y=.string u)):∃z,binOp op t x y=Sem.halt z∧z.soft:=by
 have e : ∃ z, (match y with | .pointer _ => unsupported .addressObserved | _ => stuck "BinOp: no such operator on these operands" : Sem Value) = Sem.halt z ∧ z.soft := by
  cases hy<;>exact⟨_,rfl,trivial⟩
 obtain⟨z,e,hz⟩:=e
 refine⟨z,?_,hz⟩
 rw [←e]
 clear e
 unfold binOp
 split<;>first|rfl|exact absurd ⟨rfl,rfl⟩ (h2 _ _ _ _)|exact absurd ⟨rfl,rfl⟩ (h3 _ _)|exact absurd rfl (h0 _)|exact absurd rfl (h1 _ _)|exact absurd rfl g1|exact absurd rfl g2|(cases hx;done)|skip
 all_goals (rename_i hp _ _ _ _ _ _ _ _ _ _ _ _ _ _ _ _ _;cases hy<;>first|rfl|exact(hp _ rfl).elim)
theorem binOp_like {x x' y y':Value}(op:BinOp)(t:TypeId)(ht:opT P op t=true)(hx:VR F r x x')(hy:VR F r y y'):SR P F r (fun r1 a b=>VR F r1 a b) (binOp op t x y) (binOp op t x' y'):=by
 by_cases p0:∃a,x=.pointer a
 ·obtain⟨a,rfl⟩:=p0
  cases hx with
  |nilp=>exact nilp_like op t ht hy
  |ptr ha=>exact ptr_like op t ht ha hy
 by_cases p1:∃k n,x=.int k n
 ·obtain⟨k,n,rfl⟩:=p1
  cases hx
  exact int_like op k n t ht hy
 by_cases p2:∃k n s m,x=.float k n∧y=.float s m
 ·obtain⟨k,n,s,m,rfl,rfl⟩:=p2
  cases hx;cases hy
  exact(q_float2 op t k s n m).val
 by_cases p3:∃s u,x=.string s∧y=.string u
 ·obtain⟨s,u,rfl,rfl⟩:=p3
  cases hx;cases hy
  exact(q_string2 op t s u).val
 have h0:∀a,x≠.pointer a:=fun a h=>p0 ⟨a,h⟩
 have h1:∀k n,x≠.int k n:=fun k n h=>p1 ⟨k,n,h⟩
 have h2:∀k n s m,¬(x=.float k n∧y=.float s m):=fun k n s m h=>p2 ⟨k,n,s,m,h⟩
 have h3:∀s u,¬(x=.string s∧y=.string u):=fun s u h=>p3 ⟨s,u,h⟩
 by_cases g1:op=.eql
 ·subst g1
  have e:=eql_like t ht hx hy
  clear p0 p1 p2 p3
  cases hx<;>first|exact absurd rfl (h0 _)|exact absurd rfl (h1 _ _)|(cases hy<;>first|exact absurd ⟨rfl,rfl⟩ (h2 _ _ _ _)|exact absurd ⟨rfl,rfl⟩ (h3 _ _)|exact e)
 by_cases g2:op=.neq
 ·subst g2
  have e:=neq_like t ht hx hy
  clear p0 p1 p2 p3
  cases hx<;>first|exact absurd rfl (h0 _)|exact absurd rfl (h1 _ _)|(cases hy<;>first|exact absurd ⟨rfl,rfl⟩ (h2 _ _ _ _)|exact absurd ⟨rfl,rfl⟩ (h3 _ _)|exact e)
 exact .end_ (dead_op op t hx hy g1 g2 h0 h1 h2 h3)
end
section
variable {P:Program} {F:FuncId→Prop} {α β:Type} {r:Map}
def PR (F:FuncId→Prop)(r:Map)(ps qs:List (Nat×Value)):Prop:=ps.length=qs.length∧∀(i:Nat) (p q:Nat×Value),ps[i]?=some p→qs[i]?=some q→p.1=q.1∧VR F r p.2 q.2
theorem PR.mono {s:Map}(h:r.le s){ps qs:List (Nat×Value)}(k:PR F r ps qs):PR F s ps qs:=⟨k.1,fun i p q h1 h2=>⟨(k.2 i p q h1 h2).1,(k.2 i p q h1 h2).2.mono h⟩⟩
theorem lay_like (off:Nat):∀(xs ys:List (Value×Nat)) (cs ds:Array Value),VA F r cs ds→xs.length=ys.length→(∀(i:Nat) (p q:Value×Nat),xs[i]?=some p→ys[i]?=some q→p.2=q.2∧VR F r p.1 q.1) →
  VA F r (xs.foldl (fun cs (c,j)=>cs.setIfInBounds (off+j) c) cs) (ys.foldl (fun cs (c,j)=>cs.setIfInBounds (off+j) c) ds)
 |[],[],cs,ds,h,hl,k=>h
 |p::xs,q::ys,cs,ds,h,hl,k=>by
  obtain⟨e,hv⟩:=k 0 p q rfl rfl
  obtain⟨c,j⟩:=p
  obtain⟨c',j'⟩:=q
  dsimp only at e
  subst e
  exact lay_like off xs ys _ _ (h.set hv _) (by simpa using hl) fun i p q h1 h2=>k (i+1) p q (by simpa using h1) (by simpa using h2)
 |[],_::_,cs,ds,h,hl,k=>by simp at hl
 |_::_,[],cs,ds,h,hl,k=>by simp at hl
theorem fill_like (place:Nat→Option (Nat×Nat)):∀(ps qs:List (Nat×Value)) (cs ds:Array Value),VA F r cs ds→PR F r ps qs →
  (Instr.fill place cs ps=none∧Instr.fill place ds qs=none)∨∃a b,Instr.fill place cs ps=some a∧Instr.fill place ds qs=some b∧VA F r a b
 |[],[],cs,ds,h,k=>.inr ⟨cs,ds,rfl,rfl,h⟩
 |(i,x)::ps,(j,y)::qs,cs,ds,h,k=>by
  obtain⟨e,hv⟩:=k.2 0 (i,x) (j,y) rfl rfl
  dsimp only at e hv
  subst e
  have k':PR F r ps qs:=⟨by have:=k.1;simpa using this,fun i p q h1 h2=>k.2 (i+1) p q (by simpa using h1) (by simpa using h2)⟩
  unfold Instr.fill
  cases hp:place i with
  |none=>exact .inl ⟨rfl,rfl⟩
  |some p=>
   obtain⟨off,size⟩:=p
   dsimp only
   have hc:=hv.cells
   have e1:(decide (y.cells.size≠size)||decide (off+y.cells.size > ds.size))=(decide (x.cells.size≠size)||decide (off+x.cells.size > cs.size)):=by rw [hc.1,h.1]
   by_cases hb:(decide (x.cells.size≠size)||decide (off+x.cells.size > cs.size))=true
   ·rw [e1];simp only [hb,if_true]
    exact .inl ⟨by first|rfl|trivial,by first|rfl|trivial⟩
   ·rw [e1];simp only [hb,if_false,Bool.false_eq_true]
    refine fill_like place ps qs _ _ ?_ k'
    rw [←Array.foldl_toList,←Array.foldl_toList]
    refine lay_like off _ _ _ _ h (by simp [hc.1]) fun i p q h1 h2=>?_
    simp only [Array.toList_zipIdx,List.getElem?_zipIdx,Array.getElem?_toList]at h1 h2
    obtain⟨a,ha,rfl⟩:=Option.map_eq_some_iff.1 h1
    obtain⟨b,hb,rfl⟩:=Option.map_eq_some_iff.1 h2
    exact⟨by first|rfl|trivial,hc.2 i a b ha hb⟩
 |[],_::_,cs,ds,h,k=>by have:=k.1;simp at this
 |_::_,[],cs,ds,h,k=>by have:=k.1;simp at this
theorem mapM_mild {γ δ:Type}(f:γ→Sem δ)(hf:∀ x,Mild (f x))(xs:Array γ):Mild (xs.mapM f):=by
 rw [Array.mapM_eq_mapM_toList]
 refine Mild.map ?_
 generalize xs.toList=l
 induction l with
 |nil=>exact .pur _
 |cons x l ih=>rw [List.mapM_cons];exact Mild.bnd (hf x) fun a=>Mild.bnd ih fun b=>.pur _
theorem build_like {ps qs:Array (Nat×Value)}(t:TypeId)(ht:zeroOk P t=true)(h:PR F r ps.toList qs.toList):SR P F r (fun r1 a b=>VR F r1 a b) (Instr.build t ps) (Instr.build t qs):=by
 unfold Instr.build
 refine SR.bnd (zeroValue_like t ht) fun r1 hr z z' e=>?_
 obtain⟨rfl,hz⟩:=e
 refine SR.bnd (mild_underlying t).sr fun r2 hr2 d d' e=>?_
 subst e
 have hz':=(hz.mono hr2).cells
 cases d with
 |struct fs=>
  refine SR.bnd (mapM_mild _ (fun f=>Mild.bnd (mild_sizeOf _) fun n=>.pur _) fs).sr fun r3 hr3 pl pl' e=>?_
  subst e
  rcases fill_like (fun i=>pl[i]?) ps.toList qs.toList z.cells z.cells (hz'.mono hr3) (((h.mono hr).mono hr2).mono hr3)with ⟨e1,e2⟩|⟨a,b,e1,e2,hab⟩
  ·rw [e1,e2]
   exact .halt trivial
  ·rw [e1,e2]
   exact .pur (.agg' hab)
 |array n elem=>
  refine SR.bnd (mild_sizeOf elem).sr fun r3 hr3 k k' e=>?_
  subst e
  rcases fill_like (fun i=>some (i*k,k)) ps.toList qs.toList z.cells z.cells (hz'.mono hr3) (((h.mono hr).mono hr2).mono hr3)with ⟨e1,e2⟩|⟨a,b,e1,e2,hab⟩
  ·rw [e1,e2]
   exact .halt trivial
  ·rw [e1,e2]
   exact .pur (.agg' hab)
 |_=>exact .halt trivial
theorem buildSlice_like {ps qs:Array (Nat×Value)}(t:TypeId)(len:Nat)(ht:elemSz P t=true)(h:PR F r ps.toList qs.toList):SR P F r (fun r1 a b=>VR F r1 a b) (Instr.buildSlice t len ps) (Instr.buildSlice t len qs):=by
 unfold Instr.buildSlice
 refine SR.bnd (und_like t) fun r1 hr d d' e=>?_
 obtain⟨rfl,ed⟩:=e
 cases d with
 |slice elem=>
  unfold elemSz at ht
  rw [ed]at ht
  dsimp only at ht ⊢
  refine SR.bnd (mild_sizeOf elem).sr fun r2 hr2 k k' e=>?_
  subst e
  split
  ·exact .halt trivial
  ·have tail:∀(r3:Map) (z:Array Value),r2.le r3→VA F r3 ((Array.range (len*k)).map (z[·%z.size]!)) ((Array.range (len*k)).map (z[·%z.size]!))→SR P F r3 (fun r1 a b=>VR F r1 a b) (do
     let some cells:=Instr.fill (fun i=>some (i*k,k)) ((Array.range (len*k)).map (z[·%z.size]!)) ps.toList
      | stuck "buildSlice: a part of the wrong size"
     pure (Value.slice (some (←newRow elem cells)) len len)) (do
     let some cells:=Instr.fill (fun i=>some (i*k,k)) ((Array.range (len*k)).map (z[·%z.size]!)) qs.toList
      | stuck "buildSlice: a part of the wrong size"
     pure (Value.slice (some (←newRow elem cells)) len len)):=by
    intro r3 z h3 hz
    rcases fill_like (fun i=>some (i*k,k)) ps.toList qs.toList _ _ hz (((h.mono hr).mono hr2).mono h3)with ⟨e1,e2⟩|⟨a,b,e1,e2,hab⟩
    ·rw [e1,e2]
     exact .halt trivial
    ·rw [e1,e2]
     exact SR.bnd (sr_newRow elem hab) fun r4 hr4 a b ha=>SR.pur (VR.slice _ _ ha)
   by_cases hn:len*k=0
   ·simp only [hn,if_true]at tail ⊢
    refine SR.bnd (A:=fun r1 (a b:Array Value)=>a=b) (.pur rfl) fun r3 hr3 z z' e=>?_
    subst e
    exact tail r3 z hr3 ⟨rfl,fun i v v' h1 h2=>by simp at h1⟩
   ·simp only [hn,if_false]
    refine SR.bnd (zeroValue_sz elem ht) fun r3 hr3 z z' e=>?_
    obtain⟨rfl,h1,h2⟩:=e
    refine SR.bnd (A:=fun r1 (a b:Array Value)=>a=z.cells∧b=z.cells) (.pur ⟨rfl,rfl⟩) fun r4 hr4 a b e=>?_
    obtain⟨rfl,rfl⟩:=e
    exact tail r4 _ (Map.le_trans hr3 hr4) (zeros_like _ (h1.mono hr4).cells (.inl h2))
 |_=>exact .halt trivial
theorem unary_like {x x':Value}(op:UnOp)(hx:VR F r x x'):SR P F r (fun r1 a b=>VR F r1 a b) (Op.unary op x) (Op.unary op x'):=by
 cases hx with
 |int k n=>exact(q_unary_int op k n).val
 |float k n=>exact MildQ.val (by cases op<;>first|exact .pur rfl|exact .stk _)
 |bool b=>exact MildQ.val (by cases op<;>first|exact .pur rfl|exact .stk _)
 |_=>cases op<;>exact .halt trivial
def numT (P:Program)(t:TypeId):Bool:=match P.underlying t with
 |some (.int _)|some (.float _)=>true
 |_=>false
theorem convert_like {x x':Value}(s d:TypeId)(hs:numT P s=true)(hd:numT P d=true)(hx:VR F r x x'):SR P F r (fun r1 a b=>VR F r1 a b) (convert s d x) (convert s d x'):=by
 unfold convert
 refine SR.bnd (und_like s) fun r1 hr a a' e=>?_
 obtain⟨rfl,ea⟩:=e
 refine SR.bnd (und_like d) fun r2 hr2 b b' e=>?_
 obtain⟨rfl,eb⟩:=e
 unfold numT at hs hd
 rw [ea]at hs
 rw [eb]at hd
 have hx':=(hx.mono hr).mono hr2
 have one:∀k,a=.int k∨(∃k,a=.float k)→True:=fun _ _=>trivial
 cases b with
 |int k=>
  cases hx' with
  |int j n=>cases a<;>first|exact(MildQ.pur rfl:MildQ Sc (Conv.intToInt k n)).val|(cases hs;done)
  |float j n=>cases a<;>first|exact(q_floatToInt j n k).val|(cases hs;done)
  |_=>cases a<;>first|(cases hs;done)|exact .halt trivial
 |float k=>
  cases hx' with
  |int j n=>cases a<;>first|exact(MildQ.pur rfl:MildQ Sc (Conv.intToFloat k n)).val|(cases hs;done)
  |float j n=>cases a<;>first|exact(q_floatToFloat j n k).val|(cases hs;done)
  |_=>cases a<;>first|(cases hs;done)|exact .halt trivial
 |_=>cases hd
end
section
variable {P:Program} {F:FuncId→Prop} {α β:Type} {r:Map}
theorem q_max2 (k j:FloatKind)(n m:Nat):MildQ Sc (Builtin.max2 (.float k n) (.float j m)):=by
 show MildQ Sc (match k.format.order n m with|none=>(do Pure.pure (.float k (←Go.choose (.nanMinMax k true n m))))|some .lt=>Pure.pure (.float k m)|some .gt=>Pure.pure (.float k n)|some .eq=>Pure.pure (.float k (if(k.decode n).neg then m else n)))
 split<;>first|exact .pur rfl|exact .bnd (.chs _) fun n _=>.pur rfl
theorem max2_like {x x' y y':Value}(hx:VR F r x x')(hy:VR F r y y'):SR P F r (fun r1 a b=>VR F r1 a b) (Builtin.max2 x y) (Builtin.max2 x' y'):=by
 cases hx with
 |int k n=>cases hy<;>first|exact .pur (.int _ _)|exact .halt trivial
 |float k n=>
  cases hy with
  |float j m=>
   exact(q_max2 k j n m).val
  |_=>exact .halt trivial
 |string s=>
  cases hy with
  |string u=>
   refine MildQ.val ?_
   unfold Builtin.max2
   have:MildQ (fun b=>∃c,b=Value.bool c) (Op.stringOp .geq s u):=.pur ⟨_,rfl⟩
   refine .bnd this fun b hb=>?_
   obtain⟨c,rfl⟩:=hb
   exact .bnd (Q:=fun _=>True) (.pur trivial) fun b _=>.pur (by cases b<;>rfl)
  |_=>exact .halt trivial
 |ptr ha=>cases hy<;>exact .halt trivial
 |_=>cases hy<;>exact .halt trivial
theorem q_min2 (k j:FloatKind)(n m:Nat):MildQ Sc (Builtin.min2 (.float k n) (.float j m)):=by
 show MildQ Sc (match k.format.order n m with|none=>(do Pure.pure (.float k (←Go.choose (.nanMinMax k false n m))))|some .lt=>Pure.pure (.float k n)|some .gt=>Pure.pure (.float k m)|some .eq=>Pure.pure (.float k (if(k.decode n).neg then n else m)))
 split<;>first|exact .pur rfl|exact .bnd (.chs _) fun n _=>.pur rfl
theorem min2_like {x x' y y':Value}(hx:VR F r x x')(hy:VR F r y y'):SR P F r (fun r1 a b=>VR F r1 a b) (Builtin.min2 x y) (Builtin.min2 x' y'):=by
 cases hx with
 |int k n=>cases hy<;>first|exact .pur (.int _ _)|exact .halt trivial
 |float k n=>
  cases hy with
  |float j m=>
   exact(q_min2 k j n m).val
  |_=>exact .halt trivial
 |string s=>
  cases hy with
  |string u=>
   refine MildQ.val ?_
   unfold Builtin.min2
   have:MildQ (fun b=>∃c,b=Value.bool c) (Op.stringOp .leq s u):=.pur ⟨_,rfl⟩
   refine .bnd this fun b hb=>?_
   obtain⟨c,rfl⟩:=hb
   exact .bnd (Q:=fun _=>True) (.pur trivial) fun b _=>.pur (by cases b<;>rfl)
  |_=>exact .halt trivial
 |ptr ha=>cases hy<;>exact .halt trivial
 |_=>cases hy<;>exact .halt trivial
theorem fold2_like (f:Value→Value→Sem Value)(hf:∀ (r:Map) (x x' y y':Value),VR F r x x'→VR F r y y'→SR P F r (fun r1 a b=>VR F r1 a b) (f x y) (f x' y')) :
  ∀(xs ys:List Value) (x x':Value) (r:Map),VR F r x x'→xs.length=ys.length→(∀(i:Nat) (v v':Value),xs[i]?=some v→ys[i]?=some v'→VR F r v v')→SR P F r (fun r1 a b=>VR F r1 a b) (xs.foldlM f x) (ys.foldlM f x')
 |[],[],x,x',r,hx,hl,h=>.pur hx
 |a::xs,b::ys,x,x',r,hx,hl,h=>by
  rw [List.foldlM_cons,List.foldlM_cons]
  exact SR.bnd (hf r x x' a b hx (h 0 a b rfl rfl)) fun r1 hr u u' hu=>fold2_like f hf xs ys u u' r1 hu (by simpa using hl) fun i v v' h1 h2=>(h (i+1) v v' (by simpa using h1) (by simpa using h2)).mono hr
 |[],_::_,x,x',r,hx,hl,h=>by simp at hl
 |_::_,[],x,x',r,hx,hl,h=>by simp at hl
theorem max_like {xs ys:Array Value}(ts:Array TypeId)(t:TypeId)(h:VA F r xs ys):SR P F r (fun r1 a b=>VR F r1 a b) (Builtin.max_ ts t xs) (Builtin.max_ ts t ys):=by
 unfold Builtin.max_
 obtain⟨xs⟩:=xs
 obtain⟨ys⟩:=ys
 obtain⟨h1,h2⟩:=h
 simp only [List.size_toArray,List.getElem?_toArray]at h1 h2
 cases xs with
 |nil=>exact .halt trivial
 |cons a xs=>
  cases ys with
  |nil=>simp at h1
  |cons b ys=>exact fold2_like _ (fun r x x' y y' hx hy=>max2_like hx hy) xs ys a b r (h2 0 a b rfl rfl) (by simpa using h1) fun i v v' k1 k2=>h2 (i+1) v v' (by simpa using k1) (by simpa using k2)
theorem min_like {xs ys:Array Value}(ts:Array TypeId)(t:TypeId)(h:VA F r xs ys):SR P F r (fun r1 a b=>VR F r1 a b) (Builtin.min_ ts t xs) (Builtin.min_ ts t ys):=by
 unfold Builtin.min_
 obtain⟨xs⟩:=xs
 obtain⟨ys⟩:=ys
 obtain⟨h1,h2⟩:=h
 simp only [List.size_toArray,List.getElem?_toArray]at h1 h2
 cases xs with
 |nil=>exact .halt trivial
 |cons a xs=>
  cases ys with
  |nil=>simp at h1
  |cons b ys=>exact fold2_like _ (fun r x x' y y' hx hy=>min2_like hx hy) xs ys a b r (h2 0 a b rfl rfl) (by simpa using h1) fun i v v' k1 k2=>h2 (i+1) v v' (by simpa using k1) (by simpa using k2)
theorem lenOf_like {x x':Value}(hx:VR F r x x'):SR P F r (fun _ a b=>a=b) (Builtin.lenOf x) (Builtin.lenOf x'):=by
 cases hx<;>first|exact .pur rfl|exact .halt trivial
theorem firstCells_like {x x':Value}(size n:Nat)(hx:VR F r x x'):SR P F r (fun r1 a b=>VA F r1 a b) (Builtin.firstCells size n x) (Builtin.firstCells size n x'):=by
 cases hx with
 |nils l c=>exact .pur VA.empty
 |slice l c ha=>exact loadCells_like _ ha
 |string s=>
  refine .pur ⟨rfl,fun i v v' h1 h2=>?_⟩
  rw [h1]at h2;injection h2 with h2;subst h2
  rw [Array.getElem?_map]at h1
  obtain⟨b,_,rfl⟩:=Option.map_eq_some_iff.1 h1
  exact .int _ _
 |_=>exact .halt trivial
theorem two_like {xs ys:Array Value}(h:VA F r xs ys)(i:Nat):(xs[i]?=none∧ys[i]?=none)∨∃a b,xs[i]?=some a∧ys[i]?=some b∧VR F r a b:=by
 cases hx:xs[i]? with
 |none=>exact .inl ⟨rfl,h.none hx⟩
 |some a=>
  obtain⟨b,hb,hv⟩:=h.get hx
  exact .inr ⟨a,b,rfl,hb,hv⟩
def lenT (P:Program)(t:TypeId):Bool:=match P.underlying t with
 |some (.slice _)|some .string|some (.array _ _)=>true
 |_=>false
theorem len_like {xs ys:Array Value}(ts:Array TypeId)(t:TypeId)(ht:∀ u,ts[0]?=some u→lenT P u=true)(h:VA F r xs ys):SR P F r (fun r1 a b=>VR F r1 a b) (Builtin.len_ ts t xs) (Builtin.len_ ts t ys):=by
 unfold Builtin.len_
 cases hu:ts[0]? with
 |none=>exact .halt trivial
 |some u=>
  have hT:=ht u hu
  rcases two_like h 0 with ⟨e1,e2⟩|⟨a,b,e1,e2,hv⟩
  ·rw [e1,e2];exact .halt trivial
  ·rw [e1,e2]
   dsimp only
   refine SR.bnd (und_like u) fun r1 hr d d' e=>?_
   obtain⟨rfl,ed⟩:=e
   unfold lenT at hT
   rw [ed]at hT
   have hv':=hv.mono hr
   cases d with
   |slice elem=>cases hv'<;>first|exact .pur (.int _ _)|exact .halt trivial
   |string=>cases hv'<;>first|exact .pur (.int _ _)|exact .halt trivial
   |array n e=>cases hv'<;>exact .pur (.int _ _)
   |_=>cases hT
theorem copy_like {xs ys:Array Value}(ts:Array TypeId)(t:TypeId)(h:VA F r xs ys):SR P F r (fun r1 a b=>VR F r1 a b) (Builtin.copy_ ts t xs) (Builtin.copy_ ts t ys):=by
 unfold Builtin.copy_
 cases hu:ts[0]? with
 |none=>exact .halt trivial
 |some u=>
  rcases two_like h 0 with ⟨e1,e2⟩|⟨a,b,e1,e2,hv⟩
  ·rw [e1,e2];exact .halt trivial
  rcases two_like h 1 with ⟨g1,g2⟩|⟨c,d,g1,g2,hw⟩
  ·rw [e1,e2,g1,g2];exact .halt trivial
  rw [e1,e2,g1,g2]
  dsimp only
  refine SR.bnd (mild_underlying u).sr fun r1 hr d d' e=>?_
  subst e
  cases d with
  |slice elem=>
   dsimp only
   cases hv with
   |nils l c=>
    refine SR.bnd (lenOf_like (hw.mono hr)) fun r2 hr2 n n' e=>?_
    subst e
    refine SR.bnd (mild_sizeOf elem).sr fun r3 hr3 k k' e=>?_
    subst e
    refine SR.bnd (firstCells_like k _ (((hw.mono hr).mono hr2).mono hr3)) fun r4 hr4 cs cs' hc=>?_
    exact .pur (.int _ _)
   |slice l c ha=>
    refine SR.bnd (lenOf_like (hw.mono hr)) fun r2 hr2 n n' e=>?_
    subst e
    refine SR.bnd (mild_sizeOf elem).sr fun r3 hr3 k k' e=>?_
    subst e
    refine SR.bnd (firstCells_like k _ (((hw.mono hr).mono hr2).mono hr3)) fun r4 hr4 cs cs' hc=>?_
    refine SR.bnd (storeCells_arr ((((ha.mono hr).mono hr2).mono hr3).mono hr4) hc) fun r5 hr5 _ _ _=>?_
    exact .pur (.int _ _)
   |_=>exact .halt trivial
  |_=>exact .halt trivial
theorem look_mayShare (size sLen n:Nat)(base:Option Addr)(x:Value):Look (Builtin.mayShare size sLen n base x):=by
 have hh:∀(a:Addr) (k:Nat),Look (Builtin.holdsCells a k):=fun a k=>.shape _ _ fun p=>by cases p<;>exact .pure _
 unfold Builtin.mayShare
 have tail:∀there:Bool,Look (do
   if !there then return true
   match x with
   | .slice (some b) _ _=>do pure (!(←Builtin.holdsCells b (n*size))||base.any (·.block==b.block))
   |_=>pure false):=by
  intro there
  cases there
  ·exact .pure _
  ·simp only [Bool.not_true,Bool.false_eq_true,if_false]
   split
   ·exact Look.bnd (hh _ _) fun p=>.pure _
   ·exact .pure _
 cases base with
 |none=>exact Look.bnd (.pure true) tail
 |some a=>exact Look.bnd (hh a (sLen*size)) fun p=>Look.bnd (.frozen _ _ fun q=>.pure _) fun q=>Look.bnd (.pure _) tail
end
end Go.Proofs.YtngdldcgkaplbaaGreat.Lk