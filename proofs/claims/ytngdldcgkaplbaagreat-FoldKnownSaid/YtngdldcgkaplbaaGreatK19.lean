import Derived.Test.YtngdldcgkaplbaaGreatK18
import Derived.Conc.TokenWalk
import Derived.Laws.MakeOwn
import Derived.Conc.SmallLaws
import Derived.Room.Make
set_option linter.unusedVariables false
set_option linter.unusedSimpArgs false
set_option maxRecDepth 100000
namespace Go.Proofs.YtngdldcgkaplbaaGreat.Gt
open Go Go.Conc Go.Conc.Lib
open Go.ConcN (ShN RelBy upd upd_same upd_ne WgLive WD)
open Go.ConcR (KK WgAt stA smA rd wr DC0 Payload g_of_ofEvents)
open Lk Fw
def rx (c:Cf):Map:=fun b=>if b=c.v.heap.size then some (c.p.A+4,0)else c.r b
def Kn (c:Cf)(x:Value):Prop:=∃g,VR FF (rx c) g x
def sbV (c:Cf):Value:=.slice (some ⟨c.p.A+4,0,none⟩) c.W c.W
structure Tm (c:Cf)(T:Array Value):Prop where
 size:T.size=75
 t3:T.getD 3 undef=nbV c
 t5:T.getD 5 undef=obV c
 t7:T.getD 7 undef=chV c
 t8:T.getD 8 undef=sbV c
 t9:T.getD 9 undef=wgV c
 t17:T.getD 17 undef=.int .i64 c.W
 ok:∀(i:Nat) (x:Value),T[i]?=some x→Kn c x
section
variable {c:Cf} {T:Array Value} {cs:List Frame} {w:World}
theorem Kn.int (k:IntKind)(n:Int):Kn c (.int k n):=⟨_,.int k n⟩
theorem Kn.bool (b:Bool):Kn c (.bool b):=⟨_,.bool b⟩
theorem Kn.undef:Kn c undef:=⟨_,VR.undef⟩
theorem Kn.chan (x:Option Nat):Kn c (.chan x):=⟨_,.chan x⟩
theorem Kn.func (f:Fn)(xs us:Array Value):Kn c (.func f xs us):=⟨_,.void⟩
theorem Kn.ptr (a:Addr):Kn c (.pointer (some a)):=⟨_,.voidp⟩
theorem Kn.slice (l k:Nat):Kn c (.slice (some ⟨c.p.A+4,0,none⟩) l k):=⟨.slice (some ⟨c.v.heap.size,0,none⟩) l k,.slice l k ⟨c.v.heap.size,0,c.p.A+4,0,rfl,by simp [rx],rfl⟩⟩
theorem Tm.set (h:Tm c T){i:Nat}{x:Value}(hx:Kn c x)(hi:i≠3∧i≠5∧i≠7∧i≠8∧i≠9∧i≠17):Tm c (T.setIfInBounds i x):=by
 have g:∀j,i≠j→(T.setIfInBounds i x).getD j undef=T.getD j undef:=fun j hj=>by
  simp only [Array.getD_eq_getD_getElem?,Array.getElem?_setIfInBounds_ne hj]
 refine⟨by simpa using h.size,(g 3 hi.1).trans h.t3,(g 5 hi.2.1).trans h.t5,(g 7 hi.2.2.1).trans h.t7,(g 8 hi.2.2.2.1).trans h.t8,(g 9 hi.2.2.2.2.1).trans h.t9,(g 17 hi.2.2.2.2.2).trans h.t17,fun j y hy=>?_⟩
 rw [Array.getElem?_setIfInBounds]at hy
 split at hy
 ·split at hy
  ·injection hy with hy;subst hy;exact hx
  ·cases hy
 ·exact h.ok j y hy
theorem getD_ne {i j:Nat}{x:Value}(h:i≠j):(T.setIfInBounds i x).getD j undef=T.getD j undef:=by
 simp only [Array.getD_eq_getD_getElem?,Array.getElem?_setIfInBounds_ne h]
theorem Tm.fork (h:Tm c T)(j:Int):Tm c (forkT T (.int .i64 j)):=((h.set (.bool _) (by decide)).set (.int _ _) (by decide)).set (.int _ _) (by decide)
theorem Tm.go (h:Tm c T)(j:Int)(a:Addr):Tm c (goT T (wgV c) (chV c) (nbV c) (obV c) (sbV c) (.int .i64 j) (.pointer (some a))):=
 (((h.set (.func _ _ _) (by decide)).set (.slice _ _) (by decide)).set (.int _ _) (by decide)).set (.ptr _) (by decide)
theorem Tm.inc (h:Tm c T)(j:Int):Tm c (incT T j):=(h.set (.int _ _) (by decide)).set (.int _ _) (by decide)
theorem Tm.send (h:Tm c T):Tm c (sendT T):=(h.set (.bool _) (by decide)).set (.int _ _) (by decide)
theorem Sm.call {main:Bool}{b:Frame}(hk:b.kind≠.early){a:Act}{ops:Array Oper}{i:Nat}{rest:List Nat}{o:Oper}{k:List Item}{f:FuncId}{fn:Func}{cd:Code}{args:Array Operand}{ats:Array TypeId}
  (ho : ops[i]? = some o) (hw : Region.wanted o (yielded ops a.tmps) = true) (hop : o.op = .call { callee := .value (.func f), args, argTypes := ats }) (hf : P.funcs[f]? = some fn) (hname : (fn.name == "runtime.NumGoroutine") = false) (hb : fn.body = some cd) :
  Sm main 1 (G (b.at a (.inRegion ops (i::rest)::k)) cs) (G ((base f).at { tmps:=args.map a.eval++Array.replicate (fn.ntmps-(args.map a.eval).size) undef,defers:=[] } [.code cd]) (b.at a (.inRegion ops (i::rest)::k)::cs)):=by
 refine .one rfl fun w=>?_
 have hb':fn.body.isNone=false:=by rw [hb];rfl
 rw [stepG_enter ho hw hk (run_call_body hop hf hname hb'),enter_at _ hf hb]
 have:listed P b.fn a o w=#[]:=by unfold listed;rw [events_call_body hop hf hname hb'];exact seen_none P _
 rw [this]
noncomputable def gAdd (c:Cf)(T:Array Value)(cs:List Frame):Goroutine:=
 G ((base lnk.add).at ⟨#[wgV c,.int .i64 1]++Array.replicate 115 undef,[]⟩ [.code (Go.ConcR.Gen.body_add lnk)]) (gw T (.inRegion o7 [0]::kA)::cs)
noncomputable def tAdd (x:Value):Array Value:=#[x,.int .i64 1,undef,undef,undef,undef,undef,undef,undef,undef,undef,undef,undef,undef,undef,undef,undef,undef,undef,undef,undef,undef,undef,undef,undef,undef,undef,undef,undef,undef,undef,undef,undef,undef,undef,undef,undef,undef,undef,undef,undef,undef,undef,undef,undef,undef,undef,undef,undef,undef,undef,undef,undef,undef,undef,undef,undef,undef,undef,undef,undef,undef,undef,undef,undef,undef,undef,undef,undef,undef,undef,undef,undef,undef,undef,undef,undef,undef,undef,undef,undef,undef,undef,undef,undef,undef,undef,undef,undef,undef,undef,undef,undef,undef,undef,undef,undef,undef,undef,undef,undef,undef,undef,undef,undef,undef,undef,undef,undef,undef,undef,undef,undef,undef,undef,undef,undef]
theorem tadd_eq (x:Value):#[x,.int .i64 1]++Array.replicate 115 undef=tAdd x:=by kernel_rfl
theorem slide_add (h:Tm c T):Sm true 1 (G (gw T (.inRegion o7 [0]::kA)) cs) (gAdd c T cs):=by
 have:=Sm.call (main:=true) (cs:=cs) gb_kind (a:=⟨T,[]⟩) (ops:=o7) (i:=0) (rest:=[]) (o:=o7.getD 0 default) (k:=kA) (f:=lnk.add) (args:=#[.tmp 9,.const (.int .i64 1)]) (ats:=#[169,3]) rfl rfl rfl wgLib.f_add (Go.ConcR.Gen.nm_add lnk) rfl
 have e:(#[.tmp 9,.const (.int .i64 1)]:Array Operand).map (⟨T,[]⟩:Act).eval=#[wgV c,.int .i64 1]:=by
  have m:∀a b:Operand,(#[a,b]:Array Operand).map (⟨T,[]⟩:Act).eval=#[(⟨T,[]⟩:Act).eval a,(⟨T,[]⟩:Act).eval b]:=fun a b=>by simp
  rw [m,show(⟨T,[]⟩:Act).eval (.tmp 9)=wgV c from h.t9]
  rfl
 rw [e]at this
 exact this
def NxA (c:Cf)(cs:List Frame)(j:Nat)(g:Goroutine)(w:World):Prop:=∃T,Tm c T∧T.getD 18 undef=.int .i64 j∧T.getD 10 undef=.int .i64 j∧g=G (gw T (.inRegion o7 []::kA)) cs
theorem add_goes (h:Tm c T){j:Nat}(h18:T.getD 18 undef=.int .i64 j)(h10:T.getD 10 undef=.int .i64 j)(w:World)(hl:WgLive lnk.tWg (c.p.A+5) w) :
  Goes P true (RLx c) DC0 (AKd P true lnk.tWg (c.p.A+5) (NxA c cs j)) 12 (gAdd c T cs) w:=by
 have hT:∀w,WgLive lnk.tWg (c.p.A+5) w→Goes P true (RLx c) DC0 (NxA c cs j) 0 (G (gb.at ((⟨T,[]⟩:Act).put ((o7[0]?).bind (·.dst)) (.tuple #[])) (.inRegion o7 []::kA)) cs) w:=fun w _ w1 _=>
  ⟨T.setIfInBounds 21 (.tuple #[]),h.set .undef (by decide),(getD_ne (by decide)).trans h18,(getD_ne (by decide)).trans h10,rfl⟩
 unfold gAdd
 rw [tadd_eq]
 exact addPos (L:=lnk) (Wg:=c.p.A+5) (Next:=NxA c cs j) (b₀:=gb) (a₀:=⟨T,[]⟩) (ops₀:=o7) (i₀:=0) (rest₀:=[]) (k₀:=kA) (cs:=cs) (mT:=0) (main:=true) wgLib hT w hl
theorem go_step (h:Tm c T){j:Nat}(w:World):stepG P true (G (gw (goT T (wgV c) (chV c) (nbV c) (obV c) (sbV c) (.int .i64 j) (.pointer (some ⟨c.p.A+4,j*145,none⟩))) (.inRegion o8' [4]::kG)) cs) w=
  .spawn (G (gw (goT T (wgV c) (chV c) (nbV c) (obV c) (sbV c) (.int .i64 j) (.pointer (some ⟨c.p.A+4,j*145,none⟩))) (.inRegion o8' []::kG)) cs) (born P (bornD (wgV c) (chV c) (nbV c) (obV c) (shV c j))) w #[]:=by
 obtain⟨T',hT'⟩:∃T',T'=goT T (wgV c) (chV c) (nbV c) (obV c) (sbV c) (.int .i64 j) (.pointer (some ⟨c.p.A+4,j*145,none⟩)):=⟨_,rfl⟩
 have hz:=h.size
 have h22:T'[22]?.getD undef=.func (.func nW) #[] #[wgV c,chV c,nbV c,obV c]:=by
  rw [hT',←Array.getD_eq_getD_getElem?]
  unfold goT
  rw [getD_ne (by decide),getD_ne (by decide),getD_ne (by decide),getD_set _ _ _ _ (by omega),if_pos rfl]
 have h25:T'[25]?.getD undef=shV c j:=by
  rw [hT',←Array.getD_eq_getD_getElem?]
  unfold goT
  rw [getD_set _ _ _ _ (by simp;omega),if_pos rfl]
  rfl
 rw [←hT']
 have hr:(execOp (⟨T',[]⟩:Act).eval (o8'.getD 4 default)).run P w=.ok (.spawn (bornD (wgV c) (chV c) (nbV c) (obV c) (shV c j))) w:=by
  show(execOp (⟨T',[]⟩:Act).eval { dst:=none,op:=.go { callee:=.value (.tmp 22),args:=#[.tmp 25],argTypes:=#[_] },type:=_,pos:=_,after:=_,guard:=_ }).run P w=_
  simp [go_sem,Act.eval,h22,h25,Deferred.ofValue,bornD]
 have he:listed P gb.fn (⟨T',[]⟩:Act) (o8'.getD 4 default) w=#[]:=by
  show seen P nG ((execOp (⟨T',[]⟩:Act).eval { dst:=none,op:=.go { callee:=.value (.tmp 22),args:=#[.tmp 25],argTypes:=#[_] },type:=_,pos:=_,after:=_,guard:=_ }).events P w #[])=#[]
  simp [go_sem,Act.eval,h22,h25,Deferred.ofValue,seen_none]
 have:=stepG_spawn (P:=P) (main:=true) (b:=gb) (a:=⟨T',[]⟩) (ops:=o8') (i:=4) (rest:=[]) (k:=kG) (cs:=cs) (w:=w) (o:=o8'.getD 4 default) rfl rfl gb_kind hr rfl
 rw [he]at this
 exact this
end
end Go.Proofs.YtngdldcgkaplbaaGreat.Gt
namespace Go.Proofs.YtngdldcgkaplbaaGreat.Gt
open Go Go.Conc Go.Conc.Lib
open Go.ConcR (KK WgAt wgBlock)
open Lk Fw
section
variable {T:Array Value} {cs:List Frame} {k:List Item}
noncomputable def zShare:Value:=((P.info? tS).bind (·.zero)).getD undef
noncomputable def iShare:TypeInfo:=(P.info? tS).getD default
theorem iShare_eq:P.info? tS=some iShare:=by kernel_rfl
theorem iShare_zero:iShare.zero=some zShare:=by kernel_rfl
theorem iShare_size:iShare.size=145:=by kernel_rfl
theorem iShare_bytes:iShare.bytes≤100000:=by decide +kernel
theorem und_sl:P.underlying 161=some (.slice tS):=by kernel_rfl
theorem und_ch:P.underlying 160=some (.chan .both 3):=by kernel_rfl
noncomputable def iInt:TypeInfo:=(P.info? 3).getD default
theorem iInt_eq:P.info? 3=some iInt:=by kernel_rfl
theorem made_none {W:Nat}(hW:W≤16)(w:World):(Instr.makeSlice 161 (.int .i64 W) (.int .i64 W)).events P w #[]=#[]:=by
 have hb:(iShare.bytes:Int)*(W:Int)≤281474976710656:=by
  have:=iShare_bytes
  have:iShare.bytes*W≤100000*16:=Nat.mul_le_mul this hW
  have:((iShare.bytes*W:Nat):Int)≤281474976710656:=by omega
  rwa [Int.natCast_mul]at this
 have wl:IntKind.i64.wrap (W:Int)=W:=by rw [IntKind.wrap_i64];omega
 have n1:¬(W:Int)<0:=by omega
 have n2:¬(281474976710656<(iShare.bytes:Int)*(W:Int)):=by omega
 have hr:W*iShare.bytes≤roomBytes:=by
  have h1:=iShare_bytes
  have h2:W*iShare.bytes≤16*100000:=Nat.mul_le_mul hW h1
  have:(16:Nat)*100000≤roomBytes:=by decide
  omega
 have n5:¬(W*iShare.bytes > roomBytes):=by omega
 simp [-Sem.runT_eq,Instr.makeSlice,Sem.events,Room.Sem.bind_def,Room.Sem.pure_def',underlying,typeInfo,sizeOf,program,asInt,asIntOf,Sem.bind,Sem.runT,und_sl,iShare_eq,wl,n1,n2,askRoom,n5,zeroValue,iShare_zero,newRow,newObj]
 try (split<;>rfl)
theorem op_nb {n:Int}(h0:T.getD 0 undef=.int .i64 n)(w:World) :stepG P true (G (gw T (.inRegion o0 [0,1,2]::k)) cs) w=.go (G (gw (T.setIfInBounds 3 (.pointer (some ⟨w.heap.size,0,none⟩))) (.inRegion o0 [1,2]::k)) cs) (w.alloc (.cells #[.int .i64 n] tI)) #[]:=by
 have g0:T[0]?.getD undef=.int .i64 n:=by rw [←Array.getD_eq_getD_getElem?];exact h0
 have e1:=stepG_value (P:=P) (main:=true) (b:=gb) (a:=⟨T,[]⟩) (ops:=o0) (i:=0) (rest:=[1,2]) (k:=k) (cs:=cs) (w:=w) (w':=(w.alloc (.cells #[.int .i64 n] tI))) (v:=(.pointer (some ⟨w.heap.size,0,none⟩))) (o:=o0.getD 0 default) rfl rfl gb_kind (by
  show(execOp (⟨T,[]⟩:Act).eval { dst:=some 3,op:=.box 3 (.tmp 0),type:=_,pos:=_,after:=_,guard:=_ }).run P w=_
  simp [go_sem,Act.eval,g0])
 refine Eq.trans e1 ?_
 have e2:listed P gb.fn ⟨T,[]⟩ (o0.getD 0 default) w=#[]:=by
  show seen P nG ((execOp (⟨T,[]⟩:Act).eval { dst:=some 3,op:=.box 3 (.tmp 0),type:=_,pos:=_,after:=_,guard:=_ }).events P w #[])=_
  simp [go_sem,Act.eval,g0,seen_none]
 rw [e2]
 rfl
theorem op_ob {ff:Fn}{xs us:Array Value}(h2:T.getD 2 undef=.func ff xs us)(w:World) :stepG P true (G (gw T (.inRegion o0 [1,2]::k)) cs) w=.go (G (gw (T.setIfInBounds 5 (.pointer (some ⟨w.heap.size,0,none⟩))) (.inRegion o0 [2]::k)) cs) (w.alloc (.cells #[.func ff xs us] tF)) #[]:=by
 have g2:T[2]?.getD undef=.func ff xs us:=by rw [←Array.getD_eq_getD_getElem?];exact h2
 have e1:=stepG_value (P:=P) (main:=true) (b:=gb) (a:=⟨T,[]⟩) (ops:=o0) (i:=1) (rest:=[2]) (k:=k) (cs:=cs) (w:=w) (w':=(w.alloc (.cells #[.func ff xs us] tF))) (v:=(.pointer (some ⟨w.heap.size,0,none⟩))) (o:=o0.getD 1 default) rfl rfl gb_kind (by
  show(execOp (⟨T,[]⟩:Act).eval { dst:=some 5,op:=.box 132 (.tmp 2),type:=_,pos:=_,after:=_,guard:=_ }).run P w=_
  simp [go_sem,Act.eval,g2])
 refine Eq.trans e1 ?_
 have e2:listed P gb.fn ⟨T,[]⟩ (o0.getD 1 default) w=#[]:=by
  show seen P nG ((execOp (⟨T,[]⟩:Act).eval { dst:=some 5,op:=.box 132 (.tmp 2),type:=_,pos:=_,after:=_,guard:=_ }).events P w #[])=_
  simp [go_sem,Act.eval,g2,seen_none]
 rw [e2]
 rfl
theorem op_ch  (w:World) :stepG P true (G (gw T (.inRegion o1 [0,1,2]::k)) cs) w=.go (G (gw (T.setIfInBounds 14 (.chan (some w.heap.size))) (.inRegion o1 [1,2]::k)) cs) (w.alloc (.chan 0 #[] false 0 0 false)) #[]:=by
 have e1:=stepG_value (P:=P) (main:=true) (b:=gb) (a:=⟨T,[]⟩) (ops:=o1) (i:=0) (rest:=[1,2]) (k:=k) (cs:=cs) (w:=w) (w':=(w.alloc (.chan 0 #[] false 0 0 false))) (v:=(.chan (some w.heap.size))) (o:=o1.getD 0 default) rfl rfl gb_kind (by
  show(execOp (⟨T,[]⟩:Act).eval { dst:=some 14,op:=.makeChan 160 (.const (.int .i64 0)),type:=_,pos:=_,after:=_,guard:=_ }).run P w=_
  unfold execOp
  dsimp only
  have hr:(Instr.makeChan 160 (.int .i64 0)).run P w=.ok (.chan (some w.heap.size)) (w.alloc (.chan 0 #[] false 0 0 false)):=run_makeChan (w:=w) und_ch iInt_eq .i64 0 (by decide) (by simp)
  simp only [Act.eval]
  show(do pure (.value (←Instr.makeChan 160 (.int .i64 0))):Sem Next).run P w=_
  simp [hr])
 refine Eq.trans e1 ?_
 have e2:listed P gb.fn ⟨T,[]⟩ (o1.getD 0 default) w=#[]:=by
  show seen P nG ((execOp (⟨T,[]⟩:Act).eval { dst:=some 14,op:=.makeChan 160 (.const (.int .i64 0)),type:=_,pos:=_,after:=_,guard:=_ }).events P w #[])=_
  unfold execOp
  dsimp only
  have hr:(Instr.makeChan 160 (.int .i64 0)).events P w #[]=#[]:=events_makeChan (w:=w) und_ch iInt_eq .i64 0 (by decide) (by simp) #[]
  show seen P nG ((do pure (.value (←Instr.makeChan 160 (.int .i64 0))):Sem Next).events P w #[])=_
  simp [hr,seen_none]
 rw [e2]
 rfl
theorem op_hb  (w:World) :stepG P true (G (gw T (.inRegion o1 [1,2]::k)) cs) w=.go (G (gw (T.setIfInBounds 7 (.pointer (some ⟨w.heap.size,0,none⟩))) (.inRegion o1 [2]::k)) cs) (w.alloc (.cells #[.chan none] tC)) #[]:=by
 have e1:=stepG_value (P:=P) (main:=true) (b:=gb) (a:=⟨T,[]⟩) (ops:=o1) (i:=1) (rest:=[2]) (k:=k) (cs:=cs) (w:=w) (w':=(w.alloc (.cells #[.chan none] tC))) (v:=(.pointer (some ⟨w.heap.size,0,none⟩))) (o:=o1.getD 1 default) rfl rfl gb_kind (by
  show(execOp (⟨T,[]⟩:Act).eval { dst:=some 7,op:=.alloc 160,type:=_,pos:=_,after:=_,guard:=_ }).run P w=_
  simp [go_sem,Act.eval])
 refine Eq.trans e1 ?_
 have e2:listed P gb.fn ⟨T,[]⟩ (o1.getD 1 default) w=#[]:=by
  show seen P nG ((execOp (⟨T,[]⟩:Act).eval { dst:=some 7,op:=.alloc 160,type:=_,pos:=_,after:=_,guard:=_ }).events P w #[])=_
  simp [go_sem,Act.eval,seen_none]
 rw [e2]
 rfl
theorem op_st {a:Addr}{x:Option Nat}{y:Value}(h7:T.getD 7 undef=.pointer (some a))(h14:T.getD 14 undef=.chan x)(w:World)(hc:w.cell? a=some y)(hf:w.frozen? a=false):stepG P true (G (gw T (.inRegion o1 [2]::k)) cs) w=.go (G (gw T (.inRegion o1 []::k)) cs) (w.setCell a (.chan x)) #[⟨.cell a,true,false⟩]:=by
 have g7:T[7]?.getD undef=.pointer (some a):=by rw [←Array.getD_eq_getD_getElem?];exact h7
 have g14:T[14]?.getD undef=.chan x:=by rw [←Array.getD_eq_getD_getElem?];exact h14
 have e1:=stepG_none (P:=P) (main:=true) (b:=gb) (a:=⟨T,[]⟩) (ops:=o1) (i:=2) (rest:=[]) (k:=k) (cs:=cs) (w:=w) (w':=(w.setCell a (.chan x))) (o:=o1.getD 2 default) rfl rfl gb_kind (by
  show(execOp (⟨T,[]⟩:Act).eval { dst:=none,op:=.store 160 (.tmp 7) (.tmp 14),type:=_,pos:=_,after:=_,guard:=_ }).run P w=_
  simp [go_sem,Act.eval,g7,g14,hc,hf])
 refine Eq.trans e1 ?_
 have e2:listed P gb.fn ⟨T,[]⟩ (o1.getD 2 default) w=#[⟨.cell a,true,false⟩]:=by
  show seen P nG ((execOp (⟨T,[]⟩:Act).eval { dst:=none,op:=.store 160 (.tmp 7) (.tmp 14),type:=_,pos:=_,after:=_,guard:=_ }).events P w #[])=_
  have hq':fG.norace=false:=by kernel_rfl
  have hm:(Mode.plain==Mode.atomic)=false:=rfl
  simp [go_sem,Act.eval,g7,g14,hc,hf,seen,hq',hm]
 rw [e2]
 rfl
theorem op_sh {W:Nat}(hW:W≤16)(h15:T.getD 15 undef=.int .i64 W)(w:World) :stepG P true (G (gw T (.inRegion o2 [1,2]::k)) cs) w=.go (G (gw (T.setIfInBounds 16 (.slice (some ⟨w.heap.size,0,none⟩) W W)) (.inRegion o2 [2]::k)) cs) (w.alloc (.cells (madeCells zShare.cells (W*145)) tS)) #[]:=by
 have g15:T[15]?.getD undef=.int .i64 W:=by rw [←Array.getD_eq_getD_getElem?];exact h15
 have hb:(iShare.bytes:Int)*(W:Int)≤281474976710656:=by
  have:=iShare_bytes
  have:iShare.bytes*W≤100000*16:=Nat.mul_le_mul this hW
  have:((iShare.bytes*W:Nat):Int)≤281474976710656:=by omega
  rwa [Int.natCast_mul]at this
 have e1:=stepG_value (P:=P) (main:=true) (b:=gb) (a:=⟨T,[]⟩) (ops:=o2) (i:=1) (rest:=[2]) (k:=k) (cs:=cs) (w:=w) (w':=(w.alloc (.cells (madeCells zShare.cells (W*145)) tS))) (v:=(.slice (some ⟨w.heap.size,0,none⟩) W W)) (o:=o2.getD 1 default) rfl rfl gb_kind (by
  show(execOp (⟨T,[]⟩:Act).eval { dst:=some 16,op:=.makeSlice 161 (.tmp 15) (.tmp 15),type:=_,pos:=_,after:=_,guard:=_ }).run P w=_
  have hr:=run_make (P:=P) w 161 tS iShare zShare und_sl iShare_eq iShare_zero .i64 .i64 W W (by omega) (Int.le_refl _) hb (by omega)
  simp only [Int.toNat_natCast,iShare_size]at hr
  unfold execOp
  simp only [Act.eval,Array.getD_eq_getD_getElem?,g15]
  simp [hr])
 refine Eq.trans e1 ?_
 have e2:listed P gb.fn ⟨T,[]⟩ (o2.getD 1 default) w=#[]:=by
  show seen P nG ((execOp (⟨T,[]⟩:Act).eval { dst:=some 16,op:=.makeSlice 161 (.tmp 15) (.tmp 15),type:=_,pos:=_,after:=_,guard:=_ }).events P w #[])=_
  have hr:=made_none (W:=W) hW w
  unfold execOp
  simp only [Act.eval,Array.getD_eq_getD_getElem?,g15]
  simp [hr,seen_none]
 rw [e2]
 rfl
theorem op_wg  (w:World) :stepG P true (G (gw T (.inRegion o3 [0]::k)) cs) w=.go (G (gw (T.setIfInBounds 9 (.pointer (some ⟨w.heap.size,0,none⟩))) (.inRegion o3 []::k)) cs) (w.alloc (wgBlock lnk.tWg 0 0)) #[]:=by
 have e1:=stepG_value (P:=P) (main:=true) (b:=gb) (a:=⟨T,[]⟩) (ops:=o3) (i:=0) (rest:=[]) (k:=k) (cs:=cs) (w:=w) (w':=(w.alloc (wgBlock lnk.tWg 0 0))) (v:=(.pointer (some ⟨w.heap.size,0,none⟩))) (o:=o3.getD 0 default) rfl rfl gb_kind (by
  show(execOp (⟨T,[]⟩:Act).eval { dst:=some 9,op:=.alloc 169,type:=_,pos:=_,after:=_,guard:=_ }).run P w=_
  simp [go_sem,Act.eval,wgBlock])
 refine Eq.trans e1 ?_
 have e2:listed P gb.fn ⟨T,[]⟩ (o3.getD 0 default) w=#[]:=by
  show seen P nG ((execOp (⟨T,[]⟩:Act).eval { dst:=some 9,op:=.alloc 169,type:=_,pos:=_,after:=_,guard:=_ }).events P w #[])=_
  simp [go_sem,Act.eval,seen_none]
 rw [e2]
 rfl
end
end Go.Proofs.YtngdldcgkaplbaaGreat.Gt
namespace Go.Proofs.YtngdldcgkaplbaaGreat.Gt
open Go Go.Conc Go.Conc.Lib
open Go.ConcN (ShN RelBy upd upd_same upd_ne WgLive WD)
open Go.ConcR (KK WgAt stA smA rd wr DC0 Payload g_of_ofEvents)
open Lk Fw
noncomputable def cS2:Code:=.seq (.block 3 (.region 13 o13 false)) (.region 12 o12 false)
noncomputable def kS1:List Item:=.code (.cond (.tmp 29) .skip (.exit 2))::.code cS2::kS
noncomputable def kS3:List Item:=.inBlock 3::.code (.region 12 o12 false)::kS
noncomputable def kC:List Item:=[.code c7]
noncomputable def kT:List Item:=[.code tailG]
theorem cS_eq2:cS=.seq (.seq (.region 11 o11 false) (.cond (.tmp 29) .skip (.exit 2))) cS2:=rfl
section
variable {c:Cf} {T:Array Value} {cs:List Frame} {w:World}
def toT (T:Array Value)(x:Int):Array Value:=T.setIfInBounds 27 (.int .i64 x)
theorem slide_sa (x:Int)(hx:T.getD 11 undef=.int .i64 x):Sm true 4 (G (gw T (.code cS::kS)) cs) (G (gw (toT T x) (.inRegion o11 [1,2]::kS1)) cs):=by
 rw [cS_eq2]
 refine .step rfl (fun w=>stepG_seq) (.step rfl (fun w=>stepG_seq) (.step rfl (fun w=>stepG_region) ?_))
 refine Sm.val gb_kind (o:=o11.getD 0 default) (v:=.int .i64 x) rfl rfl fun w=>?_
 have:=run_move (⟨T,[]⟩:Act).eval (o11.getD 0 default) (.tmp 11) rfl w
 rw [show(⟨T,[]⟩:Act).eval (.tmp 11)=_ from hx]at this
 exact this
theorem load_n (h:Tm c T){cl:Bool}(hw:Wd c cl w):stepG P true (G (gw T (.inRegion o11 [1,2]::kS1)) cs) w=.go (G (gw (T.setIfInBounds 28 (.int .i64 c.n)) (.inRegion o11 [2]::kS1)) cs) w #[⟨.cell ⟨c.p.A,0,none⟩,false,false⟩]:=by
 have hg:T[3]?.getD undef=.pointer (some ⟨c.p.A,0,none⟩):=by rw [←Array.getD_eq_getD_getElem?];exact h.t3
 have hc:w.cell? ⟨c.p.A,0,none⟩=some (.int .i64 c.n):=hw.cell0
 have hq:(P.funcs[nG]?).any (·.norace)=false:=by rw [at_G];rfl
 have e1:=stepG_value (P:=P) (main:=true) (b:=gb) (a:=⟨T,[]⟩) (ops:=o11) (i:=1) (rest:=[2]) (k:=kS1) (cs:=cs) (w:=w) (w':=w) (v:=(.int .i64 c.n)) (o:=o11.getD 1 default) rfl rfl gb_kind (by
  show(execOp (⟨T,[]⟩:Act).eval { dst:=some 28,op:=.load 3 (.tmp 3),type:=3,pos:=_,after:=_,guard:=_ }).run P w=_
  simp [go_sem,Act.eval,hg,hc])
 refine Eq.trans e1 ?_
 have e2:listed P gb.fn ⟨T,[]⟩ (o11.getD 1 default) w=#[⟨.cell ⟨c.p.A,0,none⟩,false,false⟩]:=by
  show seen P nG ((execOp (⟨T,[]⟩:Act).eval { dst:=some 28,op:=.load 3 (.tmp 3),type:=3,pos:=_,after:=_,guard:=_ }).events P w #[])=_
  have hq':fG.norace=false:=by kernel_rfl
  have hm:(Mode.plain==Mode.atomic)=false:=rfl
  simp [go_sem,Act.eval,hg,hc,seen,hq',hm]
 rw [e2]
 rfl
theorem slide_sb (x n:Int)(hs:T.size=75)(h27:T.getD 27 undef=.int .i64 x)(h28:T.getD 28 undef=.int .i64 n)(hlt:x < n) :
  Sm true 7 (G (gw T (.inRegion o11 [2]::kS1)) cs) (G (gw (T.setIfInBounds 29 (.bool true)) (.inRegion o13 [0,1,2]::kS3)) cs):=by
 refine Sm.trans (n:=1) (m:=6) (Sm.val gb_kind (o:=o11.getD 2 default) (v:=.bool true) rfl rfl fun w=>?_) ?_
 ·have:=run_lss (⟨T,[]⟩:Act).eval (o11.getD 2 default) (.tmp 27) (.tmp 28) 3 rfl x n h27 h28 w
  rw [decide_eq_true hlt]at this
  exact this
 show Sm true 6 (G (gw (T.setIfInBounds 29 (.bool true)) (.inRegion o11 []::kS1)) cs) _
 have e29:(⟨T.setIfInBounds 29 (.bool true),[]⟩:Act).eval (.tmp 29)=.bool true:=by
  show(T.setIfInBounds 29 _).getD 29 undef=_
  rw [getD_set _ _ _ _ (by omega),if_pos rfl]
 refine .step rfl (fun w=>stepG_region_end) (.step rfl (fun w=>stepG_cond (t:=true) e29) ?_)
 simp only [if_true]
 exact .step rfl (fun w=>stepG_skip) (.step rfl (fun w=>stepG_seq) (.step rfl (fun w=>stepG_block) (.step rfl (fun w=>stepG_region) (.refl _))))
theorem slide_sc (x n:Int)(hs:T.size=75)(h27:T.getD 27 undef=.int .i64 x)(h28:T.getD 28 undef=.int .i64 n)(hlt:¬ x < n) :
  Sm true 6 (G (gw T (.inRegion o11 [2]::kS1)) cs) (G (gw (T.setIfInBounds 29 (.bool false)) (.inRegion o14 [0,1]::kC)) cs):=by
 refine Sm.trans (n:=1) (m:=5) (Sm.val gb_kind (o:=o11.getD 2 default) (v:=.bool false) rfl rfl fun w=>?_) ?_
 ·have:=run_lss (⟨T,[]⟩:Act).eval (o11.getD 2 default) (.tmp 27) (.tmp 28) 3 rfl x n h27 h28 w
  rw [decide_eq_false hlt]at this
  exact this
 show Sm true 5 (G (gw (T.setIfInBounds 29 (.bool false)) (.inRegion o11 []::kS1)) cs) _
 have e29:(⟨T.setIfInBounds 29 (.bool false),[]⟩:Act).eval (.tmp 29)=.bool false:=by
  show(T.setIfInBounds 29 _).getD 29 undef=_
  rw [getD_set _ _ _ _ (by omega),if_pos rfl]
 refine .step rfl (fun w=>stepG_region_end) (.step rfl (fun w=>stepG_cond (t:=false) e29) ?_)
 simp only [Bool.false_eq_true,if_false]
 refine .step rfl (fun w=>stepG_exit (k':=[.code c6]) rfl) ?_
 rw [c6_eq]
 exact .step rfl (fun w=>stepG_seq) (.step rfl (fun w=>stepG_region) (.refl _))
theorem load_c1 (h:Tm c T){cl:Bool}(hw:Wd c cl w):stepG P true (G (gw T (.inRegion o13 [0,1,2]::kS3)) cs) w=.go (G (gw (T.setIfInBounds 32 (.chan (some (c.p.A+2)))) (.inRegion o13 [1,2]::kS3)) cs) w #[⟨.cell ⟨c.p.A+3,0,none⟩,false,false⟩]:=by
 have hg:T[7]?.getD undef=.pointer (some ⟨c.p.A+3,0,none⟩):=by rw [←Array.getD_eq_getD_getElem?];exact h.t7
 have hc:w.cell? ⟨c.p.A+3,0,none⟩=some (.chan (some (c.p.A+2))):=hw.cell3
 have hq:(P.funcs[nG]?).any (·.norace)=false:=by rw [at_G];rfl
 have e1:=stepG_value (P:=P) (main:=true) (b:=gb) (a:=⟨T,[]⟩) (ops:=o13) (i:=0) (rest:=[1,2]) (k:=kS3) (cs:=cs) (w:=w) (w':=w) (v:=(.chan (some (c.p.A+2)))) (o:=o13.getD 0 default) rfl rfl gb_kind (by
  show(execOp (⟨T,[]⟩:Act).eval { dst:=some 32,op:=.load 160 (.tmp 7),type:=160,pos:=_,after:=_,guard:=_ }).run P w=_
  simp [go_sem,Act.eval,hg,hc])
 refine Eq.trans e1 ?_
 have e2:listed P gb.fn ⟨T,[]⟩ (o13.getD 0 default) w=#[⟨.cell ⟨c.p.A+3,0,none⟩,false,false⟩]:=by
  show seen P nG ((execOp (⟨T,[]⟩:Act).eval { dst:=some 32,op:=.load 160 (.tmp 7),type:=160,pos:=_,after:=_,guard:=_ }).events P w #[])=_
  have hq':fG.norace=false:=by kernel_rfl
  have hm:(Mode.plain==Mode.atomic)=false:=rfl
  simp [go_sem,Act.eval,hg,hc,seen,hq',hm]
 rw [e2]
 rfl
theorem load_c2 (h:Tm c T){cl:Bool}(hw:Wd c cl w):stepG P true (G (gw T (.inRegion o14 [0,1]::kC)) cs) w=.go (G (gw (T.setIfInBounds 34 (.chan (some (c.p.A+2)))) (.inRegion o14 [1]::kC)) cs) w #[⟨.cell ⟨c.p.A+3,0,none⟩,false,false⟩]:=by
 have hg:T[7]?.getD undef=.pointer (some ⟨c.p.A+3,0,none⟩):=by rw [←Array.getD_eq_getD_getElem?];exact h.t7
 have hc:w.cell? ⟨c.p.A+3,0,none⟩=some (.chan (some (c.p.A+2))):=hw.cell3
 have hq:(P.funcs[nG]?).any (·.norace)=false:=by rw [at_G];rfl
 have e1:=stepG_value (P:=P) (main:=true) (b:=gb) (a:=⟨T,[]⟩) (ops:=o14) (i:=0) (rest:=[1]) (k:=kC) (cs:=cs) (w:=w) (w':=w) (v:=(.chan (some (c.p.A+2)))) (o:=o14.getD 0 default) rfl rfl gb_kind (by
  show(execOp (⟨T,[]⟩:Act).eval { dst:=some 34,op:=.load 160 (.tmp 7),type:=160,pos:=_,after:=_,guard:=_ }).run P w=_
  simp [go_sem,Act.eval,hg,hc])
 refine Eq.trans e1 ?_
 have e2:listed P gb.fn ⟨T,[]⟩ (o14.getD 0 default) w=#[⟨.cell ⟨c.p.A+3,0,none⟩,false,false⟩]:=by
  show seen P nG ((execOp (⟨T,[]⟩:Act).eval { dst:=some 34,op:=.load 160 (.tmp 7),type:=160,pos:=_,after:=_,guard:=_ }).events P w #[])=_
  have hq':fG.norace=false:=by kernel_rfl
  have hm:(Mode.plain==Mode.atomic)=false:=rfl
  simp [go_sem,Act.eval,hg,hc,seen,hq',hm]
 rw [e2]
 rfl
theorem slide_sd (x:Int)(hx:T.getD 11 undef=.int .i64 x):Sm true 1 (G (gw T (.inRegion o13 [1,2]::kS3)) cs) (G (gw (T.setIfInBounds 33 (.int .i64 x)) (.inRegion o13 [2]::kS3)) cs):=by
 refine Sm.val gb_kind (o:=o13.getD 1 default) (v:=.int .i64 x) rfl rfl fun w=>?_
 have:=run_move (⟨T,[]⟩:Act).eval (o13.getD 1 default) (.tmp 11) rfl w
 rw [show(⟨T,[]⟩:Act).eval (.tmp 11)=_ from hx]at this
 exact this
theorem send_op (x:Int)(ch:Nat)(h32:T.getD 32 undef=.chan (some ch))(h33:T.getD 33 undef=.int .i64 x)(w:World) :
  stepG P true (G (gw T (.inRegion o13 [2]::kS3)) cs) w=.comm (G (gw T (.inRegion o13 [2]::kS3)) cs) #[scase ch (.int .i64 x) undef] true .send w #[]:=by
 have g32:T[32]?.getD undef=.chan (some ch):=by rw [←Array.getD_eq_getD_getElem?];exact h32
 have g33:T[33]?.getD undef=.int .i64 x:=by rw [←Array.getD_eq_getD_getElem?];exact h33
 have e1:=stepG_comm (P:=P) (main:=true) (b:=gb) (a:=⟨T,[]⟩) (ops:=o13) (i:=2) (rest:=[]) (k:=kS3) (cs:=cs) (w:=w) (w':=w) (cases:=#[scase ch (.int .i64 x) undef]) (blocking:=true) (shape:=.send) (o:=o13.getD 2 default) rfl rfl gb_kind (by
  show(execOp (⟨T,[]⟩:Act).eval { dst:=none,op:=.send (.tmp 32) (.tmp 33),type:=_,pos:=_,after:=_,guard:=_ }).run P w=_
  simp [go_sem,Act.eval,g32,g33,scase]
  rfl)
 refine Eq.trans e1 ?_
 have e2:listed P gb.fn ⟨T,[]⟩ (o13.getD 2 default) w=#[]:=by
  show seen P nG ((execOp (⟨T,[]⟩:Act).eval { dst:=none,op:=.send (.tmp 32) (.tmp 33),type:=_,pos:=_,after:=_,guard:=_ }).events P w #[])=#[]
  simp [go_sem,Act.eval,g32,g33,seen_none]
 rw [e2]
 rfl
theorem served_send:Go.Conc.served (G (gw T (.inRegion o13 [2]::kS3)) cs) undef=G (gw T (.inRegion o13 []::kS3)) cs:=rfl
def nxT (T:Array Value)(x:Int):Array Value:=((T.setIfInBounds 30 (.int .i64 x)).setIfInBounds 31 (.int .i64 (x+16))).setIfInBounds 11 (.int .i64 (x+16))
theorem slide_se (x:Int)(hs:T.size=75)(hx:T.getD 11 undef=.int .i64 x)(h0:0≤x)(h1:x < 4611686018427387904):Sm true 8 (G (gw T (.inRegion o13 []::kS3)) cs) (G (gw (nxT T x) (.code cS::kS)) cs):=by
 refine .step rfl (fun w=>stepG_region_end) (.step rfl (fun w=>stepG_inBlock) (.step rfl (fun w=>stepG_region) ?_))
 show Sm true 5 (G (gw T (.inRegion o12 [0,1,2]::kS)) cs) _
 refine Sm.trans (n:=1) (m:=4) (Sm.val gb_kind (o:=o12.getD 0 default) (v:=.int .i64 x) rfl rfl fun w=>?_) ?_
 ·have:=run_move (⟨T,[]⟩:Act).eval (o12.getD 0 default) (.tmp 11) rfl w
  rw [show(⟨T,[]⟩:Act).eval (.tmp 11)=_ from hx]at this
  exact this
 show Sm true 4 (G (gw (T.setIfInBounds 30 (.int .i64 x)) (.inRegion o12 [1,2]::kS)) cs) _
 refine Sm.trans (n:=1) (m:=3) (Sm.val gb_kind (o:=o12.getD 1 default) (v:=.int .i64 (x+16)) rfl rfl fun w=>?_) ?_
 ·have:=run_add (⟨T.setIfInBounds 30 (.int .i64 x),[]⟩:Act).eval (o12.getD 1 default) (.tmp 30) (.const (.int .i64 16)) 3 rfl x 16 (by
   show(T.setIfInBounds 30 _).getD 30 undef=_
   rw [getD_set _ _ _ _ (by omega),if_pos rfl]) rfl w
  have e:IntKind.i64.wrap (x+16)=x+16:=by rw [IntKind.wrap_i64];omega
  rw [e]at this
  exact this
 show Sm true 3 (G (gw ((T.setIfInBounds 30 (.int .i64 x)).setIfInBounds 31 (.int .i64 (x+16))) (.inRegion o12 [2]::kS)) cs) _
 refine Sm.trans (n:=1) (m:=2) (Sm.val gb_kind (o:=o12.getD 2 default) (v:=.int .i64 (x+16)) rfl rfl fun w=>?_) ?_
 ·have:=run_assign (⟨(T.setIfInBounds 30 (.int .i64 x)).setIfInBounds 31 (.int .i64 (x+16)),[]⟩:Act).eval (o12.getD 2 default) (.tmp 31) rfl w
  have e:(⟨(T.setIfInBounds 30 (.int .i64 x)).setIfInBounds 31 (.int .i64 (x+16)),[]⟩:Act).eval (.tmp 31)=.int .i64 (x+16):=by
   show((T.setIfInBounds 30 _).setIfInBounds 31 _).getD 31 undef=_
   rw [getD_set _ _ _ _ (by simp;omega),if_pos rfl]
  rw [e]at this
  exact this
 show Sm true 2 (G (gw (nxT T x) (.inRegion o12 []::kS)) cs) _
 exact .step rfl (fun w=>stepG_region_end) (.step rfl (fun w=>stepG_inLoop) (.refl _))
theorem close_op (ch s r:Nat)(h34:T.getD 34 undef=.chan (some ch))(w:World)(hc:w.heap[ch]?=some (.chan 0 #[] false s r false)) :
  stepG P true (G (gw T (.inRegion o14 [1]::kC)) cs) w=.go (G (gw T (.inRegion o14 []::kC)) cs) (w.setChan ch 0 #[] true s r false) (closeEvents ch):=by
 have hq:(P.funcs[gb.fn]?).any (·.norace)=false:=by
  show(P.funcs[nG]?).any (·.norace)=false
  rw [at_G];rfl
 have hx:(⟨T,[]⟩:Act).eval (.tmp 34)=.chan (some ch):=h34
 exact stepG_close (P:=P) (main:=true) (b:=gb) (a:=⟨T,[]⟩) (ops:=o14) (i:=1) (rest:=[]) (kk:=kC) (cs:=cs) (w:=w) (o:=o14.getD 1 default) (x:=.tmp 34) (ats:=#[160]) rfl rfl gb_kind rfl hx hc hq
theorem close_wakes:mayWake P (G (gw T (.inRegion o14 [1]::kC)) cs)=true:=by kernel_rfl
noncomputable def gWait (c:Cf)(T:Array Value)(cs:List Frame):Goroutine:=
 G ((base lnk.wait).at ⟨#[wgV c]++Array.replicate 83 undef,[]⟩ [.code (Go.ConcR.Gen.body_wait lnk)]) (gw T (.inRegion o15 [0]::kT)::cs)
noncomputable def tWait (x:Value):Array Value:=#[x,undef,undef,undef,undef,undef,undef,undef,undef,undef,undef,undef,undef,undef,undef,undef,undef,undef,undef,undef,undef,undef,undef,undef,undef,undef,undef,undef,undef,undef,undef,undef,undef,undef,undef,undef,undef,undef,undef,undef,undef,undef,undef,undef,undef,undef,undef,undef,undef,undef,undef,undef,undef,undef,undef,undef,undef,undef,undef,undef,undef,undef,undef,undef,undef,undef,undef,undef,undef,undef,undef,undef,undef,undef,undef,undef,undef,undef,undef,undef,undef,undef,undef,undef]
theorem twait_eq (x:Value):#[x]++Array.replicate 83 undef=tWait x:=by kernel_rfl
theorem slide_wait (h:Tm c T):Sm true 4 (G (gw T (.inRegion o14 []::kC)) cs) (gWait c T cs):=by
 refine .step rfl (fun w=>stepG_region_end) ?_
 show Sm true 3 (G (gw T [.code c7]) cs) _
 rw [c7_eq]
 refine .step rfl (fun w=>stepG_seq) (.step rfl (fun w=>stepG_region) ?_)
 show Sm true 1 (G (gw T (.inRegion o15 [0]::kT)) cs) _
 have:=Sm.call (main:=true) (cs:=cs) gb_kind (a:=⟨T,[]⟩) (ops:=o15) (i:=0) (rest:=[]) (o:=o15.getD 0 default) (k:=kT) (f:=lnk.wait) (args:=#[.tmp 9]) (ats:=#[169]) rfl rfl rfl wgLib.f_wait (Go.ConcR.Gen.nm_wait lnk) rfl
 have e:(#[.tmp 9]:Array Operand).map (⟨T,[]⟩:Act).eval=#[wgV c]:=by
  have m:∀a:Operand,(#[a]:Array Operand).map (⟨T,[]⟩:Act).eval=#[(⟨T,[]⟩:Act).eval a]:=fun a=>by simp
  rw [m,show(⟨T,[]⟩:Act).eval (.tmp 9)=wgV c from h.t9]
 rw [e]at this
 exact this
def NxW (c:Cf)(cs:List Frame)(g:Goroutine)(w:World):Prop:=∃T,Tm c T∧g=G (gw T (.inRegion o15 []::kT)) cs
noncomputable def AnW (c:Cf)(T:Array Value)(cs:List Frame):Goroutine→World→Prop:=Anc lnk (c.p.A+5) (gw T (.inRegion o15 [0]::kT)) cs
theorem wait_goes (h:Tm c T)(w:World)(hl:WgLive lnk.tWg (c.p.A+5) w):Goes P true (RLx c) DC0 (AKdW P true lnk.tWg (c.p.A+5) (AnW c T cs)) 3 (gWait c T cs) w:=by
 unfold gWait
 rw [twait_eq]
 exact waitStart (L:=lnk) (Wg:=c.p.A+5) (b₀:=gb) (a₀:=⟨T,[]⟩) (ops₀:=o15) (i₀:=0) (rest₀:=[]) (k₀:=kT) (cs:=cs) (main:=true) wgLib w hl
theorem wait_round (h:Tm c T)(g:Goroutine)(w:World)(hA:AnW c T cs g w):∃m,Goes P true (RLx c) DC0 (AW1 P true lnk.tWg (c.p.A+5) (NxW c cs) (AnW c T cs)) m g w:=by
 have hT:∀w,WgLive lnk.tWg (c.p.A+5) w→Goes P true (RLx c) DC0 (NxW c cs) 0 (G (gb.at ((⟨T,[]⟩:Act).put ((o15[0]?).bind (·.dst)) (.tuple #[])) (.inRegion o15 []::kT)) cs) w:=fun w _ w1 _=>
  ⟨T.setIfInBounds 35 (.tuple #[]),h.set .undef (by decide),rfl⟩
 exact waitRound (L:=lnk) (Wg:=c.p.A+5) (Next:=NxW c cs) (b₀:=gb) (a₀:=⟨T,[]⟩) (ops₀:=o15) (i₀:=0) (rest₀:=[]) (k₀:=kT) (cs:=cs) (mT:=0) (main:=true) wgLib hT g w hA
end
end Go.Proofs.YtngdldcgkaplbaaGreat.Gt
namespace Go.Proofs.YtngdldcgkaplbaaGreat.Gt
open Go Go.Conc Go.Conc.Lib
open Go.ConcN (ShN RelBy upd upd_same upd_ne WgLive WD CTag Mode isOpen isW3 isFin pend Vc cnt)
open Go.ConcR (KK WgAt stA smA rd wr DC0 Payload g_of_ofEvents again_blocked)
open Lk Fw
inductive MT where
 |fk (j s:Nat)|sn (m s:Nat)|cl (s:Nat)|kd|an|w1|w2 (vs:Nat)|wr|w3|bl|w4|ke|aq|rt
def Cf.M (c:Cf):Nat:=(c.n+15)/16
def rank (c:Cf)(v:Nat):MT→Nat
 | .fk j s=>8*c.W+16+8*c.M+8*(c.W-j)+s
 | .sn m s=>8*c.W+16+8*m+s
 | .cl s=>8*c.W+8+s
 | .kd=>8*c.W+7
 | .an=>8*v+6
 | .w1=>8*v+5
 | .w2 vs=>8*vs+4
 | .wr=>6
 | .w3=>5
 | .bl=>5
 | .w4=>4
 | .ke=>3
 | .aq=>2
 | .rt=>1
def ct:MT→CTag
 | .fk _ s=>.sp 0 (if 4≤s then 5 else 3)
 | .sn _ _=>.kd
 | .cl _=>.kd
 | .kd=>.kd
 | .an=>.anch
 | .w1=>.w1
 | .w2 vs=>.w2 vs
 | .wr=>.w3
 | .w3=>.w3
 | .bl=>.blk
 | .w4=>.w4
 | .ke=>.ke
 | .aq=>.acq
 | .rt=>.ret
theorem rank_mono (c:Cf){v v':Nat}(h:v'≤v)(t:MT):rank c v' t≤rank c v t:=by
 cases t<;>simp only [rank]<;>omega
noncomputable def atGo (c:Cf)(T:Array Value)(j:Nat)(cs:List Frame):Goroutine:=G (gw (goT T (wgV c) (chV c) (nbV c) (obV c) (sbV c) (.int .i64 j) (.pointer (some ⟨c.p.A+4,j*145,none⟩))) (.inRegion o8' [4]::kG)) cs
noncomputable def atSend (T:Array Value)(cs:List Frame):Goroutine:=G (gw T (.inRegion o13 [2]::kS3)) cs
def scs (c:Cf)(k:Nat):Array CommCase:=#[scase (c.p.A+2) (.int .i64 ((16*k:Nat):Int)) undef]
inductive Msit (c:Cf)(cs:List Frame):MT→Nat→Nat→Nat→Nat→Bool→Goroutine→World→Prop
 |f6 {J n:Nat} {T:Array Value} {g:Goroutine} {w:World} (hJ:J<c.W) (hT:Tm c T) (h18:T.getD 18 undef=.int .i64 J) (h10:T.getD 10 undef=.int .i64 J) (k:Sm true n g (gAdd c T cs)):Msit c cs (.fk J 6) n 0 J 0 false g w
 |f5 {J n:Nat} {g:Goroutine} {w:World} (hJ:J<c.W) (k:Goes P true (RLx c) DC0 (AKd P true lnk.tWg (c.p.A+5) (NxA c cs J)) n g w):Msit c cs (.fk J 5) n 0 J 0 false g w
 |f4 {J n:Nat} {g:Goroutine} {w:World} (hJ:J<c.W) (k:Goes P true (RLx c) DC0 (AA1 P true lnk.tWg (c.p.A+5) (NxA c cs J)) n g w):Msit c cs (.fk J 4) n 1 J 0 false g w
 |f3 {J n:Nat} {g:Goroutine} {w:World} (hJ:J<c.W) (k:Goes P true (RLx c) DC0 (ARdKe P true lnk.tWg (c.p.A+5) (NxA c cs J)) n g w):Msit c cs (.fk J 3) n 1 J 0 false g w
 |f2 {J n:Nat} {g:Goroutine} {w:World} (hJ:J<c.W) (k:Goes P true (RLx c) DC0 (AKe P true lnk.tWg (c.p.A+5) (NxA c cs J)) n g w):Msit c cs (.fk J 2) n 1 J 0 false g w
 |f1 {J n:Nat} {g:Goroutine} {w:World} (hJ:J<c.W) (k:Goes P true (RLx c) DC0 (NxA c cs J) n g w):Msit c cs (.fk J 1) n 0 J 0 false g w
 |f0 {J n:Nat} {T:Array Value} {g:Goroutine} {w:World} (hJ:J<c.W) (hT:Tm c T) (h18:T.getD 18 undef=.int .i64 J) (k:Sm true n g (atGo c T J cs)):Msit c cs (.fk J 0) n 0 J 0 false g w
 |s7 {k n:Nat} {T:Array Value} {g:Goroutine} {w:World} (hk:k≤c.M) (hT:Tm c T) (h11:T.getD 11 undef=.int .i64 ((16*k:Nat):Int)) (kk:Sm true n g (G (gw (toT T ((16*k:Nat):Int)) (.inRegion o11 [1,2]::kS1)) cs)):Msit c cs (.sn (c.M-k) 7) n 0 c.W k false g w
 |s6 {k n:Nat} {T:Array Value} {g:Goroutine} {w:World} (hk:16*k<c.n) (hT:Tm c T) (h11:T.getD 11 undef=.int .i64 ((16*k:Nat):Int)) (kk:Sm true n g (G (gw T (.inRegion o13 [0,1,2]::kS3)) cs)):Msit c cs (.sn (c.M-k) 6) n 0 c.W k false g w
 |s5 {k n:Nat} {T:Array Value} {g:Goroutine} {w:World} (hk:16*k<c.n) (hT:Tm c T) (h11:T.getD 11 undef=.int .i64 ((16*k:Nat):Int)) (h32:T.getD 32 undef=.chan (some (c.p.A+2))) (h33:T.getD 33 undef=.int .i64 ((16*k:Nat):Int)) (kk:Sm true n g (atSend T cs)):Msit c cs (.sn (c.M-k) 5) n 0 c.W k false g w
 |s4 {k:Nat} {T:Array Value} {w:World} (hk:16*k<c.n) (hT:Tm c T) (h11:T.getD 11 undef=.int .i64 ((16*k:Nat):Int)):Msit c cs (.sn (c.M-k) 4) 0 0 c.W k false (parked (atSend T cs) (scs c k) .send) w
 |c3 {n:Nat} {T:Array Value} {g:Goroutine} {w:World} (hT:Tm c T) (kk:Sm true n g (G (gw T (.inRegion o14 [0,1]::kC)) cs)):Msit c cs (.cl 3) n 0 c.W c.M false g w
 |c2 {T:Array Value} {w:World} (hT:Tm c T) (h34:T.getD 34 undef=.chan (some (c.p.A+2))):Msit c cs (.cl 2) 0 0 c.W c.M false (G (gw T (.inRegion o14 [1]::kC)) cs) w
 |c1 {n:Nat} {T:Array Value} {g:Goroutine} {w:World} (hT:Tm c T) (kk:Sm true n g (gWait c T cs)):Msit c cs (.cl 1) n 0 c.W c.M true g w
 |kd {n:Nat} {T:Array Value} {g:Goroutine} {w:World} (hT:Tm c T) (kk:Goes P true (RLx c) DC0 (AKdW P true lnk.tWg (c.p.A+5) (AnW c T cs)) n g w):Msit c cs .kd n 0 c.W c.M true g w
 |an {n:Nat} {T:Array Value} {g:Goroutine} {w:World} (hT:Tm c T) (kk:Goes P true (RLx c) DC0 (AnW c T cs) n g w):Msit c cs .an n 1 c.W c.M true g w
 |w1 {n:Nat} {T:Array Value} {g:Goroutine} {w:World} (hT:Tm c T) (kk:Goes P true (RLx c) DC0 (AW1 P true lnk.tWg (c.p.A+5) (NxW c cs) (AnW c T cs)) n g w):Msit c cs .w1 n 1 c.W c.M true g w
 |w2 {vs n:Nat} {T:Array Value} {g:Goroutine} {w:World} (hT:Tm c T) (kk:Goes P true (RLx c) DC0 (AW2 P true lnk.tWg (c.p.A+5) (NxW c cs) (AnW c T cs) vs) n g w):Msit c cs (.w2 vs) n 1 c.W c.M true g w
 |wr {n:Nat} {g:Goroutine} {w:World} (kk:Goes P true (RLx c) DC0 (AWr P true lnk.tWg (c.p.A+5) (NxW c cs)) n g w):Msit c cs .wr n 1 c.W c.M true g w
 |w3 {n:Nat} {g:Goroutine} {w:World} (kk:Goes P true (RLx c) DC0 (AW3 P true lnk.tWg (c.p.A+5) (NxW c cs)) n g w):Msit c cs .w3 (n+1) 1 c.W c.M true g w
 |bl {g:Goroutine} {w:World} (kk:∀w₁,RLx c w w₁→AW3 P true lnk.tWg (c.p.A+5) (NxW c cs) g w₁):Msit c cs .bl 0 1 c.W c.M true { g with status:=.blocked } w
 |w4 {n:Nat} {g:Goroutine} {w:World} (kk:Goes P true (RLx c) DC0 (AW4 P true lnk.tWg (c.p.A+5) (NxW c cs)) n g w):Msit c cs .w4 n 1 c.W c.M true g w
 |ke {n:Nat} {g:Goroutine} {w:World} (kk:Goes P true (RLx c) DC0 (AKe P true lnk.tWg (c.p.A+5) (AAq P true lnk.tWg (c.p.A+5) (NxW c cs))) n g w):Msit c cs .ke n 1 c.W c.M true g w
 |aq {n:Nat} {g:Goroutine} {w:World} (kk:Goes P true (RLx c) DC0 (AAq P true lnk.tWg (c.p.A+5) (NxW c cs)) n g w):Msit c cs .aq n 0 c.W c.M true g w
 |rt {n:Nat} {g:Goroutine} {w:World} (kk:Goes P true (RLx c) DC0 (NxW c cs) n g w):Msit c cs .rt n 0 c.W c.M true g w
section
variable {c:Cf} {cs:List Frame} {tag:MT} {n d J k:Nat} {cl:Bool} {g a a':Goroutine} {w w1:World}
theorem Msit.rl (h:Msit c cs tag n d J k cl g w)(hr:RLx c w w1):Msit c cs tag n d J k cl g w1:=by
 cases h with
 |f6 h1 h2 h3 h4 kk=>exact .f6 h1 h2 h3 h4 kk
 |f5 h1 kk=>exact .f5 h1 (Goes.rely rl_trans kk hr)
 |f4 h1 kk=>exact .f4 h1 (Goes.rely rl_trans kk hr)
 |f3 h1 kk=>exact .f3 h1 (Goes.rely rl_trans kk hr)
 |f2 h1 kk=>exact .f2 h1 (Goes.rely rl_trans kk hr)
 |f1 h1 kk=>exact .f1 h1 (Goes.rely rl_trans kk hr)
 |f0 h1 h2 h3 kk=>exact .f0 h1 h2 h3 kk
 |s7 h1 h2 h3 kk=>exact .s7 h1 h2 h3 kk
 |s6 h1 h2 h3 kk=>exact .s6 h1 h2 h3 kk
 |s5 h1 h2 h3 h4 h5 kk=>exact .s5 h1 h2 h3 h4 h5 kk
 |s4 h1 h2 h3=>exact .s4 h1 h2 h3
 |c3 h1 kk=>exact .c3 h1 kk
 |c2 h1 h2=>exact .c2 h1 h2
 |c1 h1 kk=>exact .c1 h1 kk
 |kd h1 kk=>exact .kd h1 (Goes.rely rl_trans kk hr)
 |an h1 kk=>exact .an h1 (Goes.rely rl_trans kk hr)
 |w1 h1 kk=>exact .w1 h1 (Goes.rely rl_trans kk hr)
 |w2 h1 kk=>exact .w2 h1 (Goes.rely rl_trans kk hr)
 |wr kk=>exact .wr (Goes.rely rl_trans kk hr)
 |w3 kk=>exact .w3 (Goes.rely rl_trans kk hr)
 |bl kk=>exact .bl fun w2 h2=>kk w2 (rl_trans _ _ _ hr h2)
 |w4 kk=>exact .w4 (Goes.rely rl_trans kk hr)
 |ke kk=>exact .ke (Goes.rely rl_trans kk hr)
 |aq kk=>exact .aq (Goes.rely rl_trans kk hr)
 |rt kk=>exact .rt (Goes.rely rl_trans kk hr)
theorem anW_run {T:Array Value}:∀g w,AnW c T cs g w→g.status=.running:=by
 rintro g w ⟨T',rfl,_⟩
 rfl
theorem nxA_run {j:Nat}:∀g w,NxA c cs j g w→g.status=.running:=by
 rintro g w ⟨T',_,_,_,rfl⟩
 rfl
theorem nxW_run:∀g w,NxW c cs g w→g.status=.running:=by
 rintro g w ⟨T',_,rfl⟩
 rfl
theorem Msit.status (h:Msit c cs tag n d J k cl g w):g.status=.running∨(∃T,tag=.sn (c.M-k) 4∧cl=false∧Tm c T∧T.getD 11 undef=.int .i64 ((16*k:Nat):Int)∧16*k<c.n∧J=c.W∧d=0∧g=parked (atSend T cs) (scs c k) .send)∨(tag=.bl∧g.status=.blocked∧g.offers=none):=by
 have run:∀{S:Goroutine→World→Prop},(∀g w,S g w→g.status=.running)→Goes P true (RLx c) DC0 S n g w→g.status=.running:=fun hS kk=>Goes.running hS w (rl_refl w) kk
 cases h with
 |f6 h1 h2 h3 h4 kk=>exact .inl (kk.run rfl)
 |f5 h1 kk=>exact .inl (run (fun _ _ x=>x.1) kk)
 |f4 h1 kk=>exact .inl (run (fun _ _ x=>x.1) kk)
 |f3 h1 kk=>exact .inl (run (fun _ _ x=>x.elim (fun x=>x.1) (fun x=>x.1)) kk)
 |f2 h1 kk=>exact .inl (run (fun _ _ x=>x.1) kk)
 |f1 h1 kk=>exact .inl (run nxA_run kk)
 |f0 h1 h2 h3 kk=>exact .inl (kk.run rfl)
 |s7 h1 h2 h3 kk=>exact .inl (kk.run rfl)
 |s6 h1 h2 h3 kk=>exact .inl (kk.run rfl)
 |s5 h1 h2 h3 h4 h5 kk=>exact .inl (kk.run rfl)
 |s4 h1 h2 h3=>exact .inr (.inl ⟨_,rfl,rfl,h2,h3,h1,rfl,rfl,rfl⟩)
 |c3 h1 kk=>exact .inl (kk.run rfl)
 |c2 h1 h2=>exact .inl rfl
 |c1 h1 kk=>exact .inl (kk.run rfl)
 |kd h1 kk=>exact .inl (run (fun _ _ x=>x.1) kk)
 |an h1 kk=>exact .inl (run anW_run kk)
 |w1 h1 kk=>exact .inl (run (fun _ _ x=>x.1) kk)
 |w2 h1 kk=>exact .inl (run (fun _ _ x=>x.1) kk)
 |wr kk=>exact .inl (run (fun _ _ x=>x.1) kk)
 |w3 kk=>exact .inl (Goes.running (fun _ _ x=>x.1) w (rl_refl w) kk)
 |bl kk=>exact .inr (.inr ⟨rfl,rfl,(kk w (rl_refl w)).2.1⟩)
 |w4 kk=>exact .inl (run (fun _ _ x=>x.1) kk)
 |ke kk=>exact .inl (run (fun _ _ x=>x.1) kk)
 |aq kk=>exact .inl (run (fun _ _ x=>x.1) kk)
 |rt kk=>exact .inl (run nxW_run kk)
theorem Msit.wokenBy (h:Msit c cs tag n d J k cl g w)(hr:RLx c w w1)(hc:cl=false→∃ s r,w1.heap[c.p.A+2]?=some (.chan 0 #[] false s r false))(a a':Goroutine) :
  ∃tag' f',Msit c cs tag' f' d J k cl (Go.Conc.woken P a a' w1 g) w1∧(tag'=tag∨(tag=.bl∧tag'=.w3))∧(mayWake P a=true→a'.status=.running→tag'≠.bl):=by
 have h':=h.rl hr
 unfold Go.Conc.woken
 split
 ·rcases h.status with hs|⟨T,rfl,rfl,hT,h11,hk,rfl,rfl,rfl⟩|⟨rfl,hb,ho⟩
  ·rw [again_running _ (.inl hs)]
   refine⟨tag,n,h',.inl rfl,fun _ _ e=>?_⟩
   subst e
   cases h with
   |bl kk=>cases hs
  ·obtain⟨s,r,hsr⟩:=hc rfl
   have e:(parked (atSend T cs) (scs c k) .send).again w1=parked (atSend T cs) (scs c k) .send:=by simp [Goroutine.again,parked,scs,scase,hsr]
   rw [e]
   exact⟨_,_,h',.inl rfl,fun _ _ e=>by cases e⟩
  ·cases h' with
   | @bl g0 _ kk=>
    have h3:=kk w1 (rl_refl w1)
    exact⟨.w3,0+1,by rw [again_blocked h3.1 h3.2.1];exact .w3 (Goes.stop kk),.inr ⟨rfl,rfl⟩,fun _ _ e=>by cases e⟩
 ·rename_i hcnd
  refine⟨tag,n,h',.inl rfl,fun h1 h2=>absurd (by simp [h1,h2]) hcnd⟩
theorem rank_retag {v:Nat}{tag tag':MT}(e:tag'=tag∨(tag=.bl∧tag'=.w3)):rank c v tag'=rank c v tag:=by
 rcases e with rfl|⟨rfl,rfl⟩<;>rfl
theorem ct_retag {tag tag':MT}(e:tag'=tag∨(tag=.bl∧tag'=.w3)):ct tag'=ct tag∨(ct tag=.blk∧ct tag'=.w3):=by
 rcases e with rfl|⟨rfl,rfl⟩
 ·exact .inl rfl
 ·exact .inr ⟨rfl,rfl⟩
theorem recv_op_off {r:Map}{T:Array Value}{w:World}(o:Option (Array CommCase×CommShape))(h:Tw c r T):stepG P false { atRecv c T with offers:=o } w=.comm (atRecv c T) (rcs c) true (.recv true) w #[]:=
 recv_op (tmps:=T) (D:=Dd c) (cs:=[restB]) w (c.p.A+2) h.t11
end
end Go.Proofs.YtngdldcgkaplbaaGreat.Gt
namespace Go.Proofs.YtngdldcgkaplbaaGreat.Gt
open Go Go.Conc Go.Conc.Lib
open Go.ConcN (ShN RelBy upd upd_same upd_ne WgLive WD CTag Mode isOpen isW3 isFin pend Vc cnt sumTo get_map_set get_map_set_same Vc_upd OpenSt AllQuit Vc_le others_uncounted bk_cell le_sumTo sumTo_congr)
open Go.ConcR (KK WgAt stA smA rd wr DC0 Payload g_of_ofEvents again_blocked Bk ofEvent_loc_mark bk_of_mute)
open Lk Fw
def VecLt (n:Nat)(g f:Nat→WM):Prop:=∃i,i<n∧Lt3 (g i) (f i)∧∀j,j≠i→g j=f j
theorem VecLt.wf:∀n,WellFounded (VecLt n)
 |0=>⟨fun f=>⟨_,fun g ⟨i,hi,_⟩=>absurd hi (Nat.not_lt_zero _)⟩⟩
 |n+1=>by
  refine⟨fun f=>?_⟩
  have key:∀x,Acc Lt3 x→∀f,Acc (VecLt n) f→f n=x→Acc (VecLt (n+1)) f:=by
   intro x hx
   induction hx with
   |intro x _ ihx=>
    intro f hf
    induction hf with
    |intro f _ ihf=>
     intro e
     refine⟨_,fun g ⟨i,hi,hl,ho⟩=>?_⟩
     by_cases h:i=n
     ·subst h
      exact ihx (g i) (by rw [←e];exact hl) g ((VecLt.wf i).apply g) rfl
     ·exact ihf g ⟨i,by omega,hl,ho⟩ ((ho n (fun h'=>h h'.symm)).trans e)
  exact key (f n) (Lt3.wf.apply _) f ((VecLt.wf n).apply f) rfl
abbrev MU:=Nat×(Nat→WM)×Nat×Nat
def LtU:MU→MU→Prop:=Prod.Lex (·<·) (Prod.Lex (VecLt 16) (Prod.Lex (·<·) (·<·)))
theorem LtU.wf:WellFounded LtU:=(Prod.lex ⟨(·<·),Nat.lt_wfRel.wf⟩ (Prod.lex ⟨VecLt 16,VecLt.wf 16⟩ (Prod.lex ⟨(·<·),Nat.lt_wfRel.wf⟩ ⟨(·<·),Nat.lt_wfRel.wf⟩))).wf
theorem LtU.p {a b:Nat}(h:a < b)(x y:(Nat→WM)×Nat×Nat):LtU (a,x) (b,y):=Prod.Lex.left _ _ h
theorem LtU.v {a b:Nat}(h:a≤b){f g:Nat→WM}(hf:VecLt 16 f g)(x y:Nat×Nat):LtU (a,f,x) (b,g,y):=by
 rcases Nat.lt_or_eq_of_le h with h|rfl
 ·exact .p h _ _
 ·exact Prod.Lex.right _ (Prod.Lex.left _ _ hf)
theorem LtU.q {a:Nat}{f:Nat→WM}{m n:Nat}(h:m < n)(x y:Nat):LtU (a,f,m,x) (a,f,n,y):=Prod.Lex.right _ (Prod.Lex.right _ (Prod.Lex.left _ _ h))
theorem LtU.m {a:Nat}{f:Nat→WM}{s m n:Nat}(h:m < n):LtU (a,f,s,m) (a,f,s,n):=Prod.Lex.right _ (Prod.Lex.right _ (Prod.Lex.right _ h))
def AcqA (c:Cf)(J:Nat)(t:Trace):Prop:=
 ∃x,t.act? x=some (.mark (.acquire (stA (c.p.A+5))))∧t.g? x=some 0∧t.heard x∧∀i,i<J→∃r,RelBy (stA (c.p.A+5)) t (c.p.N0+i) r∧r<x
theorem AcqA.app {c:Cf}{J:Nat}{t u:Trace}(h:AcqA c J t)(hu:∀ i r,i < J→RelBy (stA (c.p.A+5)) t (c.p.N0+i) r→RelBy (stA (c.p.A+5)) (t++u) (c.p.N0+i) r):AcqA c J (t++u):=by
 obtain⟨q,h1,h2,h3,h4⟩:=h
 have hq:=lt_of_act? h1
 exact⟨q,by rw [act?_old hq];exact h1,by rw [g?_old hq];exact h2,(heard_old hq).2 h3,fun i hi=>let ⟨r,hr,hrq⟩:=h4 i hi;⟨r,hu i r hi hr,hrq⟩⟩
structure IV (c:Cf)(cs:List Frame)(gs:Array Goroutine)(w:World)(t:Trace)(J:Nat)(cl:Bool)(D:Nat→WD)(m:Nat→WM)(rs:Nat→Map)(vs:Nat→World)(tk:Nat→List Nat)(q:Nat→Nat)(tag:MT)(f0 d0 k:Nat)(a:Goroutine)(st sm:Int):Prop where
 g0:gs[0]?=some a
 sit:Msit c cs tag f0 d0 J k cl a w
 com:Com c J cl gs w t D m rs vs tk q d0
 wg:WgAt lnk.tWg (c.p.A+5) w st sm
 mode:Go.ConcN.Mode J D (ct tag) st sm
 prm:List.Perm ((List.range J).flatMap tk) ((List.range k).map (16*·))
 hJ:J≤c.W
 acq:tag=.rt→AcqA c J t
 opn:cl=false→∀i,i<J→(D i).stage=7∧11≤(m i).1
 prk:tag=.sn (c.M-k) 4→∀i g,i<J→gs[c.p.N0+i]?=some g→g.status≠.blocked
def Inv (c:Cf)(cs:List Frame)(μ:MU)(gs:Array Goroutine)(w:World)(t:Trace):Prop:=
 ∃J cl D m rs vs tk q tag f0 d0 k a st sm,IV c cs gs w t J cl D m rs vs tk q tag f0 d0 k a st sm∧μ=(rank c (Vc J D) tag,m,sumTo c.p.N0 q,f0)
section
variable {c:Cf} {cs:List Frame} {Post:Value→World→Prop} {gs:Array Goroutine} {w w':World} {sl:Option (Nat×Nat)} {t:Trace} {J:Nat} {cl:Bool} {D:Nat→WD} {m:Nat→WM} {rs:Nat→Map} {vs:Nat→World} {tk:Nat→List Nat} {q:Nat→Nat} {tag:MT} {f0 d0 k:Nat} {a:Goroutine} {st sm st' sm':Int}
variable {g g':Goroutine} {es:Array Event} {i s' d':Nat} {μ':WM} {r':Map} {v':World}
def Less (P:Program)(Post:Value→World→Prop)(c:Cf)(cs:List Frame)(μ:MU):Prop:=∀μ',LtU μ' μ→∀gs w sl t,Inv c cs μ' gs w t→Win P Post (crowd gs w sl) t
def Wins (P:Program)(Post:Value→World→Prop)(gs:Array Goroutine)(w:World)(sl:Option (Nat×Nat))(t:Trace)(i:Nat):Prop:=∃m1 ops,runT P (crowd gs w sl) i=(.next m1,ops)∧Win P Post m1 (t++ops)
theorem ne0 (c:Cf)(i:Nat):(c.p.N0+i==0)=false:=by
 have:=c.p.hN
 simp only [beq_eq_false_iff_ne,ne_eq]
 omega
theorem IV.stepW (h:IV c cs gs w t J cl D m rs vs tk q tag f0 d0 k a st sm)(hi:i < J)(hg:gs[c.p.N0+i]?=some g)(hgo:stepG P false g w=.go g' w' es)(hn:WNext c i (rs i) (tk i) w (D i).deaf g' w' es s' μ' d' r' v')
  (hwg:WgAt lnk.tWg (c.p.A+5) w' st' sm') (hrel:s'≤6→∃x,RelBy (stA (c.p.A+5)) (t++MemOp.ofEvents (c.p.N0+i) g.frame.fn g.frame.place es) (c.p.N0+i) x) (hnb:g'.status≠.blocked)
  (hmode:∀tag',(tag'=tag∨(tag=.bl∧tag'=.w3))→(mayWake P g=true→g'.status=.running→tag'≠.bl)→Go.ConcN.Mode J (ConcN.upd D i ⟨s',0,d'⟩) (ct tag') st' sm') (hcnt:ConcN.cnt ⟨s',0,d'⟩≤ConcN.cnt (D i)) (hlt:Lt3 μ' (m i)) (hop:cl=false→s'=7∧11≤μ'.1)
  (hacq:tag=.rt→AcqA c J (t++MemOp.ofEvents (c.p.N0+i) g.frame.fn g.frame.place es)) (hL:Less P Post c cs (rank c (Vc J D) tag,m,sumTo c.p.N0 q,f0)):Wins P Post gs w sl t (c.p.N0+i):=by
 have hN:=c.p.hN
 have hlive:WgLive lnk.tWg (c.p.A+5) w':=⟨_,_,hwg⟩
 have hcom:=h.com.stepW (g:=g) (fn:=g.frame.fn) (pos:=g.frame.place) hi hn hlive hrel (fun _=>hnb)
 have hrun:=runT_crowd_go (P:=P) (sl:=sl) (i:=c.p.N0+i) hg (by rw [ne0];exact hgo)
 obtain⟨tag',f',hm',ht',hwk⟩:=h.sit.wokenBy (w1:=w') (fun _=>hlive) (fun e=>by subst e;exact hcom.wd.ch) g g'
 refine⟨_,_,hrun,hL (rank c (Vc J (ConcN.upd D i ⟨s',0,d'⟩)) tag',ConcN.upd m i μ',sumTo c.p.N0 q,f') ?_ _ _ _ _ ⟨J,cl,_,_,_,_,tk,q,tag',f',d0,k,Go.Conc.woken P g g' w' a,st',sm',⟨?_,hm',hcom,hwg,hmode tag' ht' hwk,h.prm,h.hJ,fun e=>hacq ?_,fun e i' hi'=>?_,fun e i' x hi' hx=>?_⟩,rfl⟩⟩
 ·have hW:=c.hW2
  have hJ:=h.hJ
  refine .v ?_ ⟨i,by omega,by rw [upd_same];exact hlt,fun j hj=>ConcN.upd_ne _ _ hj⟩ _ _
  rw [rank_retag ht']
  refine rank_mono c ?_ tag
  have:=Vc_upd D (⟨s',0,d'⟩:WD) hi
  omega
 ·rw [get_map_set _ _ _ _ (by omega),h.g0];rfl
 ·rcases ht' with rfl|⟨_,rfl⟩
  ·exact e
  ·cases e
 ·by_cases e':i'=i
  ·subst e';rw [upd_same,upd_same];exact hop e
  ·rw [ConcN.upd_ne _ _ e',ConcN.upd_ne _ _ e'];exact h.opn e i' hi'
 ·have et:tag=.sn (c.M-k) 4:=by
   rcases ht' with rfl|⟨_,rfl⟩
   ·exact e
   ·cases e
  by_cases e':i'=i
  ·subst e'
   rw [get_map_set_same _ _ _ (by rw [h.com.size];omega)]at hx
   obtain rfl:=Option.some.inj hx
   exact hnb
  ·obtain⟨y,hy,hs⟩:=h.com.wk i' hi'
   rw [get_map_set _ _ _ _ (by omega),hy,Option.map_some,h.com.woken hi' hy hs hcom.wd]at hx
   obtain rfl:=Option.some.inj hx
   exact h.prk et i' y hi' hy
theorem mode_same0 {j i:Nat}{D:Nat→WD}{tag:CTag}{st sm:Int}(hm:Go.ConcN.Mode j D tag st sm){s dd:Nat}(e:s=(D i).stage):Go.ConcN.Mode j (ConcN.upd D i ⟨s,0,dd⟩) tag st sm:=by
 subst e
 exact hm.same 0 dd
theorem cnt_same {D:Nat→WD}{s dd:Nat}(e:s=(D i).stage):ConcN.cnt (⟨s,0,dd⟩:WD)≤ConcN.cnt (D i):=by
 subst e;exact Nat.le_refl _
theorem mode_tagged {j:Nat}{D:Nat→WD}{tag tag':MT}{st sm:Int}(hm:Go.ConcN.Mode j D (ct tag) st sm)(e:tag'=tag∨(tag=.bl∧tag'=.w3)):Go.ConcN.Mode j D (ct tag') st sm:=hm.retag (ct_retag e)
theorem wo_wg (h4:ShB4 c w){r:Map}(hA:Go.Conc.Aside (c.p.A+5) w w'):Wo c i r r w w':=by
 obtain⟨cs,h1,_⟩:=h4
 exact⟨Nat.le_of_eq hA.size.symm,⟨hA.tape,hA.os,hA.output⟩,fun B _ _ h5 _=>hA.block B h5,⟨cs,_,_,cs,h1,(hA.block _ (by omega)).trans h1,rfl,fun _ _=>rfl⟩,Map.le_refl _,fun B h=>.inl h⟩
theorem evk_bk {r:Map}{B:Nat}{e:Event}(hB:c.p.A+5 < B)(h:Bk (c.p.A+5) e):EvK c.p r i B e:=by
 rcases h with h1|h1|⟨a,wr,rfl,ha⟩
 ·obtain⟨loc,wr,sy⟩:=e
  have h1:loc=_:=h1
  subst h1
  exact⟨fun x hx=>(by cases hx),trivial,by simp⟩
 ·obtain⟨loc,wr,sy⟩:=e
  have h1:loc=_:=h1
  subst h1
  exact⟨fun x hx=>(by cases hx),trivial,by simp⟩
 ·refine⟨fun x hx=>?_,?_,by simp⟩
  ·simp only [Go.ConcR.ofEvent_cell,MemAct.touch?,Option.some.injEq]at hx
   subst hx
   exact .inl ⟨⟨a,rfl,ha⟩,by simp,by simp⟩
  ·simp only [Go.ConcR.ofEvent_cell]
   show a.block<B
   omega
end
end Go.Proofs.YtngdldcgkaplbaaGreat.Gt
namespace Go.Proofs.YtngdldcgkaplbaaGreat.Gt
open Go Go.Conc Go.Conc.Lib
open Go.ConcN (ShN RelBy upd upd_same upd_ne WgLive WD CTag isOpen isW3 isFin pend Vc cnt sumTo get_map_set get_map_set_same Vc_upd OpenSt AllQuit Vc_le others_uncounted bk_cell le_sumTo sumTo_congr)
open Go.ConcR (KK WgAt stA smA rd wr DC0 Payload g_of_ofEvents again_blocked Bk ofEvent_loc_mark bk_of_mute)
open Lk Fw
section
variable {c:Cf} {cs:List Frame} {Post:Value→World→Prop} {gs:Array Goroutine} {w w':World} {sl:Option (Nat×Nat)} {t:Trace} {J:Nat} {cl:Bool} {D:Nat→WD} {m:Nat→WM} {rs:Nat→Map} {vs:Nat→World} {tk:Nat→List Nat} {q:Nat→Nat} {tag:MT} {f0 d0 k:Nat} {a:Goroutine} {st sm st' sm':Int}
variable {g g':Goroutine} {es:Array Event} {i s' d':Nat} {μ':WM} {r':Map} {v':World}
theorem mem4 {op a b x y:MemOp}{n:Nat}{fn:FuncId}{pos:String}(h:op∈MemOp.ofEvents n fn pos #[]++#[a,b,x,y]):op=a∨op=b∨op=x∨op=y:=by
 rw [ofEvents_eq]at h
 simpa using h
theorem upd_id {α:Type}(f:Nat→α)(i:Nat):ConcN.upd f i (f i)=f:=by
 funext j
 by_cases e:j=i
 ·subst e;rw [upd_same]
 ·rw [ConcN.upd_ne _ _ e]
theorem Msit.tag4 (h:Msit c cs tag f0 d0 J k cl a w)(e:tag=.sn (c.M - k) 4):a.status=.blocked:=by
 cases h<;>first|rfl|(injection e with e1 e2;cases e2)|cases e
theorem offers_none_at {h:Goroutine}(ho:h.offers=none)(r:Nat)(send:Bool):offersAt h r send=[]:=by
 unfold offersAt
 rw [ho]
 cases h.status<;>rfl
theorem IV.senders (h:IV c cs gs w t J cl D m rs vs tk q tag f0 d0 k a st sm)(x:Goroutine)(j:Nat)(hj:gs[j]?=some x)(j0:j≠0):offersAt x (c.p.A+2) true=[]:=by
 have hsz:=h.com.size
 have hlt:=(Array.getElem?_eq_some_iff.1 hj).1
 by_cases hN:j<c.p.N0
 ·have:=(h.com.old j x (by omega) hN hj).status
  exact offersAt_of_not_blocked (by rcases this with h1|h1<;>rw [h1]<;>simp) _ _
 ·obtain⟨y,hy,hs⟩:=h.com.wk (j-c.p.N0) (by omega)
  rw [show c.p.N0+(j-c.p.N0)=j by omega,hj]at hy
  obtain rfl:=Option.some.inj hy
  rcases hs.status with h1|h1|⟨T,_,rfl⟩
  ·exact offersAt_of_not_blocked (by rw [h1];simp) _ _
  ·exact offersAt_of_not_blocked (by rw [h1];simp) _ _
  ·exact offersAt_parked_recv' _ _ _ _ _
theorem IV.noSender (h:IV c cs gs w t J cl D m rs vs tk q tag f0 d0 k a st sm)(i:Nat)(ha:a.status=.running∨a.offers=none):partners (gs.setIfInBounds i ph) (c.p.A+2) true=[]:=by
 refine partners_nil fun j x hx=>?_
 rcases getElem?_stand gs i j x hx with ⟨_,rfl⟩|⟨_,hx⟩
 ·exact offersAt_ph _ _
 ·by_cases j0:j=0
  ·subst j0
   rw [h.g0]at hx
   obtain rfl:=Option.some.inj hx
   rcases ha with ha|ha
   ·exact offersAt_of_not_blocked (by rw [ha];simp) _ _
   ·exact offers_none_at ha _ _
  ·exact h.senders x j hx j0
theorem mo_chan {s r s2 r2:Nat}{b b2:Bool}(h:w.heap[c.p.A+2]?=some (.chan 0 #[] b s r false)):Mo c w (w.setChan (c.p.A+2) 0 #[] b2 s2 r2 false)∧∃s r,(w.setChan (c.p.A+2) 0 #[] b2 s2 r2 false).heap[c.p.A+2]?=some (.chan 0 #[] b2 s r false):=by
 refine⟨⟨by simp [World.setChan],⟨rfl,rfl,rfl⟩,fun B _ h2=>by simp only [World.setChan];rw [Array.getElem?_setIfInBounds_ne (by omega)]⟩,s2,r2,?_⟩
 have hlt:=(Array.getElem?_eq_some_iff.1 h).1
 simp [World.setChan,hlt]
theorem served_parked {g1 g2:Goroutine}{c1 c2:Array CommCase}{s1 s2:CommShape}(e:parked g1 c1 s1=parked g2 c2 s2)(v:Value):Go.Conc.served g1 v=Go.Conc.served g2 v:=by
 have h1:Go.Conc.served g1 v=Go.Conc.served (parked g1 c1 s1) v:=rfl
 rw [h1,e];rfl
theorem perm_push {J i:Nat}(hi:i < J)(tk:Nat→List Nat)(x:Nat):List.Perm ((List.range J).flatMap (ConcN.upd tk i (tk i++[x]))) ((List.range J).flatMap tk++[x]):=by
 induction J with
 |zero=>omega
 |succ J ih=>
  rw [List.range_succ,List.flatMap_append,List.flatMap_append]
  simp only [List.flatMap_cons,List.flatMap_nil,List.append_nil]
  by_cases e:i=J
  ·subst e
   rw [upd_same]
   have:(List.range i).flatMap (ConcN.upd tk i (tk i++[x]))=(List.range i).flatMap tk:=by
    refine congrArg List.flatten (List.map_congr_left fun j hj=>?_)
    rw [ConcN.upd_ne _ _ (by have:=List.mem_range.1 hj;omega)]
   rw [this,List.append_assoc]
  ·rw [ConcN.upd_ne _ _ (fun h=>e h.symm)]
   refine((ih (by omega)).append_right _).trans ?_
   rw [List.append_assoc,List.append_assoc]
   exact List.Perm.append_left _ List.perm_append_comm
theorem IV.recv (h:IV c cs gs w t J cl D m rs vs tk q tag f0 d0 k a st sm)(hi:i < J)(hg:gs[c.p.N0+i]?=some g)(h7:(D i).stage=7)(hd:(D i).deaf=0)(hr:AtR c i (rs i) (vs i) (tk i) (m i) g w)(hL:Less P Post c cs (rank c (Vc J D) tag,m,sumTo c.p.N0 q,f0)):Wins P Post gs w sl t (c.p.N0+i):=by
 have hN:=c.p.hN
 have hW:=c.hW2
 have hJ:=h.hJ
 have hbig:=h.com.wd.big
 have hsz:=h.com.size
 have hlive:WgLive lnk.tWg (c.p.A+5) w:=⟨_,_,h.wg⟩
 obtain⟨T,hμ,hR,hT,hgg⟩:=hr
 obtain⟨s0,r0,hch⟩:=h.com.wd.ch
 have hgo:stepG P (c.p.N0+i==0) g w=.comm (atRecv c T) (rcs c) true (.recv true) w #[]:=by
  rw [ne0]
  rcases hgg with rfl|rfl
  ·exact recv_op_off (c:=c) (atRecv c T).offers hT
  ·exact recv_op_off (c:=c) _ hT
 have hTs:=hT.size
 have hmi:∀(x:Nat) (y:Nat×Nd),x<12→Lt3 (x,y) (m i):=fun x y hx=>by
  have:m i=((m i).1,(m i).2):=rfl
  rw [this,hμ]
  exact Lt3.st hx _ _
 have hunr:∀i',i'<J→(D i').stage≤6→i'≠i:=fun i' _ h6 e=>by subst e;omega
 cases cl with
 |true=>
  have hp:=h.noSender (c.p.N0+i) (by
   rcases h.sit.status with h1|⟨_,_,h1,_⟩|⟨_,_,h1⟩
   ·exact .inl h1
   ·cases h1
   ·exact .inr h1)
  have hrun:=crowd_recv_closed (P:=P) (sl:=sl) hg hgo hch hp
  rw [finishComm_recv,show Go.Conc.served (atRecv c T) (recvd true (.int .i64 0) false)=G (wk (gotW T (.int .i64 0) false) (Dd c) (.inRegion opsR [1]::.code tailW::kL)) [restB]from served_recv (.int .i64 0) false]at hrun
  have hsl:=(slide_out (tmps:=T) (cs:=[restB]) (.int .i64 0) (by omega) (wgV c)).sm
  have hlt:c.p.N0+i<gs.size:=by omega
  have hcom:=h.com.comm (gs':=gs.setIfInBounds (c.p.N0+i) (G (wk (gotW T (.int .i64 0) false) (Dd c) (.inRegion opsR [1]::.code tailW::kL)) [restB])) (w':=w) (u:=MemOp.ofEvents (c.p.N0+i) g.frame.fn g.frame.place #[]++#[{ g:=c.p.N0+i,fn:=(atRecv c T).frame.fn,pos:=(atRecv c T).frame.place,act:=.recvClosed (c.p.A+2) }])
   (μ':=(10,7,nd0)) (tk':=tk i) hi (by simp) (Mo.refl w) ⟨_,_,hch⟩ hlive (fun op hop=>by
    have:op={ g:=c.p.N0+i,fn:=(atRecv c T).frame.fn,pos:=(atRecv c T).frame.place,act:=.recvClosed (c.p.A+2) }:=by simpa [ofEvents_eq]using hop
    subst this
    exact⟨rfl,by show c.p.A+2<_;omega,by simp,by simp,by simp⟩) (fun i' hi' h6 op hop=>by
    have:op={ g:=c.p.N0+i,fn:=(atRecv c T).frame.fn,pos:=(atRecv c T).frame.place,act:=.recvClosed (c.p.A+2) }:=by simpa [ofEvents_eq]using hop
    subst this
    have:=hunr i' hi' h6
    show c.p.N0+i≠c.p.N0+i'
    omega) (fun k' _ hk'=>by rw [Array.getElem?_setIfInBounds_ne (by omega)]) (Array.getElem?_setIfInBounds_self_of_lt hlt) (.out hR hsl) ⟨h7,hd⟩ (fun _=>by simp [G])
  rw [upd_id]at hcom
  refine⟨_,_,hrun,hL (rank c (Vc J D) tag,ConcN.upd m i (10,7,nd0),sumTo c.p.N0 q,f0) (.v (Nat.le_refl _) ⟨i,by omega,by rw [upd_same];exact hmi _ _ (by decide),fun j hj=>ConcN.upd_ne _ _ hj⟩ _ _) _ _ _ _ ⟨J,true,D,_,rs,vs,tk,q,tag,f0,d0,k,a,st,sm,⟨?_,h.sit,hcom,h.wg,h.mode,h.prm,h.hJ,fun e=>?_,fun e=>(by cases e),fun e i' x hi' hx=>?_⟩,rfl⟩⟩
  ·rw [Array.getElem?_setIfInBounds_ne (by omega)];exact h.g0
  ·have h1:=h.mode.not_ret hi (by omega)
   subst e
   exact absurd rfl h1
  ·have:=h.sit.tag4 e
   rcases h.sit.status with h1|⟨_,_,h1,_⟩|⟨h1,_⟩
   ·rw [h1]at this;cases this
   ·cases h1
   ·subst h1;cases e
 |false=>
  have hcalm:∀(j:Nat) (x:Goroutine),(gs.setIfInBounds (c.p.N0+i) ph)[j]?=some x→j≠0→offersAt x (c.p.A+2) true=[]:=fun j x hx j0=>by
   rcases getElem?_stand gs _ j x hx with ⟨_,rfl⟩|⟨_,hx⟩
   ·exact offersAt_ph _ _
   ·exact h.senders x j hx j0
  rcases h.sit.status with h1|⟨T0,rfl,_,hT0,h11,hkn,rfl,rfl,rfl⟩|⟨h1,_,h2⟩
  ·-- nobody sends: it is parked
   have hp:=h.noSender (c.p.N0+i) (.inl h1)
   have hrun:=crowd_waits (P:=P) (sl:=sl) hg hgo (fun cc hcc=>by
    have:cc=rcase (c.p.A+2) (.int .i64 0):=by simpa [rcs]using hcc
    subst this
    exact ways_recv_none hch hp)
   have hlt:c.p.N0+i<gs.size:=by omega
   have hcom:=h.com.comm (gs':=gs.setIfInBounds (c.p.N0+i) (parked (atRecv c T) (rcs c) (.recv true))) (w':=w) (u:=MemOp.ofEvents (c.p.N0+i) g.frame.fn g.frame.place #[])
    (μ':=(11,0,nd0)) (tk':=tk i) hi (by simp) (Mo.refl w) ⟨_,_,hch⟩ hlive (fun op hop=>by simp [ofEvents_eq]at hop) (fun i' hi' h6 op hop=>by simp [ofEvents_eq]at hop) (fun k' _ hk'=>by rw [Array.getElem?_setIfInBounds_ne (by omega)]) (Array.getElem?_setIfInBounds_self_of_lt hlt) (.park hR hT) ⟨h7,hd⟩ (fun e=>by cases e)
   rw [upd_id]at hcom
   refine⟨_,_,hrun,hL (rank c (Vc J D) tag,ConcN.upd m i (11,0,nd0),sumTo c.p.N0 q,f0) (.v (Nat.le_refl _) ⟨i,by omega,by rw [upd_same];exact hmi _ _ (by decide),fun j hj=>ConcN.upd_ne _ _ hj⟩ _ _) _ _ _ _ ⟨J,false,D,_,rs,vs,tk,q,tag,f0,d0,k,a,st,sm,⟨?_,h.sit,hcom,h.wg,h.mode,h.prm,h.hJ,fun e=>?_,fun e i' hi'=>?_,fun e i' x hi' hx=>?_⟩,rfl⟩⟩
   ·rw [Array.getElem?_setIfInBounds_ne (by omega)];exact h.g0
   ·have h1:=h.mode.not_ret hi (by omega)
    subst e
    exact absurd rfl h1
   ·by_cases e':i'=i
    ·subst e';rw [upd_same];exact⟨h7,by simp⟩
    ·rw [ConcN.upd_ne _ _ e'];exact h.opn rfl i' hi'
   ·have:=h.sit.tag4 e
    rw [h1]at this;cases this
  ·-- gather is parked there: they meet
   have hm0:c.p.N0+i≠0:=by omega
   have g0':(gs.setIfInBounds (c.p.N0+i) ph)[0]?=some (parked (atSend T0 cs) (scs c k) .send):=by rw [Array.getElem?_setIfInBounds_ne (by omega)];exact h.g0
   have hp:partners (gs.setIfInBounds (c.p.N0+i) ph) (c.p.A+2) true=[(0,0)]:=by
    rw [partners_one g0' fun j x j0 hx=>hcalm j x hx j0]
    unfold scs
    rw [offersAt_parked_send]
    simp
   have hrun:=crowd_recv_meets (P:=P) (sl:=sl) hg hgo hch (fun e=>hm0 e.symm) h.g0 hp
   rw [finishComm_recv,finishComm_send,show Go.Conc.served (atRecv c T) (recvd true (.int .i64 ((16*k:Nat):Int)) true)=G (wk (gotW T (.int .i64 ((16*k:Nat):Int)) true) (Dd c) (.inRegion opsR [1]::.code tailW::kL)) [restB]from served_recv _ true,
    show Go.Conc.served (atSend T0 cs) undef=G (gw T0 (.inRegion o13 []::kS3)) cs from served_send]at hrun
   have hsl:=(slide_piece (tmps:=T) (D:=Dd c) (cs:=[restB]) (.int .i64 ((16*k:Nat):Int)) (by omega)).sm
   obtain⟨hmo,hch'⟩:=mo_chan (c:=c) (s2:=s0+1) (r2:=r0+1) (b2:=false) hch
   have hlt:c.p.N0+i<gs.size:=by omega
   have hn:=c.hn
   have hM:k<c.M:=by unfold Cf.M;omega
   have sl2:Sm true 12 (G (gw T0 (.inRegion o13 []::kS3)) cs) (G (gw (toT (nxT T0 ((16*k:Nat):Int)) ((16*(k+1):Nat):Int)) (.inRegion o11 [1,2]::kS1)) cs):=by
    refine(slide_se _ hT0.size h11 (by omega) (by omega)).trans (slide_sa _ ?_)
    unfold nxT
    rw [getD_set _ _ _ _ (by have:=hT0.size;simp;omega),if_pos rfl]
    have:((16*k:Nat):Int)+16=((16*(k+1):Nat):Int):=by omega
    rw [this]
   have hT1:Tm c (nxT T0 ((16*k:Nat):Int)):=((hT0.set (.int _ _) (by decide)).set (.int _ _) (by decide)).set (.int _ _) (by decide)
   have h11':(nxT T0 ((16*k:Nat):Int)).getD 11 undef=.int .i64 ((16*(k+1):Nat):Int):=by
    unfold nxT
    rw [getD_set _ _ _ _ (by have:=hT0.size;simp;omega),if_pos rfl]
    have:((16*k:Nat):Int)+16=((16*(k+1):Nat):Int):=by omega
    rw [this]
   have hlive':WgLive lnk.tWg (c.p.A+5) (w.setChan (c.p.A+2) 0 #[] false (s0+1) (r0+1) false):=wgLive_of hlive (heap_setChan_ne w 0 #[] false (s0+1) (r0+1) false (by omega))
   have hcom:=h.com.comm (gs':=(gs.setIfInBounds 0 (G (gw T0 (.inRegion o13 []::kS3)) cs)).setIfInBounds (c.p.N0+i) (G (wk (gotW T (.int .i64 ((16*k:Nat):Int)) true) (Dd c) (.inRegion opsR [1]::.code tailW::kL)) [restB])) (w':=w.setChan (c.p.A+2) 0 #[] false (s0+1) (r0+1) false)
    (u:=MemOp.ofEvents (c.p.N0+i) g.frame.fn g.frame.place #[]++#[{ g:=0,fn:=(atSend T0 cs).frame.fn,pos:=(atSend T0 cs).frame.place,act:=.send (c.p.A+2) s0 },{ g:=c.p.N0+i,fn:=(atRecv c T).frame.fn,pos:=(atRecv c T).frame.place,act:=.recv (c.p.A+2) r0 0 },{ g:=0,fn:=(atSend T0 cs).frame.fn,pos:=(atSend T0 cs).frame.place,act:=.sendDone (c.p.A+2) s0 },{ g:=c.p.N0+i,fn:=(atRecv c T).frame.fn,pos:=(atRecv c T).frame.place,act:=.recvDone (c.p.A+2) r0 }])
    (μ':=(15,6,nd0)) (tk':=tk i++[16*k]) hi (by simp) hmo hch' hlive' (fun op hop=>by
     rcases mem4 hop with rfl|rfl|rfl|rfl<;>exact⟨rfl,by show c.p.A+2<_;omega,by simp,by simp,by simp⟩) (fun i' hi' h6 op hop=>by
     have hne:=hunr i' hi' h6
     rcases mem4 hop with rfl|rfl|rfl|rfl<;>simp only<;>omega) (fun k' _ hk'=>by rw [Array.getElem?_setIfInBounds_ne (by omega),Array.getElem?_setIfInBounds_ne (by omega)]) (Array.getElem?_setIfInBounds_self_of_lt (by simpa using hlt)) (.got hR hT hkn (by omega) hsl) ⟨h7,hd⟩ (fun e=>by cases e)
   refine⟨_,_,hrun,hL (rank c (Vc c.W D) (.sn (c.M-(k+1)) 7),ConcN.upd m i (15,6,nd0),sumTo c.p.N0 q,12) (.p (by simp only [rank];omega) _ _) _ _ _ _ ⟨c.W,false,D,_,rs,vs,_,q,.sn (c.M-(k+1)) 7,12,0,k+1,_,st,sm,⟨?_,.s7 hM hT1 h11' sl2,hcom,(heap_setChan_ne w 0 #[] false (s0+1) (r0+1) false (by omega)).trans h.wg,h.mode,?_,h.hJ,fun e=>(by cases e),fun e i' hi'=>?_,fun e=>(by injection e with _ e;cases e)⟩,rfl⟩⟩
   ·rw [Array.getElem?_setIfInBounds_ne (by omega),Array.getElem?_setIfInBounds_self_of_lt (by omega)]
   ·refine(perm_push hi tk (16*k)).trans ?_
    rw [List.range_succ,List.map_append]
    exact h.prm.append_right _
   ·by_cases e':i'=i
    ·subst e';rw [upd_same];exact⟨h7,by simp⟩
    ·rw [ConcN.upd_ne _ _ e'];exact h.opn rfl i' hi'
  ·subst h1
   cases h.sit
end
end Go.Proofs.YtngdldcgkaplbaaGreat.Gt