import Derived.Test.YtngdldcgkaplbaaGreatK06
import Derived.Laws.CopyOwn
set_option linter.unusedVariables false
set_option linter.unusedSimpArgs false
set_option maxHeartbeats 40000000
set_option maxRecDepth 100000
namespace Go.Proofs.YtngdldcgkaplbaaGreat
open Go.RowKit Nm
theorem nlen_any (A:Option Addr)(n c:Nat)(xs:List Nat)(w:World)(h:Wds w A n c xs)(hn:n≤35184372088832) :
  Calls Tryz.prog 116 #[.slice A n c] w fun e w'=>e=.returned (.int .i64 (bl (nv xs):Int))∧w=w':=by
 have hxl:nw (nv xs)≤xs.length:=nw_nv_le h.ws
 have hlen:=h.len
 by_cases h0:nv xs=0
 ·have hz:nw (nv xs)≤0:=by rw [h0,nw_zero];omega
  have hf:(0:Int)=(bl (nv xs):Int):=by rw [h0];rfl
  have HF:=Lib.hid hf
  clear hf h0
  go_enter Tryz.func116,Tryz.ntmps116
  go_wp2_with (go_at_call 122;refine(nwords_any _ _ _ _ _ h hn).mono ?_;rintro e w' ⟨rfl,rfl⟩)
  go_ret
  exact⟨ret_int HF.out,rfl⟩
 ·obtain⟨hk,ht,htop⟩:=top_word h.ws h0
  have hnp:0<nw (nv xs):=by
   rcases Nat.eq_zero_or_pos (nw (nv xs))with e|e
   ·exact absurd (nw_eq_zero.1 e) h0
   ·exact e
  clear h0
  obtain⟨ad,hx,rfl,hb,hc⟩:=h.at_ (k:=nw (nv xs)-1) (by omega)
  have hX:=h.ws.get hx
  have HT:=Lib.hid htop
  clear htop
  generalize hXe:xs[nw (nv xs)-1]=X at *
  have HX:=Lib.hid hXe
  clear hXe
  have HL:=Lib.hid (fun w=>len32_any X w hX)
  go_enter Tryz.func116,Tryz.ntmps116
  go_wp2_with (first|(go_at_call 122;refine(nwords_any _ _ _ _ _ h hn).mono ?_;rintro e w' ⟨rfl,rfl⟩)|(go_at_call 160;refine(HL.out _).mono ?_;rintro e w' ⟨rfl,rfl⟩))
  go_ret
  exact⟨ret_int (by have h1:=HT.out;have h2:bl X≤32:=(bl_le_iff X 32).2 hX;unfold wrap64;omega),rfl⟩
def RetWE (V:Nat)(x:Int)(w:World)(e:Ending)(w':World):Prop:=∃A n c,e=.returned (.tuple #[.slice A n c,.int .i64 x])∧Wds w' A n c (nd V)∧Ext w w'
def isLong (s:Sw):Bool:=decide (16384<nw (nv s.xs))
theorem nlong_any (g k c:Nat)(ss:List Sw)(w:World)(hk:ss.length=k)(hkb:k≤1000)(hc:∀ i s,ss[i]?=some s→w.cell? ⟨g,i,none⟩=some (.slice s.A s.n s.c))(hs:∀ s∈ss,Wds w s.A s.n s.c s.xs∧s.n≤35184372088832) :
  Calls Tryz.prog 123 #[.slice (some ⟨g,0,none⟩) k c] w fun e w'=>e=.returned (.bool (ss.any isLong))∧w=w':=by
 have HC:=Lib.hid hc
 have HS:=Lib.hid hs
 clear hc hs
 go_enter Tryz.func123,Tryz.ntmps123
 go_wp2
 go_loop [7] (fun t=>∃i:Nat,i≤k∧t=.int .i64 i∧Hid ((ss.take i).any isLong=false)) (fun t=>k-(intOf t).toNat)
 case atStart=>exact⟨0,Nat.zero_le _,rfl,Lib.hid rfl⟩
 case round=>
  obtain⟨i,hi,rfl,hno⟩:=hrel
  by_cases hlt:i<k
  ·obtain⟨s,hsi⟩:∃s,ss[i]?=some s:=⟨ss[i]'(by omega),List.getElem?_eq_getElem (by omega)⟩
   have hcell:=HC.out i s hsi
   have hw:=HS.out s (List.mem_of_getElem? hsi)
   have hnw:=nwords_any s.A s.n s.c s.xs w hw.1 hw.2
   have hst:(ss.take (i+1)).any isLong=isLong s:=by
    rw [List.take_add_one,List.any_append,hno.out,hsi];simp
   have HST:=Lib.hid hst
   have HMEM:=Lib.hid (List.mem_of_getElem? hsi)
   obtain⟨m,hm⟩:∃m,m=nw (nv s.xs):=⟨_,rfl⟩
   have hL:isLong s=decide (16384<m):=by rw [hm];rfl
   rw [←hm]at hnw
   have HN:=Lib.hid hnw
   have HLL:=Lib.hid hL
   clear hst hnw hw hm hL hsi
   by_cases hb:16384<m
   ·go_wp2_with (go_at_call 122;refine HN.out.mono ?_;rintro e w' ⟨rfl,rfl⟩)
    go_ret
    exact⟨ret_bool (by
     symm
     exact List.any_eq_true.2 ⟨s,HMEM.out,by rw [HLL.out];exact decide_eq_true hb⟩),rfl⟩
   ·go_wp2_with (go_at_call 122;refine HN.out.mono ?_;rintro e w' ⟨rfl,rfl⟩)
    go_round
    case rel=>exact⟨i+1,by omega,by go_num,Lib.hid (by rw [HST.out,HLL.out];exact decide_eq_false hb)⟩
    case measure=>simp [intOf];omega
  ·have HF:Hid (ss.any isLong=false):=Lib.hid (by
    have:=hno.out
    rwa [List.take_of_length_le (by omega)]at this)
   go_wp2
   go_ret
   exact⟨ret_bool HF.out.symm,rfl⟩
theorem nfit_any (A:Option Addr)(n c:Nat)(xs:List Nat)(w:World)(h:Wds w A n c xs)(hn:n≤35184372088832)(hs:nw (nv xs)≤16384) :
  Calls Tryz.prog 129 #[.slice A n c] w (RetWE (nv xs) 0 w):=by
 go_enter Tryz.func129,Tryz.ntmps129
 go_wp2_with (go_at_call 121;refine(ncut_any _ _ _ _ _ h hn).mono ?_;rintro e w' ⟨A2,m,c2,rfl,hR,hE⟩;have hm:=Lib.hid hR.len;have hm2:m≤16384:=by(rw [←hm.out,nd_length];exact hs))
 go_ret2
 exact⟨_,_,_,rfl,hR,hE⟩
theorem copy32 (dT sT ty:TypeId)(g m:Nat)(A:Option Addr)(n c:Nat)(L xs:List Nat)(w:World)(hr:Row w g L)(hL:L.length=m)(h:Wds w A n c xs)(hmn:m≤n)(hu:Tryz.prog.underlying dT=some (.slice 105)) :
  ∃w',(Builtin.copy_ #[dT,sT] ty #[.slice (some ⟨g,0,none⟩) m m,.slice A n c]).run Tryz.prog w=.ok (.int .i64 (m:Int)) w'∧Row w' g (xs.take m)∧∀w0:World,Ext w0 w→w0.heap.size≤g→Ext w0 w':=by
 have hn0:0<n→∃ad,A=some ad∧ad.block<w.heap.size∧∀(k x:Nat),xs[k]?=some x→w.cell? (ad.add k)=some (.int .u32 (x:Int)):=h.2.2.2.2
 have hsz:(Tryz.prog.info? 105).map (·.size)=some 1:=by kernel_rfl
 have hxl:=h.len
 have key:∀a:Addr,(∀(k x:Nat),xs[k]?=some x→w.cell? (a.add k)=some (.int .u32 (x:Int)))→A=some a →
   ∃w',(Builtin.copy_ #[dT,sT] ty #[.slice (some ⟨g,0,none⟩) m m,.slice A n c]).run Tryz.prog w=.ok (.int .i64 (m:Int)) w'∧Row w' g (xs.take m)∧∀w0:World,Ext w0 w→w0.heap.size≤g→Ext w0 w':=by
  intro a hc hA
  subst hA
  have hcs:(u32s (xs.take m)).length=m:=by rw [u32s_length,List.length_take];omega
  have hrun:=run_copy_row Tryz.prog w dT sT ty 105 g 0 m m a n c (u32s L).toArray 105 (u32s (xs.take m)) hu hsz hr (by rw [hcs];exact(Nat.min_eq_right hmn).symm) (fun j v hj=>by
   have h1:(u32s xs)[j]?=some v:=by
    unfold u32s at hj ⊢
    rw [List.map_take]at hj
    rw [List.getElem?_take]at hj
    split at hj
    ·exact hj
    ·cases hj
   unfold u32s at h1
   rw [List.getElem?_map]at h1
   cases hx:xs[j]? with
   |none=>rw [hx]at h1;cases h1
   |some x=>rw [hx]at h1;injection h1 with h1;subst h1;exact hc j x hx) (by rw [hcs];simp [u32s,hL]) (fun v hv=>by
   unfold u32s at hv
   obtain⟨x,_,rfl⟩:=List.mem_map.1 hv
   rfl)
  rw [hcs]at hrun
  refine⟨_,hrun,?_,fun w0 hE hg=>?_⟩
  ·have:(List.take 0 (u32s L).toArray.toList++u32s (List.take m xs)++List.drop (0+m) (u32s L).toArray.toList)=u32s (xs.take m):=by
    rw [List.drop_of_length_le (by simp [u32s,hL])];simp
   rw [this]
   exact setRow_heap w g _ _ _ _ hr
  ·exact below_setRow hE hg _
 by_cases h0:n=0
 ·have hm0:m=0:=by omega
  have hx0:xs=[]:=List.length_eq_zero_iff.1 (by omega)
  cases A with
  |some ad=>exact key ad (fun k x hx=>by rw [hx0]at hx;simp at hx) rfl
  |none=>
   subst h0 hm0
   refine⟨w,?_,by rw [hx0];rw [List.length_eq_zero_iff.1 hL]at hr;exact hr,fun w0 hE _=>hE⟩
   cases hq:Tryz.prog.info? 105 with
   |none=>simp [hq]at hsz
   |some i=>simp [Builtin.copy_,run_underlying hu,Builtin.lenOf,Builtin.firstCells,sizeOf,typeInfo,hq,storeCells,goInt]
 ·obtain⟨ad,e,_,hc⟩:=hn0 (by omega)
  exact key ad hc e
theorem nnorm_any (A:Option Addr)(n c:Nat)(xs:List Nat)(w:World)(h:Wds w A n c xs)(hn:n≤35184372088832) :
  Calls Tryz.prog 115 #[.slice A n c] w fun e w'=>∃g m,e=.returned (.slice (some ⟨g,0,none⟩) m m)∧Row w' g (nd (nv xs))∧w.heap.size≤g∧m=nw (nv xs)∧Ext w w':=by
 have hnw:=nwords_any A n c xs w h hn
 have hle:nw (nv xs)≤n:=by have:=nw_nv_le h.ws;have:=h.len;omega
 obtain⟨m,hm⟩:∃m,m=nw (nv xs):=⟨_,rfl⟩
 rw [←hm]at hnw hle
 have hmk:=run_make32 m (by omega) w
 have hr0:=Row.new w (List.replicate m 0)
 have hE0:Ext w (w.alloc (.cells (u32s (List.replicate m 0)).toArray 105)):=(Ext.refl w).alloc _
 have h1:=h.ext hE0
 obtain⟨w1,hw1⟩:∃w1,w1=w.alloc (.cells (u32s (List.replicate m 0)).toArray 105):=⟨_,rfl⟩
 rw [←hw1]at hmk hr0 hE0 h1
 clear hw1
 obtain⟨g,hg⟩:∃g,g=w.heap.size:=⟨_,rfl⟩
 rw [←hg]at hmk hr0
 have hgl:w.heap.size≤g:=by omega
 clear hg
 obtain⟨w2,hcp,hr2,hE2⟩:=copy32 65 65 3 g m A n c (List.replicate m 0) xs w1 hr0 (by simp) h1 hle Tryz.underlying65
 have hE3:=hE2 w hE0 hgl
 have ht:xs.take m=nd (nv xs):=by rw [hm];exact(nd_take h.ws).symm
 rw [ht]at hr2
 have HN:=Lib.hid hnw
 have HM:=Lib.hid hm
 have HR:=Lib.hid hr2
 have HE:=Lib.hid hE3
 clear hnw hm hr2 hE3 hE2 hr0 hE0 h1 h ht
 go_enter Tryz.func115,Tryz.ntmps115
 go_wp2_with (go_at_call 122;refine HN.out.mono ?_;rintro e w' ⟨rfl,rfl⟩)
 go_ret
 exact⟨g,m,rfl,HR.out,hgl,HM.out,HE.out⟩
theorem nnorm_ret (A:Option Addr)(n c:Nat)(xs:List Nat)(w:World)(h:Wds w A n c xs)(hn:n≤35184372088832) :
  Calls Tryz.prog 115 #[.slice A n c] w (RetW (nv xs) w):=
 (nnorm_any A n c xs w h hn).mono fun e w' ⟨g,m,he,hr,hg,hm,hE⟩=>by
  have hle:nw (nv xs)≤n:=by have:=nw_nv_le h.ws;have:=h.len;omega
  exact⟨_,_,_,he,hr.wds (Ws.nd _) (by rw [nd_length];exact hm.symm) (Nat.le_refl _) (by unfold maxLen;omega),hE⟩
theorem take_set_self {l:List Nat}{k:Nat}(x:Nat):(l.set k x).take k=l.take k:=by
 apply List.ext_getElem?
 intro j
 rw [List.getElem?_take,List.getElem?_take,List.getElem?_set]
 split
 ·rw [if_neg (by omega)]
 ·rfl
theorem shift_step {L xs:List Nat}{i cr x s v lo hi:Nat}(hiL:i < L.length)(hix:i < xs.length)(hx:xs[i]=x)(hx32:x < 4294967296)(hcr:cr < 2^s)(hinv:nv (L.take i)+4294967296^i*cr=nv (xs.take i)*2^s)
  (hv:v=cr+x*2^s) (hlo:lo=v%4294967296) (hhi:hi=v/4294967296):
  nv ((L.set i lo).take (i+1))+4294967296^(i+1)*hi=nv (xs.take (i+1))*2^s∧hi<2^s:=by
 constructor
 ·rw [nv_take_succ (l:=L.set i lo) (by simpa using hiL),nv_take_succ hix,take_set_self,List.getElem_set_self,hx,Nat.add_mul,←hinv,Nat.pow_succ]
  have e:lo+4294967296*hi=cr+x*2^s:=by rw [hlo,hhi,←hv];exact Nat.mod_add_div _ _
  have e1:4294967296^i*(lo+4294967296*hi)=4294967296^i*(cr+x*2^s):=by rw [e]
  rw [Nat.mul_add,Nat.mul_add,←Nat.mul_assoc,←Nat.mul_assoc]at e1
  omega
 ·rw [hhi,Nat.div_lt_iff_lt_mul (by omega),hv]
  have:x*2^s≤4294967295*2^s:=Nat.mul_le_mul_right _ (by omega)
  rw [Nat.mul_comm (2^s)]
  omega
theorem or_shift (cr x s:Nat)(hs:s < 32)(hcr:cr < 2^s)(hx:x < 4294967296):∃p:Nat,(x:Int)*2^s=(p:Int)∧p<18446744073709551616∧bits .or .u64 (cr:Int) (p:Int)=((cr+x*2^s:Nat):Int)∧cr+x*2^s<18446744073709551616:=by
 have h1:2^s≤2147483648:=Nat.pow_le_pow_right (n:=2) (by omega) (show s≤31 by omega)
 have h2:x*2^s≤4294967295*2147483648:=Nat.mul_le_mul (by omega) h1
 have e1:((x:Nat):Int)*2^s=((x*2^s:Nat):Int):=by push_cast;rfl
 refine⟨x*2^s,e1,by omega,?_,by omega⟩
 rw [u64_or_nat _ _ (by omega) (by omega),Nat.or_comm,nat_join s _ _ (Nat.mul_mod_left _ _) hcr]
 omega
theorem nshift_any (A:Option Addr)(n c:Nat)(xs:List Nat)(s:Nat)(w:World)(h:Wds w A n c xs)(hn:n≤17592186044416)(hs:s < 32) :
  Calls Tryz.prog 167 #[.slice A n c,.int .i64 (s:Int)] w fun e w'=>∃g L,e=.returned (.slice (some ⟨g,0,none⟩) (n+1) (n+1))∧Row w' g L∧Ws L∧L.length=n+1∧nv L=nv xs*2^s∧w.heap.size≤g∧Ext w w':=by
 have hlx:=h.len
 have hmk:=run_make32 (n+1) (by omega) w
 push_cast at hmk
 have hr0:=Row.new w (List.replicate (n+1) 0)
 have hE0:Ext w (w.alloc (.cells (u32s (List.replicate (n+1) 0)).toArray 105)):=(Ext.refl w).alloc _
 obtain⟨w1,hw1⟩:∃w1,w1=w.alloc (.cells (u32s (List.replicate (n+1) 0)).toArray 105):=⟨_,rfl⟩
 rw [←hw1]at hmk hr0 hE0
 clear hw1
 obtain⟨g,hg⟩:∃g,g=w.heap.size:=⟨_,rfl⟩
 rw [←hg]at hmk hr0
 have hgl:w.heap.size≤g:=by omega
 clear hg
 have hp:0<2^s:=Nat.two_pow_pos s
 go_enter Tryz.func167,Tryz.ntmps167
 go_wp2
 clear hmk
 go_loopw [6,15] (fun cv iv wr=>∃(i cr:Nat) (L:List Nat),i≤n∧iv=.int .i64 i∧cv=.int .u64 (cr:Int)∧Hid (cr<2^s)∧cr<4294967296∧Row wr g L∧Ws L∧Hid (L.length=n+1)∧Hid (nv (L.take i)+4294967296^i*cr=nv (xs.take i)*2^s)∧Ext w wr) (fun _ iv _=>n-(intOf iv).toNat)
 case atStart=>exact⟨0,0,_,Nat.zero_le _,rfl,rfl,Lib.hid hp,by omega,hr0,Ws.replicate _ (by omega),Lib.hid (by simp),Lib.hid (by simp [nv]),hE0⟩
 case round=>
  obtain⟨i,cr,L,hi,rfl,rfl,hcr,hcr32,hrow,hL,hLl,hinv,hE⟩:=hrel
  by_cases hlt:i<n
  ·obtain⟨ad,hx,rfl,_,hcX⟩:=(h.ext hE).at_ (k:=i) hlt
   have hX32:=h.ws.get hx
   have hiL:i<L.length:=by rw [hLl.out];omega
   have hst:=fun v lo hi'=>shift_step (s:=s) (v:=v) (lo:=lo) (hi:=hi') hiL hx rfl hX32 hcr.out hinv.out
   obtain⟨x,hxe⟩:∃x,x=xs[i]:=⟨_,rfl⟩
   rw [←hxe]at hcX hX32 hst
   have hor:=or_shift cr x s hs hcr.out hX32
   obtain⟨v,hv⟩:∃v,v=cr+x*2^s:=⟨_,rfl⟩
   rw [←hv]at hor
   obtain⟨p,hp1,hp2,hor1,hv64⟩:=hor
   have hst':=hst v (v%4294967296) (v/4294967296) hv rfl rfl
   have hc1:=hrow.cell hiL
   have hf1:=hrow.frozen i
   have hrow':=hrow.set_ i (v%4294967296)
   have e1:(v:Int)%4294967296=((v%4294967296:Nat):Int):=by omega
   have e2:(v:Int)/4294967296=((v/4294967296:Nat):Int):=by omega
   have hlo32:v%4294967296<4294967296:=by omega
   have hhi32:v/4294967296<4294967296:=by omega
   obtain⟨lo,hlo⟩:∃lo,lo=v%4294967296:=⟨_,rfl⟩
   obtain⟨hi',hhi⟩:∃hi',hi'=v/4294967296:=⟨_,rfl⟩
   rw [←hlo]at e1 hrow' hlo32 hst'
   rw [←hhi]at e2 hhi32 hst'
   have HST:=Lib.hid hst'
   have Hlx:=Lib.hid hlx
   have Hx:=Lib.hid hxe
   clear hst hst' hlo hhi hv hxe hlx
   go_wp2
   go_roundw
   case rel=>exact⟨i+1,hi',_,by omega,by go_num,rfl,Lib.hid HST.out.2,hhi32,hrow',hL.set _ hlo32,Lib.hid (by simp [hLl.out]),Lib.hid HST.out.1,hE.setCell hgl _⟩
   case measure=>simp [intOf];omega
  ·have hie:i=n:=by omega
   subst hie
   have hiL:i<L.length:=by rw [hLl.out];omega
   have hc1:=hrow.cell hiL
   have hf1:=hrow.frozen i
   have hrow':=hrow.set_ i cr
   have hval:Hid (nv (L.set i cr)=nv xs*2^s):=Lib.hid (by
    have h1:=hinv.out
    rw [List.take_of_length_le (show xs.length≤i by omega)]at h1
    rw [←h1,←List.take_of_length_le (show(L.set i cr).length≤i+1 by simp [hLl.out]),nv_take_succ (l:=L.set i cr) (by simpa using hiL),take_set_self,List.getElem_set_self])
   go_wp2
   go_ret
   exact⟨g,_,rfl,hrow',hL.set _ hcr32,by simp [hLl.out],hval.out,hgl,hE.setCell hgl _⟩
theorem run_make32c (n m:Nat)(hnm:n≤m)(hm:m≤70368744177664)(w:World) :
  (Instr.makeSlice 65 (.int .i64 (n:Int)) (.int .i64 (m:Int))).run Tryz.prog w=.ok (.slice (some ⟨w.heap.size,0,none⟩) n m) (w.alloc (.cells (u32s (List.replicate m 0)).toArray 105)):=by
 obtain⟨i0,hi0,hz0,hz1,hz2⟩:=info_parts info_u32
 have hr:=run_make (P:=Tryz.prog) w 65 105 i0 (.int .u32 0) Tryz.underlying65 hi0 hz0 .i64 .i64 n m (by omega) (by omega) (by rw [hz2];omega) (by omega)
 simp only [Int.toNat_natCast]at hr
 rw [hr,hz1,cells_replicate]
theorem Row.own_cap {w:World}{g:Nat}{L:List Nat}(h:Row w g L){base n m:Nat}(hb:base≤g)(hn:L.length=m)(hnm:n≤m)(hm:m≤maxLen):w.ownsRow base 105 1 (.slice (some ⟨g,0,none⟩) n m) n (u32s (L.take n)):=
 ⟨by rw [u32s_length,List.length_take];omega,.inr ⟨g,m,_,rfl,hb,h,hnm,hm,by simp [u32s_length,hn],by simp [u32s,List.map_take]⟩⟩
theorem nv_zeros_append (k:Nat)(L:List Nat):nv (List.replicate k 0++L)=4294967296^k*nv L:=by
 rw [nv_append,nv_replicate,List.length_replicate,Nat.zero_add]
theorem wp_appRow {ops:Array Oper}{rest:List Oper}{o:Oper}{a:Act}{Q:Exit→Act→World→Prop}(hgd:o.guard=none)(s x:Operand)
  (ho:o.op=.call { callee:=.builtin .append,args:=#[s,x],argTypes:=#[65,65] })
  {w0 w:World} {v:Value} {j m c:Nat} {acc L:List Nat} {g:Nat} (hs:a.eval s=v) (hown:w.ownsRow w0.heap.size 105 1 v j (u32s acc)) (hb:Ext w0 w)
  (hx:a.eval x=.slice (some ⟨g,0,none⟩) m c) (hr:Row w g L) (hl:L.length=m) (hj:j+m≤35184372088000)
  (h:∀v' w1,w1.ownsRow w0.heap.size 105 1 v' (j+m) (u32s (acc++L))→Ext w0 w1→wpList Tryz.prog ops Q rest (a.put o.dst v') w1):
  wpList Tryz.prog ops Q (o::rest) a w:=by
 obtain⟨i0,hi0,hz0,hz1,hz2⟩:=info_parts info_u32
 refine wpList_append_own _ hgd s x _ ho w0.heap.size 105 i0 (.int .u32 0) 1 4 Tryz.underlying65 hi0 hz0 hz1 hz2 rfl (by decide) _ _ _ hs hown ⟨g,0,none⟩ m c (u32s L) hx (by rw [u32s_length,hl];omega) (fun k u hk=>?_) (fun u hu=>?_) (by simp only [maxLen];omega) (by omega) hb.size ?_
 ·unfold u32s at hk
  rw [List.getElem?_map]at hk
  cases hx:L[k]? with
  |none=>rw [hx]at hk;cases hk
  |some y=>
   rw [hx]at hk
   injection hk with hk
   subst hk
   obtain⟨hkl,hky⟩:=List.getElem?_eq_some_iff.1 hx
   rw [Addr.add_lit,Nat.zero_add,hr.cell hkl,hky]
 ·unfold u32s at hu
  obtain⟨y,_,rfl⟩:=List.mem_map.1 hu
  rfl
 ·intro v' w1 hown' hgrow _
  have e:u32s acc++u32s L=u32s (acc++L):=by simp [u32s]
  rw [e]at hown'
  exact h v' w1 hown' (hb.grown hgrow fun q hq=>(hown.lt q hq).1)
theorem nup_any (A:Option Addr)(n c:Nat)(xs:List Nat)(s:Nat)(w:World)(h:Wds w A n c xs)(hn:n≤1099511627776)(hs:s≤35184372088832) :
  Calls Tryz.prog 124 #[.slice A n c,.int .i64 (s:Int)] w (RetW (nv xs*2^s) w):=by
 obtain⟨D,S,hS,hsD⟩:∃D S,S<32∧s=32*D+S:=⟨s/32,s%32,Nat.mod_lt _ (by omega),by omega⟩
 have hq:(s:Int)/32=(D:Int):=by omega
 have hr:(s:Int)%32=(S:Int):=by omega
 have hV:nv xs*2^s=4294967296^D*(nv xs*2^S):=by
  rw [hsD,Nat.pow_add,Nat.pow_mul,show(2^32:Nat)=4294967296 from rfl]
  simp only [Nat.mul_assoc,Nat.mul_comm,Nat.mul_left_comm]
 rw [hV]
 have hmk:=run_make32c D (D+n+1) (by omega) (by omega) w
 push_cast at hmk
 have hr0:=Row.new w (List.replicate (D+n+1) 0)
 have hE0:Ext w (w.alloc (.cells (u32s (List.replicate (D+n+1) 0)).toArray 105)):=(Ext.refl w).alloc _
 obtain⟨w1,hw1⟩:∃w1,w1=w.alloc (.cells (u32s (List.replicate (D+n+1) 0)).toArray 105):=⟨_,rfl⟩
 rw [←hw1]at hmk hr0 hE0
 clear hw1
 obtain⟨g,hg⟩:∃g,g=w.heap.size:=⟨_,rfl⟩
 rw [←hg]at hmk hr0
 have hgl:w.heap.size≤g:=by omega
 clear hg hV hsD
 go_enter Tryz.func124,Tryz.ntmps124
 go_wp2_with fail
 refine(nshift_any _ _ _ _ S _ (h.ext hE0) (by omega) hS).mono ?_
 rintro e w2 ⟨g2,L,rfl,hr2,hL,hLl,hLv,hg2,hE2⟩
 have hown:=Row.own_cap (hr0.ext hE2) hgl (show _=D+n+1 by simp) (show D≤D+n+1 by omega) (by unfold maxLen;omega)
 have ht:(List.replicate (D+n+1) 0).take D=List.replicate D 0:=by rw [List.take_replicate];congr 1;omega
 rw [ht]at hown
 have HL:=Lib.hid hLv
 have hE:=hE0.trans hE2
 clear hmk ht hLv
 go_wp2_with (at_builtin;refine wp_appRow rfl (.tmp 15) (.tmp 19) rfl rfl hown hE rfl hr2 hLl (by omega) ?_;intro v' w3 hown' hE3)
 obtain⟨A3,c3,rfl,hW⟩:=Wds.of_own hown' (Ws.append (Ws.replicate _ (by omega)) hL)
 refine(ncut_any _ _ _ _ _ hW (by omega)).mono ?_
 rintro e w4 ⟨A4,n4,c4,rfl,hR,hE4⟩
 rw [nv_zeros_append,HL.out]at hR
 clear hown hown' hW
 go_wp2
 go_ret
 exact⟨_,_,_,rfl,hR,hE3.trans hE4⟩
theorem Wds.pre {w:World}{A:Option Addr}{n c:Nat}{xs:List Nat}(h:Wds w A n c xs):Wds w A (nw (nv xs)) c (nd (nv xs)):=by
 have hle:nw (nv xs)≤n:=by have:=nw_nv_le h.ws;have:=h.len;omega
 have hc1:=h.lec
 refine⟨nd_length _,by omega,h.cmax,Ws.nd _,fun h0=>?_⟩
 obtain⟨ad,e,hlt,hc⟩:=h.2.2.2.2 (by omega)
 refine⟨ad,e,hlt,fun k x hk=>hc k x ?_⟩
 rw [nd_take h.ws,List.getElem?_take]at hk
 split at hk
 ·exact hk
 ·cases hk
theorem isLong_nd (V:Nat)(A:Option Addr)(n c:Nat):isLong ⟨A,n,c,nd V⟩=decide (16384<nw V):=by
 unfold isLong;rw [nv_nd]
theorem nlong_one (g c:Nat)(A:Option Addr)(m d V:Nat)(w:World)(hc:w.cell? ⟨g,0,none⟩=some (.slice A m d))(h:Wds w A m d (nd V))(hm:m≤35184372088832) :
  Calls Tryz.prog 123 #[.slice (some ⟨g,0,none⟩) 1 c] w fun e w'=>e=.returned (.bool (decide (16384<nw V)))∧w=w':=
 (nlong_any g 1 c [⟨A,m,d,nd V⟩] w rfl (by omega) (fun i s hs=>by
   match i,hs with
   |0,hs=>simp at hs;subst hs;exact hc
   |i+1,hs=>simp at hs) (fun s hs=>by simp at hs;subst hs;exact⟨h,hm⟩)).mono fun e w' h=>⟨by rw [h.1];exact ret_bool (by simp [isLong_nd]),h.2⟩
theorem nshl_zero (A:Option Addr)(n c:Nat)(xs:List Nat)(s:Nat)(w:World)(h:Wds w A n c xs)(hn:n≤17592186044416)(hs:s≤35184372088832)(h0:nv xs=0) :
  Calls Tryz.prog 71 #[.slice A n c,.int .i64 (s:Int)] w (RetWE 0 0 w):=by
 have hnw:=nwords_any A n c xs w h (by omega)
 have hpre:=h.pre
 rw [h0,nw_zero]at hnw hpre
 have HN:=Lib.hid hnw
 have HL:=Lib.hid (fun g w hc h=>nlong_one g 1 A 0 c 0 w hc h (by omega))
 have hlec:=h.lec
 clear hnw h0
 cases A
 all_goals
  go_enter Tryz.func71,Tryz.ntmps71
  go_wp2_with (first|(go_at_call 122;refine HN.out.mono ?_;rintro e w' ⟨rfl,rfl⟩)|(go_at_call 123;refine(HL.out _ _ (by simp) (hpre.alloc _)).mono ?_;rintro e w' ⟨rfl,rfl⟩))
  go_ret2
  exact⟨none,0,0,rfl,Wds.nil_ (by unfold maxLen;omega),(Ext.refl w).alloc _⟩
theorem nw_of_bl {V:Nat}(h:bl V≤524288):nw V≤16384:=by rw [nw_bl];omega
theorem bl_le_nw (V:Nat):bl V≤32*nw V:=by rw [bl_le_iff,←pow32];exact lt_pow_nw V
theorem nshl_any (A:Option Addr)(n c:Nat)(xs:List Nat)(s:Nat)(w:World)(h:Wds w A n c xs)(hn:n≤17592186044416)(h0:nv xs≠0)(hs:bl (nv xs)+s≤524288) :
  Calls Tryz.prog 71 #[.slice A n c,.int .i64 (s:Int)] w (RetWE (nv xs*2^s) 0 w):=by
 have hnw:=nwords_any A n c xs w h (by omega)
 have hpre:=h.pre
 have hle:nw (nv xs)≤n:=by have:=nw_nv_le h.ws;have:=h.len;omega
 have hnl:nw (nv xs)≤16384:=nw_of_bl (by omega)
 have hn1:0<nw (nv xs):=by rcases Nat.eq_zero_or_pos (nw (nv xs))with e|e;exact absurd (nw_eq_zero.1 e) h0;exact e
 obtain⟨V,hV⟩:∃V,V=nv xs:=⟨_,rfl⟩
 rw [←hV]at hnw hpre hle hnl hn1 hs ⊢
 have hvn:=nv_nd V
 obtain⟨m,hm⟩:∃m,m=nw V:=⟨_,rfl⟩
 obtain⟨vs,hvs⟩:∃vs,vs=nd V:=⟨_,rfl⟩
 rw [←hm]at hnw hle hnl hn1
 have hLG:∀g w,w.cell? ⟨g,0,none⟩=some (.slice A m c)→Wds w A m c vs→Calls Tryz.prog 123 #[.slice (some ⟨g,0,none⟩) 1 1] w fun e w'=>e=.returned (.bool false)∧w=w':=fun g w hc hw=>
  (nlong_one g 1 A m c V w hc (hvs▸hw) (by omega)).mono fun e w' h=>⟨by rw [h.1,←hm,decide_eq_false (by omega)],h.2⟩
 rw [←hm,←hvs]at hpre
 rw [←hvs]at hvn
 obtain⟨B,hB⟩:∃B,B=bl V:=⟨_,rfl⟩
 rw [←hB]at hs
 have hLen:∀w,Wds w A m c vs→Calls Tryz.prog 116 #[.slice A m c] w fun e w'=>e=.returned (.int .i64 (B:Int))∧w=w':=fun w hw=>
  (nlen_any A m c vs w hw (by omega)).mono fun e w' h=>⟨by rw [h.1,hvn,←hB],h.2⟩
 have hUp:∀w,Wds w A m c vs→Calls Tryz.prog 124 #[.slice A m c,.int .i64 (s:Int)] w (RetW (V*2^s) w):=fun w hw=>by
  have:=nup_any A m c vs s w hw (by omega) (by omega)
  rwa [hvn]at this
 have HN:=Lib.hid hnw
 have HG:=Lib.hid hLG
 have HE:=Lib.hid hLen
 have HU:=Lib.hid hUp
 have hp1:=hpre.alloc (.cells #[.slice A m c] 65)
 have hlec:=h.lec
 clear hnw hLG hLen hUp hV hvn hm hvs hB h0 h
 cases A
 all_goals
  go_enter Tryz.func71,Tryz.ntmps71
  go_wp2_with (first|(go_at_call 122;refine HN.out.mono ?_;rintro e w' ⟨rfl,rfl⟩)|(go_at_call 123;refine(HG.out _ _ (by simp) hp1).mono ?_;rintro e w' ⟨rfl,rfl⟩)|(go_at_call 116;refine(HE.out _ hp1).mono ?_;rintro e w' ⟨rfl,rfl⟩)|(go_at_call 124;refine(HU.out _ hp1).mono ?_;rintro e w' ⟨A2,n2,c2,rfl,hR,hE⟩))
  go_ret2
  exact⟨A2,n2,c2,rfl,hR,((Ext.refl w).alloc _).trans hE⟩
theorem nshl_long (A:Option Addr)(n c:Nat)(xs:List Nat)(s:Nat)(w:World)(h:Wds w A n c xs)(hn:n≤17592186044416)(h0:nv xs≠0)(hnl:nw (nv xs)≤16384)(hsb:s≤35184372088832)(hs:524288 < bl (nv xs)+s) :
  Calls Tryz.prog 71 #[.slice A n c,.int .i64 (s:Int)] w (RetWE 0 2 w):=by
 have hnw:=nwords_any A n c xs w h (by omega)
 have hpre:=h.pre
 have hle:nw (nv xs)≤n:=by have:=nw_nv_le h.ws;have:=h.len;omega
 have hn1:0<nw (nv xs):=by rcases Nat.eq_zero_or_pos (nw (nv xs))with e|e;exact absurd (nw_eq_zero.1 e) h0;exact e
 obtain⟨V,hV⟩:∃V,V=nv xs:=⟨_,rfl⟩
 rw [←hV]at hnw hpre hle hnl hn1 hs
 have hvn:=nv_nd V
 obtain⟨m,hm⟩:∃m,m=nw V:=⟨_,rfl⟩
 obtain⟨vs,hvs⟩:∃vs,vs=nd V:=⟨_,rfl⟩
 rw [←hm]at hnw hle hnl hn1
 have hLG:∀g w,w.cell? ⟨g,0,none⟩=some (.slice A m c)→Wds w A m c vs→Calls Tryz.prog 123 #[.slice (some ⟨g,0,none⟩) 1 1] w fun e w'=>e=.returned (.bool false)∧w=w':=fun g w hc hw=>
  (nlong_one g 1 A m c V w hc (hvs▸hw) (by omega)).mono fun e w' h=>⟨by rw [h.1,←hm,decide_eq_false (by omega)],h.2⟩
 rw [←hm,←hvs]at hpre
 rw [←hvs]at hvn
 obtain⟨B,hB⟩:∃B,B=bl V:=⟨_,rfl⟩
 rw [←hB]at hs
 have hLen:∀w,Wds w A m c vs→Calls Tryz.prog 116 #[.slice A m c] w fun e w'=>e=.returned (.int .i64 (B:Int))∧w=w':=fun w hw=>
  (nlen_any A m c vs w hw (by omega)).mono fun e w' h=>⟨by rw [h.1,hvn,←hB],h.2⟩
 have hBb:B≤524288:=by have:=bl_le_nw V;omega
 have HN:=Lib.hid hnw
 have HG:=Lib.hid hLG
 have HE:=Lib.hid hLen
 have hp1:=hpre.alloc (.cells #[.slice A m c] 65)
 have hlec:=h.lec
 clear hnw hLG hLen hV hvn hm hvs hB h0 h
 cases A
 all_goals
  go_enter Tryz.func71,Tryz.ntmps71
  go_wp2_with (first|(go_at_call 122;refine HN.out.mono ?_;rintro e w' ⟨rfl,rfl⟩)|(go_at_call 123;refine(HG.out _ _ (by simp) hp1).mono ?_;rintro e w' ⟨rfl,rfl⟩)|(go_at_call 116;refine(HE.out _ hp1).mono ?_;rintro e w' ⟨rfl,rfl⟩))
  go_ret2
  exact⟨none,0,0,rfl,Wds.nil_ (by unfold maxLen;omega),(Ext.refl w).alloc _⟩
end Go.Proofs.YtngdldcgkaplbaaGreat
namespace Go.Proofs.YtngdldcgkaplbaaGreat
open Go.RowKit Nm Rn
def RetFl (v:Nat)(w:World)(e:Ending)(w':World):Prop:=
 ∃r,e=.returned (.float .f64 r)∧r<18446744073709551616∧cn r=v∧Ext w w'
theorem cn_num {r:Nat}(h:isNaN r=false):cn r=r:=by unfold cn;rw [h];rfl
theorem rnd_ok (d:Int)(neg:Bool)(Z:Nat):rnd d neg Z<18446744073709551616∧isNaN (rnd d neg Z)=false:=by
 have h:=rr_le d neg Z
 rw [infR_val]at h
 unfold rnd pat
 generalize rr d neg Z=r at h
 have h2:isNaN 0=false:=rfl
 by_cases h0:r=0
 ·rw [if_pos h0];exact⟨by omega,h2⟩
 ·rw [if_neg h0]
  unfold isNaN mg
  rw [infR_val]
  cases neg
  ·simp;omega
  ·simp;omega
theorem ld_norm {s:Nat}(h1:1≤s)(h2:s≤9007199254740992):∃u0 s',1022≤u0∧u0≤1075∧4503599627370496≤s'∧s'<9007199254740992∧∀c,c=1074→s'*2^u0=s*2^c:=by
 by_cases he:s=9007199254740992
 ·subst he
  refine⟨1075,4503599627370496,by omega,by omega,by omega,by omega,fun c hc=>?_⟩
  rw [show 1075=c+1 by omega,Nat.pow_succ]
  omega
 ·have hl:=(Nat.log2_eq_iff (show s≠0 by omega)).1 rfl
  have hl52:s.log2≤52:=by
   have:s.log2<53:=(Nat.log2_lt (by omega)).2 (by omega)
   omega
  refine⟨1074-(52-s.log2),s*2^(52-s.log2),by omega,by omega,?_,?_,fun c hc=>?_⟩
  ·have:2^s.log2*2^(52-s.log2)≤s*2^(52-s.log2):=Nat.mul_le_mul_right _ hl.1
   rw [←Nat.pow_add,show s.log2+(52-s.log2)=52 by omega]at this
   omega
  ·have:s*2^(52-s.log2)<2^(s.log2+1)*2^(52-s.log2):=Nat.mul_lt_mul_of_pos_right hl.2 (Nat.two_pow_pos _)
   rw [←Nat.pow_add,show s.log2+1+(52-s.log2)=53 by omega]at this
   omega
  ·rw [Nat.mul_assoc,←Nat.pow_add];congr 2;omega
theorem nearest_of {s u0 s':Nat}(hu:u0≤1075)(h1:4503599627370496≤s')(h2:s' < 9007199254740992)(h:∀ c,c=1074→s'*2^u0=s*2^c) :
  FloatKind.f64.nearest (s:Int)=u0*4503599627370496+s':=by
 have e:FloatKind.f64.nearest (s:Int)=Ieee.double.nearest (decide ((s:Int)<0)) s 0:=rfl
 rw [e,nearest_eq,word_eq,decide_eq_false (by omega),if_neg (by simp)]
 have hS:=h ((0:Int)+1074).toNat (by omega)
 rw [zd_units (S:=s*2^((0:Int)+1074).toNat) (by omega) rfl,←hS]
 show near (4*(s'*2^u0))=_
 rw [near_nr,←rv_form u0 s' (by omega) (fun _=>h1),nr_rv,infR_val]
 omega
theorem Rn.Fl.up {r:Nat}(h:r < infR):Fl r (rv r:Int):=by
 have h':=h
 rw [infR_val]at h'
 have hs:sg r=false:=by unfold sg;exact decide_eq_false (by omega)
 have hm:mg r=r:=by unfold mg;omega
 refine⟨by omega,by rw [hm];exact h,?_⟩
 unfold sv
 rw [hs,hm];rfl
theorem Rn.Fl.pat_ {r R:Nat}{S:Int}(h:Fl r S)(hS:S=(rv R:Int))(h0:R≠0):r=R:=by
 have h1:=h.abs
 have h2:=h.val
 have hR:rv R≠0:=fun e=>h0 (rv_eq_zero.1 e)
 rw [hS]at h1 h2
 rw [Int.natAbs_natCast]at h1
 have h3:=rv_inj h1
 have hs:sg r=false:=by
  unfold sv at h2
  cases hh:sg r
  ·rfl
  ·rw [hh]at h2;simp at h2;omega
 have:=split_pat h.lt
 rw [hs]at this
 simp at this
 omega
theorem mul_one_ {y:Nat}(hy:y < infR)(h0:y≠0):Ieee.double.mul 4607182418800017408 y=some y:=by
 have hf:=Fl.up hy
 have h1:Fl 4607182418800017408 (rv 4607182418800017408:Int):=Fl.up (by rw [infR_val];omega)
 have e1:rv 4607182418800017408=2^1074:=by
  have:=rv_form 1022 4503599627370496 (by omega) (fun _=>by omega)
  rw [show 1022*4503599627370496+4503599627370496=4607182418800017408 by omega]at this
  obtain⟨c,hc⟩:∃c,c=1022:=⟨_,rfl⟩
  rw [←hc]at this
  rw [this,show 1074=52+c by omega,Nat.pow_add]
 obtain⟨r,hr,hfr⟩:=h1.mul hf (q:=(rv y:Int)) (by rw [e1,Int.mul_comm]) (by rw [Int.natAbs_natCast,nr_rv];exact hy)
 rw [hr]
 congr 1
 refine hfr.pat_ ?_ h0
 exact rn_of hf.rp
theorem mul_low {s y u:Nat}(hs:1≤s)(hs2:s < 4503599627370496)(hy:y < infR)(hv:∀ c,c=53→rv y=s*2^c):Ieee.double.mul 4368491638549381120 y=some s:=by
 have hf:=Fl.up hy
 have h1:Fl 4368491638549381120 (rv 4368491638549381120:Int):=Fl.up (by rw [infR_val];omega)
 have hq:(s:Int)*((2^1074:Nat):Int)=(rv 4368491638549381120:Int)*(rv y:Int):=by
  have:=rv_form 969 4503599627370496 (by omega) (fun _=>by omega)
  rw [show 969*4503599627370496+4503599627370496=4368491638549381120 by omega]at this
  obtain⟨c,hc⟩:∃c,c=969:=⟨_,rfl⟩
  rw [←hc]at this
  have e:s*2^1074=rv 4368491638549381120*rv y:=by
   rw [this,hv 53 rfl,show 1074=52+(c+53) by omega,Nat.pow_add,Nat.pow_add]
   rw [show(2^52:Nat)=4503599627370496 from rfl]
   simp only [Nat.mul_assoc,Nat.mul_comm,Nat.mul_left_comm]
  rw [←Int.natCast_mul,←Int.natCast_mul]
  exact congrArg Int.ofNat e
 have hrs:rv s=s:=rv_small (by omega)
 have hsR:s<infR:=by rw [infR_val];omega
 obtain⟨r,hr,hfr⟩:=h1.mul hf hq (by rw [Int.natAbs_natCast,←hrs,nr_rv];exact hsR)
 rw [hr]
 congr 1
 refine hfr.pat_ (R:=s) ?_ (by omega)
 rw [hrs]
 have:=rn_of (Fl.up hsR).rp
 rwa [hrs]at this
theorem normalize_big (P:Nat)(w:World)(h1:4503599627370496≤P)(h2:P < 9218868437227405312) :
  Calls Tryz.prog 212 #[.float .f64 P] w fun e w'=>e=.returned (.tuple #[.float .f64 P,.int .i64 0])∧w=w':=by
 have hm:mg P=P:=by unfold mg;omega
 have hq:=fo_lt (x:=mg P) (y:=4503599627370496) (mg_lt64 P) (by omega)
 have hf:ltB (mg P) 4503599627370496=false:=by
  unfold ltB
  rw [nan_mg,key_mg,hm,show key 4503599627370496=4503599627370496 from rfl,decide_eq_false (p:=(P:Int)<4503599627370496) (by omega),Bool.and_false]
 rw [hf]at hq
 have HA:=Lib.hid (fun w=>mabs_any P w (by omega))
 clear hf hm h1 h2
 go_enter Tryz.func212,Tryz.ntmps212
 go_wp2_with (go_at_call 63;refine(HA.out _).mono ?_;rintro e w' ⟨rfl,rfl⟩)
 go_ret2
 exact⟨rfl,rfl⟩
theorem and11i (K:Nat)(h1:1023≤K)(h2:K≤1076):bits .and .i64 (K:Int) 2047=(K:Int):=by
 have h:∀k<54,bits .and .i64 ((1023+k:Nat):Int) 2047=((1023+k:Nat):Int):=by decide +kernel
 have:=h (K-1023) (by omega)
 rwa [show 1023+(K-1023)=K by omega]at this
theorem andNot_exp (P:Nat)(h:P < 9223372036854775808):bits .andNot .u64 (P:Int) 9218868437227405312=((P%4503599627370496:Nat):Int):=by
 have e:(9218868437227405312:Int)=((9218868437227405312:Nat):Int):=rfl
 rw [e,u64_andNot_nat _ _ (by omega) (by omega)]
 congr 1
 have e2:(18446744073709551615-9218868437227405312:Nat)=2^63 ||| (2^52-1):=by decide
 have h0:P &&& 2^63=0:=by
  apply Nat.eq_of_testBit_eq
  intro i
  rw [Nat.testBit_and,Nat.testBit_two_pow]
  by_cases hi:63=i
  ·subst hi
   rw [Nat.testBit_lt_two_pow (show P<2^63 by omega)]
   simp
  ·simp [hi]
 rw [e2,Nat.and_or_distrib_left,Nat.and_two_pow_sub_one_eq_mod,h0,Nat.zero_or]
theorem or_exp (M N:Nat)(hM:M < 4503599627370496)(hN:N < 4096):bits .or .u64 (M:Int) ((N:Int)*4503599627370496)=((N*4503599627370496+M:Nat):Int):=by
 have e:(N:Int)*4503599627370496=((N*4503599627370496:Nat):Int):=by omega
 rw [e,u64_or_nat _ _ (by omega) (by omega)]
 congr 1
 have:=Nat.two_pow_add_eq_or_of_lt (i:=52) (b:=M) hM N
 have h2:(2^52:Nat)=4503599627370496:=rfl
 rw [h2]at this
 rw [Nat.or_comm,Nat.mul_comm N]
 exact this.symm
theorem ldexp_big (P K:Nat)(e:Int)(w:World)(hP1:4503599627370496≤P)(hP2:P < 9218868437227405312)(hK:P / 4503599627370496=K)(hK1:1023≤K)(hK2:K≤1076)(he1:-1074≤e)(he2:e≤971)(hbig:2046 < e+K) :
  Calls Tryz.prog 198 #[.float .f64 P,.int .i64 e] w fun en w'=>en=.returned (.float .f64 infR)∧w=w':=by
 have hq0:=fo_eq (x:=P) (y:=0) (by omega) (by omega)
 rw [eq0 (by omega),decide_eq_false (by omega)]at hq0
 have hqn:=fo_lt (x:=P) (y:=0) (by omega) (by omega)
 have hf:ltB P 0=false:=by
  have hk:key P=(P:Int):=by unfold key sg mg;rw [decide_eq_false (by omega)];simp;omega
  unfold ltB
  rw [hk,show key 0=0 from rfl,decide_eq_false (p:=(P:Int)<0) (by omega),Bool.and_false]
 rw [hf]at hqn
 have HN:=Lib.hid (fun w=>normalize_big P w hP1 hP2)
 have hnan:isNaN P=false:=by unfold isNaN mg;rw [infR_val];exact decide_eq_false (by omega)
 have hinf:isInf P=false:=by unfold isInf mg;rw [infR_val];exact decide_eq_false (by omega)
 have HI:=Lib.hid (fun w=>misinf_any P w (by omega))
 have HM:=Lib.hid (fun w=>mnan_any P w (by omega))
 rw [hnan]at HM
 rw [hinf]at HI
 have hd:(P:Int)/4503599627370496=(K:Int):=by omega
 have hand:=and11i K hK1 hK2
 clear hf hnan hinf hK hP1
 go_enter Tryz.func198,Tryz.ntmps198
 go_wp2_with (first|(go_at_call 58;refine(HI.out _).mono ?_;rintro e w' ⟨rfl,rfl⟩)|(go_at_call 57;refine(HM.out _).mono ?_;rintro e w' ⟨rfl,rfl⟩)|(go_at_call 212;refine(HN.out _).mono ?_;rintro e w' ⟨rfl,rfl⟩)|(go_at_call 31;refine(inf_p _).mono ?_;rintro e w' ⟨rfl,rfl⟩))
 go_ret
 exact⟨rfl,rfl⟩
theorem ldexp_mid (P K:Nat)(e:Int)(w:World)(hP1:4503599627370496≤P)(hP2:P < 9218868437227405312)(hK:P / 4503599627370496=K)(hK1:1023≤K)(hK2:K≤1076)(he1:-1074≤e)(he2:e≤971)(hlo:1≤e+K)(hhi:e+K≤2046)(R:Nat)(hR:(R:Int)=(e+K)*4503599627370496+(P % 4503599627370496:Nat)) :
  Calls Tryz.prog 198 #[.float .f64 P,.int .i64 e] w fun en w'=>en=.returned (.float .f64 R)∧w=w':=by
 have hq0:=fo_eq (x:=P) (y:=0) (by omega) (by omega)
 rw [eq0 (by omega),decide_eq_false (by omega)]at hq0
 have hqn:=fo_lt (x:=P) (y:=0) (by omega) (by omega)
 have hf:ltB P 0=false:=by
  have hk:key P=(P:Int):=by unfold key sg mg;rw [decide_eq_false (by omega)];simp;omega
  unfold ltB
  rw [hk,show key 0=0 from rfl,decide_eq_false (p:=(P:Int)<0) (by omega),Bool.and_false]
 rw [hf]at hqn
 have HN:=Lib.hid (fun w=>normalize_big P w hP1 hP2)
 have hnan:isNaN P=false:=by unfold isNaN mg;rw [infR_val];exact decide_eq_false (by omega)
 have hinf:isInf P=false:=by unfold isInf mg;rw [infR_val];exact decide_eq_false (by omega)
 have HI:=Lib.hid (fun w=>misinf_any P w (by omega))
 have HM:=Lib.hid (fun w=>mnan_any P w (by omega))
 rw [hnan]at HM
 rw [hinf]at HI
 have hd:(P:Int)/4503599627370496=(K:Int):=by omega
 have hand:=and11i K hK1 hK2
 obtain⟨N,hN⟩:∃N:Nat,(N:Int)=e+K:=⟨(e+K).toNat,by omega⟩
 have hN1:1≤N:=by omega
 have hN2:N≤2046:=by omega
 have hx1:e+((K:Int)-1023)+1023=(N:Int):=by omega
 have hno:=andNot_exp P (by omega)
 obtain⟨M,hM⟩:∃M,M=P%4503599627370496:=⟨_,rfl⟩
 have hM52:M<4503599627370496:=by omega
 rw [←hM]at hno
 have hor:=or_exp M N hM52 (by omega)
 obtain⟨Y,hY⟩:∃Y,Y=N*4503599627370496+M:=⟨_,rfl⟩
 rw [←hY]at hor
 have hml:∀w,(binOp .mul 27 (.float .f64 4607182418800017408) (.float .f64 Y)).run Tryz.prog w=.ok (.float .f64 R) w:=fun w=>run_float_arith w .mul _ .f64 _ _ _ (by
  have hYR:Y=R:=by omega
  rw [←hYR]
  exact mul_one_ (by rw [infR_val];omega) (by omega))
 clear hf hnan hinf hK hP1 hN hM hY hR
 go_enter Tryz.func198,Tryz.ntmps198
 go_wp2_with (first|(go_at_call 58;refine(HI.out _).mono ?_;rintro e w' ⟨rfl,rfl⟩)|(go_at_call 57;refine(HM.out _).mono ?_;rintro e w' ⟨rfl,rfl⟩)|(go_at_call 212;refine(HN.out _).mono ?_;rintro e w' ⟨rfl,rfl⟩)|(go_at_call 31;refine(inf_p _).mono ?_;rintro e w' ⟨rfl,rfl⟩))
 go_ret
 exact⟨rfl,rfl⟩
theorem ldexp_low (P K:Nat)(e:Int)(w:World)(hP1:4503599627370496≤P)(hP2:P < 9218868437227405312)(hK:P / 4503599627370496=K)(hK1:1023≤K)(hK2:K≤1076)(he1:-1074≤e)(he2:e≤971)(hlo:e+K < 1)(s:Nat)(hs1:1≤s)(hs2:s < 4503599627370496)(hv:∀ Y:Nat,(Y:Int)=(e+K+53)*4503599627370496+(P % 4503599627370496:Nat)→∀ c,c=53→rv Y=s*2^c) :
  Calls Tryz.prog 198 #[.float .f64 P,.int .i64 e] w fun en w'=>en=.returned (.float .f64 s)∧w=w':=by
 have hq0:=fo_eq (x:=P) (y:=0) (by omega) (by omega)
 rw [eq0 (by omega),decide_eq_false (by omega)]at hq0
 have hqn:=fo_lt (x:=P) (y:=0) (by omega) (by omega)
 have hf:ltB P 0=false:=by
  have hk:key P=(P:Int):=by unfold key sg mg;rw [decide_eq_false (by omega)];simp;omega
  unfold ltB
  rw [hk,show key 0=0 from rfl,decide_eq_false (p:=(P:Int)<0) (by omega),Bool.and_false]
 rw [hf]at hqn
 have HN:=Lib.hid (fun w=>normalize_big P w hP1 hP2)
 have hnan:isNaN P=false:=by unfold isNaN mg;rw [infR_val];exact decide_eq_false (by omega)
 have hinf:isInf P=false:=by unfold isInf mg;rw [infR_val];exact decide_eq_false (by omega)
 have HI:=Lib.hid (fun w=>misinf_any P w (by omega))
 have HM:=Lib.hid (fun w=>mnan_any P w (by omega))
 rw [hnan]at HM
 rw [hinf]at HI
 have hd:(P:Int)/4503599627370496=(K:Int):=by omega
 have hand:=and11i K hK1 hK2
 obtain⟨N,hN⟩:∃N:Nat,(N:Int)=e+K+53:=⟨(e+K+53).toNat,by omega⟩
 have hN1:1≤N:=by omega
 have hN2:N≤2046:=by omega
 have hx1:e+((K:Int)-1023)+53+1023=(N:Int):=by omega
 have hno:=andNot_exp P (by omega)
 obtain⟨M,hM⟩:∃M,M=P%4503599627370496:=⟨_,rfl⟩
 have hM52:M<4503599627370496:=by omega
 rw [←hM]at hno
 have hor:=or_exp M N hM52 (by omega)
 obtain⟨Y,hY⟩:∃Y,Y=N*4503599627370496+M:=⟨_,rfl⟩
 rw [←hY]at hor
 have hml:∀w,(binOp .mul 27 (.float .f64 4368491638549381120) (.float .f64 Y)).run Tryz.prog w=.ok (.float .f64 s) w:=fun w=>run_float_arith w .mul _ .f64 _ _ _ (by exact mul_low (u:=0) hs1 hs2 (by rw [infR_val];omega) (hv Y (by omega)))
 clear hf hnan hinf hK hP1 hN hM hY hv
 go_enter Tryz.func198,Tryz.ntmps198
 go_wp2_with (first|(go_at_call 58;refine(HI.out _).mono ?_;rintro e w' ⟨rfl,rfl⟩)|(go_at_call 57;refine(HM.out _).mono ?_;rintro e w' ⟨rfl,rfl⟩)|(go_at_call 212;refine(HN.out _).mono ?_;rintro e w' ⟨rfl,rfl⟩)|(go_at_call 31;refine(inf_p _).mono ?_;rintro e w' ⟨rfl,rfl⟩))
 go_ret
 exact⟨rfl,rfl⟩
theorem cancel_pow {a b c:Nat}(h:a*2^c=b*2^c):a=b:=Nat.eq_of_mul_eq_mul_right (Nat.two_pow_pos c) h
theorem ldexp_zero (e:Int)(w:World) :
  Calls Tryz.prog 198 #[.float .f64 0,.int .i64 e] w fun en w'=>en=.returned (.float .f64 0)∧w=w':=by
 have hq0:=fo_eq (x:=0) (y:=0) (by omega) (by omega)
 rw [eq0 (by omega),decide_eq_true (by omega)]at hq0
 go_enter Tryz.func198,Tryz.ntmps198
 go_wp2
 go_ret
 exact⟨rfl,rfl⟩
theorem ldexp_any (s u:Nat)(e:Int)(w:World)(he:e=(u:Int) - 1074)(hu:u≤2045)(hs:s≤9007199254740992)(hus:u≠0→4503599627370496≤s) :
  Calls Tryz.prog 198 #[.float .f64 (FloatKind.f64.nearest (s:Int)),.int .i64 e] w fun en w'=>en=.returned (.float .f64 (u*4503599627370496+s))∧w=w':=by
 by_cases h0:s=0
 ·have hu0:u=0:=by
   rcases Nat.eq_zero_or_pos u with h|h
   ·exact h
   ·have:=hus (by omega);omega
  subst h0 hu0
  have hn:FloatKind.f64.nearest ((0:Nat):Int)=0:=by
   have e:FloatKind.f64.nearest ((0:Nat):Int)=Ieee.double.nearest false 0 0:=rfl
   rw [e,nearest_eq,word_eq,zd_zero,rr_zero];rfl
  rw [hn]
  exact ldexp_zero e w
 ·obtain⟨u0,s',a1,a2,a3,a4,a5⟩:=ld_norm (show 1≤s by omega) hs
  rw [nearest_of a2 a3 a4 a5]
  obtain⟨c,hc⟩:∃c,c=1074:=⟨_,rfl⟩
  have h5:=a5 c hc
  have hR:=rv_form u s hs hus
  have hK:(u0*4503599627370496+s')/4503599627370496=u0+1:=by omega
  have hM:(u0*4503599627370496+s')%4503599627370496=s'-4503599627370496:=by omega
  by_cases hbig:3119<u+u0
  ·have h:=ldexp_big (u0*4503599627370496+s') (u0+1) e w (by omega) (by omega) hK (by omega) (by omega) (by omega) (by omega) (by push_cast;omega)
   have hinf:u*4503599627370496+s=infR:=by
    have h6:infR≤u*4503599627370496+s:=by
     rw [←rv_le_iff,hR]
     obtain⟨q,hq⟩:∃q,q=2046:=⟨_,rfl⟩
     have hri:=rv_form q 4503599627370496 (by omega) (fun _=>by omega)
     rw [show q*4503599627370496+4503599627370496=infR by rw [infR_val];omega]at hri
     rw [hri]
     refine Nat.le_of_mul_le_mul_right (c:=2^c) ?_ (Nat.two_pow_pos c)
     have e2:s*2^u*2^c=s'*2^(u0+u):=by
      rw [Nat.pow_add,←Nat.mul_assoc,h5,Nat.mul_right_comm]
     rw [e2,Nat.mul_assoc,←Nat.pow_add]
     exact Nat.mul_le_mul a3 (Nat.pow_le_pow_right (by omega) (by omega))
    rw [infR_val]at h6 ⊢
    omega
   rw [hinf]
   exact h
  ·by_cases hmid:1074≤u+u0
   ·refine ldexp_mid (u0*4503599627370496+s') (u0+1) e w (by omega) (by omega) hK (by omega) (by omega) (by omega) (by omega) (by push_cast;omega) (by push_cast;omega) _ ?_
    have hY:=rv_form (u+u0-1074) s' (by omega) (fun _=>a3)
    have e2:rv (u*4503599627370496+s)=rv ((u+u0-1074)*4503599627370496+s'):=by
     rw [hR,hY]
     refine cancel_pow (c:=c) ?_
     rw [Nat.mul_assoc s',←Nat.pow_add,show u+u0-1074+c=u0+u by omega,Nat.pow_add,←Nat.mul_assoc,h5,Nat.mul_right_comm]
    have e3:=rv_inj e2
    rw [hM]
    clear e2 hY hR h5 a5
    omega
   ·have hu0:u=0:=by
     rcases Nat.eq_zero_or_pos u with h|h
     ·exact h
     ·exfalso
      have h7:=hus (by omega)
      have h8:s'*2^u0<9007199254740992*2^u0:=Nat.mul_lt_mul_of_pos_right a4 (Nat.two_pow_pos _)
      have h9:4503599627370496*2^c≤s*2^c:=Nat.mul_le_mul_right _ h7
      have h10:2^(u0+1)≤2^c:=Nat.pow_le_pow_right (by omega) (by omega)
      rw [Nat.pow_succ]at h10
      omega
    subst hu0
    have hs52:s<4503599627370496:=by
     rcases Nat.lt_or_ge s 4503599627370496 with h|h
     ·exact h
     ·exfalso
      have h8:s'*2^u0<9007199254740992*2^u0:=Nat.mul_lt_mul_of_pos_right a4 (Nat.two_pow_pos _)
      have h9:4503599627370496*2^c≤s*2^c:=Nat.mul_le_mul_right _ h
      have h10:2^(u0+1)≤2^c:=Nat.pow_le_pow_right (by omega) (by omega)
      rw [Nat.pow_succ]at h10
      omega
    rw [Nat.zero_mul,Nat.zero_add]
    refine ldexp_low (u0*4503599627370496+s') (u0+1) e w (by omega) (by omega) hK (by omega) (by omega) (by omega) (by omega) (by push_cast;omega) s (by omega) hs52 (fun Y hY d hd=>?_)
    have e4:Y=(u0-1021)*4503599627370496+s':=by
     rw [hM]at hY
     clear hR h5 a5
     omega
    rw [e4,rv_form (u0-1021) s' (by omega) (fun _=>a3)]
    obtain⟨q,hq⟩:∃q,q=1021:=⟨_,rfl⟩
    refine cancel_pow (c:=q) ?_
    rw [Nat.mul_assoc,←Nat.pow_add,show u0-1021+q=u0 by omega,h5,Nat.mul_assoc,←Nat.pow_add,show d+q=c by omega]
theorem mldexp_any (s u:Nat)(e:Int)(w:World)(he:e=(u:Int) - 1074)(hu:u≤2045)(hs:s≤9007199254740992)(hus:u≠0→4503599627370496≤s) :
  Calls Tryz.prog 164 #[.float .f64 (FloatKind.f64.nearest (s:Int)),.int .i64 e] w fun en w'=>en=.returned (.float .f64 (u*4503599627370496+s))∧w=w':=by
 have HL:=Lib.hid (fun w=>ldexp_any s u e w he hu hs hus)
 generalize FloatKind.f64.nearest (s:Int)=P at *
 generalize u*4503599627370496+s=R at *
 clear he hu hs hus
 go_enter Tryz.func164,Tryz.ntmps164
 go_wp2_with (go_at_call 198;refine(HL.out _).mono ?_;rintro e w' ⟨rfl,rfl⟩)
 go_ret
 exact⟨rfl,rfl⟩
end Go.Proofs.YtngdldcgkaplbaaGreat
namespace Go.Proofs.YtngdldcgkaplbaaGreat
open Go.RowKit Nm
def lostB (V s:Nat):Bool:=decide (V%2^s≠0)
def RetWB (V:Nat)(b:Bool)(w:World)(e:Ending)(w':World):Prop:=∃A n c,e=.returned (.tuple #[.slice A n c,.bool b])∧Wds w' A n c (nd V)∧Ext w w'
end Go.Proofs.YtngdldcgkaplbaaGreat