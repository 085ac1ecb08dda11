import Derived.Test.YtngdldcgkaplbaaGreatK08
import Derived.ScopeJumps
set_option linter.unusedVariables false
set_option linter.unusedSimpArgs false
set_option maxHeartbeats 40000000
set_option maxRecDepth 100000
namespace Go.Proofs.YtngdldcgkaplbaaGreat
open Go.RowKit Nm
structure LessRel (L0 ys L:List Nat)(m i br:Nat):Prop where
 len:L.length=m
 ws:Ws L
 val:nv (L.take i)+nv (ys.take i)=nv (L0.take i)+4294967296^i*br
 same:∀k,(hk:k<L.length)→i≤k→L[k]=L0.getD k 0
theorem LessRel.step {L0 ys L:List Nat}{m i br x y lo hi:Nat}(h:LessRel L0 ys L m i br)(hm:L0.length=m)(hi0:i < m)(hx:x=L0.getD i 0)(hy:y=ys.getD i 0)(hx32:x < 4294967296)(hy32:y < 4294967296)(hbr:br≤1)
  (hlo:lo=(x+4294967296-(y+br))%4294967296) (hhi:hi=if x<y+br then 1 else 0):LessRel L0 ys (L.set i lo) m (i+1) hi:=by
 have hlen:=h.len
 have hlo32:lo<4294967296:=by omega
 refine⟨by simpa using hlen,h.ws.set _ hlo32,?_,fun k hk hle=>?_⟩
 ·rw [take_set_succ (by omega)]
  exact diff_step (l:=L0) (m:=ys) (acc:=L.take i) (k:=i) (br:=br) (by rw [List.length_take];omega) hx hy h.val (by rw [hhi];split<;>omega)
 ·rw [List.getElem_set_ne (by omega)]
  simp at hk
  exact h.same k hk (by omega)
theorem LessRel.done {L0 ys L:List Nat}{m i:Nat}(h:LessRel L0 ys L m i 0)(hm:L0.length=m)(hi:i≤m)(hy:ys.length≤i):nv L=nv L0-nv ys:=by
 have hlen:=h.len
 have hd:L.drop i=L0.drop i:=by
  apply List.ext_getElem
  ·simp [hlen,hm]
  ·intro k h1 h2
   rw [List.getElem_drop,List.getElem_drop]
   simp at h1 h2
   rw [h.same _ (by omega) (by omega),←getD_of (by omega)]
 have e1:=nv_take_drop L i (by omega)
 have e2:=nv_take_drop L0 i (by omega)
 have hv:=h.val
 rw [List.take_of_length_le hy]at hv
 rw [e1,e2,hd]
 omega
theorem LessRel.end_ {L0 ys L:List Nat}{m br:Nat}(h:LessRel L0 ys L m m br)(hL0:Ws L0)(hm:L0.length=m)(hy:ys.length≤m)(hbr:br≤1)(hle:nv ys≤nv L0):nv L=nv L0-nv ys:=by
 have hv:=h.val
 have hlen:=h.len
 rw [List.take_of_length_le hy,List.take_of_length_le (by omega),List.take_of_length_le (by omega)]at hv
 have hb:=nv_lt h.ws
 rw [hlen]at hb
 have:br=0∨br=1:=by omega
 rcases this with e|e
 ·subst e;omega
 ·subst e
  rw [Nat.mul_one]at hv
  omega
theorem nless_any (g m c:Nat)(L0:List Nat)(B:Option Addr)(n d:Nat)(ys:List Nat)(wv w:World)(hrow:Row w g L0)(hL0:Ws L0)(hlen:L0.length=m)(hm:m≤17592186044416)(k:Wds wv B n d ys)(hE:Ext wv w)(hg:wv.heap.size≤g)(hnm:n≤m)
  (hle:nv ys≤nv L0):
  Calls Tryz.prog 200 #[.slice (some ⟨g,0,none⟩) m c,.slice B n d] w fun e w'=>e=.returned (.tuple #[])∧(∃L,Row w' g L∧Ws L∧L.length=m∧nv L=nv L0-nv ys)∧Ext wv w':=by
 have hly:=k.len
 have HLE:=Lib.hid hle
 have Hly:=Lib.hid hly
 have Hlen:=Lib.hid hlen
 clear hle hly hlen
 go_enter Tryz.func200,Tryz.ntmps200
 go_wp2
 go_loopw [4,9] (fun bv iv wr=>∃(i br:Nat) (L:List Nat),i≤m∧iv=.int .i64 i∧bv=.int .u32 (br:Int)∧br≤1∧Row wr g L∧Hid (LessRel L0 ys L m i br)∧Ext wv wr) (fun _ iv _=>m-(intOf iv).toNat)
 case atStart=>exact⟨0,0,L0,Nat.zero_le _,rfl,rfl,by omega,hrow,Lib.hid ⟨Hlen.out,hL0,by simp [nv],fun k hk _=>getD_of hk⟩,hE⟩
 case round=>
  obtain⟨i,br,L,hi,rfl,rfl,hbr,hr,hrl,hEr⟩:=hrel
  by_cases hlt:i<m
  ·by_cases hstop:n≤i∧br=0
   ·obtain⟨hni,rfl⟩:=hstop
    have hval:=Lib.hid (hrl.out.done Hlen.out hi (by have:=Hly.out;omega))
    go_wp2
    exact bodyPost_ret (results_none rfl _ _ _) rfl ⟨rfl,⟨L,hr,hrl.out.ws,hrl.out.len,hval.out⟩,hEr⟩
   ·have hiL:i<L.length:=by have:=hrl.out.len;omega
    have hc1:=hr.cell hiL
    have hf1:=hr.frozen i
    have ha32:=hrl.out.ws.get hiL
    have haE:=hrl.out.same i hiL (Nat.le_refl _)
    obtain⟨a,ha⟩:∃a,a=L[i]:=⟨_,rfl⟩
    rw [←ha]at hc1 ha32 haE
    have hYc:(i<n∧∃bd,∃Y:Nat,B=some bd∧Y<4294967296∧Hid (Y=ys.getD i 0)∧wr.cell? (bd.add i)=some (.int .u32 (Y:Int)))∨(n≤i∧((br:Int)==0)=false∧∃Y:Nat,Y=0∧Hid (Y=ys.getD i 0)):=by
     by_cases hl:i<n
     ·obtain⟨bd,hy,e,_,hc⟩:=(k.ext hEr).at_ hl
      exact .inl ⟨hl,bd,ys[i],e,k.ws.get hy,Lib.hid (getD_of hy),hc⟩
     ·exact .inr ⟨by omega,by rw [beq_eq_false_iff_ne];intro h;exact hstop ⟨by omega,by omega⟩,0,rfl,Lib.hid (getD_out (by have:=Hly.out;omega))⟩
    have HaE:=Lib.hid haE
    clear hstop ha haE
    rcases hYc with ⟨hjn,bd,Y,rfl,hY32,hYe,hcY⟩|⟨hjn,hb0,Y,rfl,hYe⟩
    ·obtain⟨lo,hlo⟩:∃lo,lo=(a+4294967296-(Y+br))%4294967296:=⟨_,rfl⟩
     obtain⟨hi',hhi⟩:∃hi',hi'=if a<Y+br then 1 else 0:=⟨_,rfl⟩
     have hsb:=fun w=>sub32_any a Y br lo hi' w ha32 hY32 hbr hlo hhi
     have hst:=hrl.out.step Hlen.out hlt HaE.out hYe.out ha32 hY32 hbr hlo hhi
     have HS:=Lib.hid hsb
     have HST:=Lib.hid hst
     have hhi1:hi'≤1:=by rw [hhi];split<;>omega
     have hr':=hr.set_ i lo
     clear hsb hst hlo hhi
     go_wp2_with (go_at_call 199;refine(HS.out _).mono ?_;rintro e w' ⟨rfl,rfl⟩)
     go_roundw
     case rel=>exact⟨i+1,hi',_,by omega,by go_num,rfl,hhi1,hr',HST,hEr.setCell hg _⟩
     case measure=>simp [intOf];omega
    ·obtain⟨lo,hlo⟩:∃lo,lo=(a+4294967296-(0+br))%4294967296:=⟨_,rfl⟩
     obtain⟨hi',hhi⟩:∃hi',hi'=if a<0+br then 1 else 0:=⟨_,rfl⟩
     have hsb:=fun w=>sub32_any a 0 br lo hi' w ha32 (by omega) hbr hlo hhi
     have hst:=hrl.out.step Hlen.out hlt HaE.out hYe.out ha32 (by omega) hbr hlo hhi
     have HS:=Lib.hid hsb
     have HST:=Lib.hid hst
     have hhi1:hi'≤1:=by rw [hhi];split<;>omega
     have hr':=hr.set_ i lo
     clear hsb hst hlo hhi
     go_wp2_with (go_at_call 199;refine(HS.out _).mono ?_;rintro e w' ⟨rfl,rfl⟩)
     go_roundw
     case rel=>exact⟨i+1,hi',_,by omega,by go_num,rfl,hhi1,hr',HST,hEr.setCell hg _⟩
     case measure=>simp [intOf];omega
  ·have hie:i=m:=by omega
   subst hie
   have hval:=Lib.hid (hrl.out.end_ hL0 Hlen.out (by have:=Hly.out;omega) hbr HLE.out)
   go_wp2
   go_end0
   exact⟨rfl,⟨L,hr,hrl.out.ws,hrl.out.len,hval.out⟩,hEr⟩
theorem nsub_any (A:Option Addr)(n c:Nat)(xs:List Nat)(B:Option Addr)(m d:Nat)(ys:List Nat)(w:World)(h:Wds w A n c xs)(hn:n≤8796093022208)(k:Wds w B m d ys)(hm:m≤8796093022208)(h1:nw (nv xs)≤16384)(h2:nw (nv ys)≤16384)(hle:nv ys≤nv xs) :
  Calls Tryz.prog 170 #[.slice A n c,.slice B m d] w (RetWE (nv xs-nv ys) 0 w):=by
 have hcm:=ncmp_any A n c xs B m d ys w h (by omega) k (by omega)
 have hcc:0≤cmpN (nv xs) (nv ys):=by unfold cmpN;rw [if_neg (by omega)];split<;>omega
 have hLG:Hid (∀g w,w.cell? ⟨g,0,none⟩=some (.slice A n c)→w.cell? ⟨g,1,none⟩=some (.slice B m d)→Wds w A n c xs→Wds w B m d ys→Calls Tryz.prog 123 #[.slice (some ⟨g,0,none⟩) 2 2] w fun e w'=>e=.returned (.bool false)∧w=w'):=
  Lib.hid (fun g w a b c' d'=>nlong_two g 2 A n c xs B m d ys w a b c' (by omega) h1 d' (by omega) h2)
 have hN1:=fun w h=>nnorm_any A n c xs w h (by omega)
 have hW2:=fun w h=>nwords_any B m d ys w h (by omega)
 have hp2:=k.pre
 have hle2:nw (nv ys)≤m:=by have:=nw_nv_le k.ws;have:=k.len;omega
 have hlc2:=k.lec
 obtain⟨V,hV⟩:∃V,V=nv xs:=⟨_,rfl⟩
 obtain⟨U,hU⟩:∃U,U=nv ys:=⟨_,rfl⟩
 rw [←hV]at hN1 h1 hle hcm hcc ⊢
 rw [←hU]at hW2 hp2 hle2 h2 hle hcm hcc ⊢
 have hvU:=nv_nd U
 have hvV:=nv_nd V
 obtain⟨q,hq⟩:∃q,q=nw U:=⟨_,rfl⟩
 obtain⟨p,hp⟩:∃p,p=nw V:=⟨_,rfl⟩
 have hqp:q≤p:=by rw [hq,hp];exact nw_mono hle
 have hpl:(nd V).length=p:=by rw [nd_length,hp]
 rw [←hq]at hW2 hp2 hle2 h2
 rw [←hp]at hN1 h1
 obtain⟨us,hus⟩:∃us,us=nd U:=⟨_,rfl⟩
 rw [←hus]at hp2 hvU
 obtain⟨vs,hvs⟩:∃vs,vs=nd V:=⟨_,rfl⟩
 have hvw:Ws vs:=by rw [hvs];exact Ws.nd V
 rw [←hvs]at hN1 hvV hpl
 obtain⟨cc,hcce⟩:∃cc,cc=cmpN V U:=⟨_,rfl⟩
 rw [←hcce]at hcm hcc
 have hfitb:nw (V-U)≤16384:=Nat.le_trans (nw_mono (Nat.sub_le V U)) (by rw [←hp];exact h1)
 have HCM:=Lib.hid hcm
 have HN1:=Lib.hid hN1
 have HW2:=Lib.hid hW2
 have HVU:=Lib.hid hvU
 have HVV:=Lib.hid hvV
 have HPL:=Lib.hid hpl
 have hqd:q≤d:=by omega
 have HLE:=Lib.hid hle
 clear hcm hN1 hW2 hV hU hq hp hus hvs hvU hvV hcce hpl hle
 go_enter Tryz.func170,Tryz.ntmps170
 go_wp2_with fail
 refine HCM.out.mono ?_
 rintro e w1 ⟨rfl,z,rfl⟩
 have hn0:=h.drewN z
 have hk0:=k.drewN z
 have hp0:=hp2.drewN z
 have hE00:Ext w (w.drewN z):=(Ext.refl w).drewN z
 generalize w.drewN z=wz at *
 have hn1:=hn0.alloc (.cells #[.slice A n c,.slice B m d] 65)
 have hk1:=hk0.alloc (.cells #[.slice A n c,.slice B m d] 65)
 have hp2':=hp0.alloc (.cells #[.slice A n c,.slice B m d] 65)
 have hE0:Ext w (wz.alloc (.cells #[.slice A n c,.slice B m d] 65)):=hE00.alloc _
 have hcell0:(wz.alloc (.cells #[.slice A n c,.slice B m d] 65)).cell? ⟨wz.heap.size,0,none⟩=some (.slice A n c):=by simp
 have hcell1:(wz.alloc (.cells #[.slice A n c,.slice B m d] 65)).cell? ⟨wz.heap.size,1,none⟩=some (.slice B m d):=by simp
 clear hn0 hk0 hp0 hE00 h k hp2 HCM
 go_wp2_with fail
 generalize wz.heap.size=g0 at hcell0 hcell1 ⊢
 generalize wz.alloc _=w1 at hn1 hk1 hp2' hE0 hcell0 hcell1 ⊢
 refine(hLG.out _ _ hcell0 hcell1 hn1 hk1).mono ?_
 rintro e w' ⟨rfl,rfl⟩
 clear hcell0 hcell1
 go_wp2_with fail
 refine(HN1.out _ hn1).mono ?_
 rintro e w2 ⟨g,p',rfl,hr2,hg2,hp',hE2⟩
 have hk2:=hk1.ext hE2
 have hq2:=hp2'.ext hE2
 have HPP:=Lib.hid hp'
 clear hp'
 go_wp2_with fail
 refine(HW2.out _ hk2).mono ?_
 rintro e w' ⟨rfl,rfl⟩
 go_wp2_with fail
 refine(nless_any g p' p' vs B q d us w1 w2 hr2 hvw (by rw [HPL.out,HPP.out]) (by have:=HPP.out;omega) hp2' hE2 hg2 (by have:=HPP.out;omega) (by rw [HVU.out,HVV.out];exact HLE.out)).mono ?_
 rintro e w3 ⟨rfl,⟨L,hr3,hL,hLl,hLv⟩,hE3⟩
 rw [HVU.out,HVV.out]at hLv
 have HLV:=Lib.hid hLv
 have hWL:=hr3.wds hL hLl (Nat.le_refl _) (by have:=HPP.out;unfold maxLen;omega)
 clear hLv
 go_wp2_with fail
 refine(nfit_any _ _ _ _ _ hWL (by have:=HPP.out;omega) (by rw [HLV.out];exact hfitb)).mono ?_
 rintro e w4 ⟨A4,n4,c4,rfl,hR,hE4⟩
 rw [HLV.out]at hR
 go_wp2
 go_ret2
 exact⟨A4,n4,c4,rfl,hR,hE0.trans (hE3.trans hE4)⟩
end Go.Proofs.YtngdldcgkaplbaaGreat
namespace Go.Proofs.YtngdldcgkaplbaaGreat
open Go.RowKit Nm Rn
def nanOf (w:World)(x y:Nat):Nat:=(Question.nanBits .f64 x y).cut (w.tape w.drawn (.nanBits .f64 x y))
theorem nanOf_lt (w:World)(x y:Nat):nanOf w x y<18446744073709551616:=by
 show(w.tape w.drawn (.nanBits .f64 x y)%2)*2^63+0x7ff0000000000000+1+(w.tape w.drawn (.nanBits .f64 x y)/2)%(2^52-1)<_
 omega
theorem nanOf_nan (w:World)(x y:Nat):isNaN (nanOf w x y)=true:=by
 rw [isNaN_iff,infR_val]
 show _<((w.tape w.drawn (.nanBits .f64 x y)%2)*2^63+0x7ff0000000000000+1+(w.tape w.drawn (.nanBits .f64 x y)/2)%(2^52-1))%9223372036854775808
 generalize w.tape w.drawn (.nanBits .f64 x y)=t
 have h1:t%2=0∨t%2=1:=by omega
 have h2:t/2%(2^52-1)<4503599627370495:=Nat.mod_lt _ (by omega)
 generalize t/2%(2^52-1)=u at h2 ⊢
 rcases h1 with h1|h1<;>rw [h1]<;>omega
theorem run_nan {op:BinOp}{x y:Nat}(h:floatBits op .f64 x y=none)(ho:op=.add∨op=.sub∨op=.mul∨op=.quo)(w:World):(binOp op 27 (.float .f64 x) (.float .f64 y)).run Tryz.prog w=.ok (.float .f64 (nanOf w x y)) w.drew:=by
 rcases ho with rfl|rfl|rfl|rfl
 all_goals
  unfold floatBits at h
  simp only at h
  simp [binOp,Op.floatArith,h,Question.forced,nanOf]
section
variable {P:Program} {a:Act} {w:World} {Q:Exit→Act→World→Prop}
end
theorem tinfp_any (b:Nat)(w:World)(h:b < 18446744073709551616) :
  Calls Tryz.prog 58 #[.float .f64 b,.int .i64 1] w fun e w'=>e=.returned (.bool (isInf b&&!sg b))∧w=w':=by
 have hq:=fo_gt h (show 9218868437227405311<18446744073709551616 by omega)
 have e:ltB 9218868437227405311 b=(isInf b&&!sg b):=by
  have hi:=infR_val
  have k1:key 9218868437227405311=9218868437227405311:=by decide
  have n1:isNaN 9218868437227405311=false:=by decide
  unfold ltB
  rw [k1,n1]
  unfold isNaN isInf key
  rw [Bool.eq_iff_iff]
  cases sg b
  all_goals (simp;try omega)
 rw [e]at hq
 clear e h
 go_enter Tryz.func58,Tryz.ntmps58
 go_wp2
 go_ret
 exact⟨rfl,rfl⟩
theorem tinfm_any (b:Nat)(w:World)(h:b < 18446744073709551616) :
  Calls Tryz.prog 58 #[.float .f64 b,.int .i64 (-1)] w fun e w'=>e=.returned (.bool (isInf b&&sg b))∧w=w':=by
 have hq:=fo_gt (ng_lt h) (show 9218868437227405311<18446744073709551616 by omega)
 have hn:=fun w=>run_ng h w
 have e:ltB 9218868437227405311 (ng b)=(isInf b&&sg b):=by
  have hi:=infR_val
  have k1:key 9218868437227405311=9218868437227405311:=by decide
  have n1:isNaN 9218868437227405311=false:=by decide
  unfold ltB
  rw [k1,n1]
  unfold isNaN isInf key
  rw [mg_ng h,sg_ng h,Bool.eq_iff_iff]
  cases sg b
  all_goals (simp;try omega)
 rw [e]at hq
 clear e h
 go_enter Tryz.func58,Tryz.ntmps58
 go_wp2
 go_ret
 exact⟨rfl,rfl⟩
section
variable {w0 w:World} {L:List Bx} {W:List Sw} {TY TO:TypeId} {g:Nat}
theorem run_some {x y r:Nat}(h:Ieee.double.mul x y=some r)(w:World):(binOp .mul 27 (.float .f64 x) (.float .f64 y)).run Tryz.prog w=.ok (.float .f64 r) w:=by
 have h1:FloatKind.f64.format.mul x y=some r:=h
 simp [binOp,Op.floatArith,floatBits,h1,Question.forced]
theorem tcount1 {ws:List Nat}{p m b:Bool}{t:Nat}(hl:ws.length=68)(ht:t≤4611686018427387904)(hO:Own w0 (⟨g,TY,sc ws p m b t⟩::L) W w) :
  Calls Tryz.prog 56 #[.pointer (some ⟨g,0,none⟩),.int .u64 1] w fun e w'=>e=.returned (.tuple #[])∧Own w0 (⟨g,TY,sc ws p m (cntN b t 1) (cnt t 1)⟩::L) W w':=tcount_any 1 hl ht (by omega) hO
theorem tadd_any (S:Sm)(x:Nat)(ht:S.t≤4611686018427387904)(hx:x < 18446744073709551616)(hO:Own w0 (⟨g,TY,S.cs⟩::L) W w) :
  Calls Tryz.prog 14 #[.pointer (some ⟨g,0,none⟩),.float .f64 x] w fun e w'=>e=.returned (.tuple #[])∧Own w0 (⟨g,TY,(S.add x).cs⟩::L) W w':=by
 have HC:=Lib.hid (fun w h=>tcount1 (w0:=w0) (w:=w) (L:=L) (W:=W) (TY:=TY) (g:=g) (p:=S.p) (m:=S.m) (b:=S.n) (t:=S.t) (sw_len S.T) ht h)
 have HN:=Lib.hid (fun w=>mnan_any x w hx)
 have HP:=Lib.hid (fun w=>tinfp_any x w hx)
 have HM:=Lib.hid (fun w=>tinfm_any x w hx)
 have HS:=Lib.hid (fun w=>tsplit_any x w hx)
 have HL:=Lib.hid (sw_len S.T)
 unfold Sm.cs at hO ⊢
 unfold Sm.add
 obtain⟨b',hb'⟩:∃b',b'=cntN S.n S.t 1:=⟨_,rfl⟩
 obtain⟨t',ht'⟩:∃t',t'=cnt S.t 1:=⟨_,rfl⟩
 unfold Sm.more
 rw [←hb',←ht']at HC
 rw [←hb',←ht']
 clear hb' ht' ht
 generalize S.p=p at *
 generalize S.m=m at *
 generalize S.n=b at *
 generalize S.t=t at *
 generalize S.T=T at *
 obtain⟨i,k,hik,hk,hi⟩:=at_one x
 have hLY:=fun w h=>tlay_any (w0:=w0) (w:=w) (L:=L) (W:=W) (TY:=TY) (g:=g) (p:=p) (m:=m) (b:=b') (t:=t') (sg x) 0 (fbSig x) i k T (by omega) (by have:=fbSig_lt x;omega) hi hk h
 rw [←hik,lay_one hik,show((0:Nat):Int)=0 from rfl]at hLY
 have HLY:=Lib.hid hLY
 have hw:IntKind.i64.wrap (fbExp x+2148)=fbExp x+2148:=by rw [hik,IntKind.wrap_i64];omega
 have hw2:fbExp x - -2148=fbExp x+2148:=by omega
 clear hLY hik hk hi hx
 cases hn:isNaN x
 ·cases hi:isInf x
  ·rw [hn]at HN
   rw [hi]at HP HM
   simp only [Bool.false_and]at HP HM
   simp only [Bool.false_eq_true,if_false,Sm.lay]
   clear hn hi
   go_enter Tryz.func14,Tryz.ntmps14
   go_wp2_with (first|(go_at_call 56;(with_reducible refine(HC.out _ hO).mono ?_);rintro e w1 ⟨rfl,hO1⟩;clear hO;have hO:=hO1;clear hO1)|(go_at_call 57;(with_reducible refine(HN.out _).mono ?_);rintro e w2 ⟨rfl,rfl⟩)|(go_at_call 58;(with_reducible refine(HP.out _).mono ?_);rintro e w2 ⟨rfl,rfl⟩)|(go_at_call 58;(with_reducible refine(HM.out _).mono ?_);rintro e w2 ⟨rfl,rfl⟩)|(go_at_call 59;(with_reducible refine(HS.out _).mono ?_);rintro e w2 ⟨rfl,rfl⟩)|(go_at_call 60;(with_reducible refine(HLY.out _ hO).mono ?_);rintro e w1 ⟨rfl,hO1⟩;clear hO;have hO:=hO1;clear hO1))
   go_end0
   exact⟨rfl,hO⟩
  ·cases hs:sg x
   ·rw [hn]at HN
    rw [hi,hs]at HP HM
    simp only [Bool.true_and,Bool.not_true,Bool.not_false]at HP HM
    simp only [Bool.false_eq_true,if_false,if_true]
    clear hn hi hs HLY HS hw hw2
    go_enter Tryz.func14,Tryz.ntmps14
    go_wp2_with (first|(go_at_call 56;(with_reducible refine(HC.out _ hO).mono ?_);rintro e w1 ⟨rfl,hO1⟩;clear hO;have hO:=hO1;clear hO1)|(go_at_call 57;(with_reducible refine(HN.out _).mono ?_);rintro e w2 ⟨rfl,rfl⟩)|(go_at_call 58;(with_reducible refine(HP.out _).mono ?_);rintro e w2 ⟨rfl,rfl⟩)|(go_at_call 58;(with_reducible refine(HM.out _).mono ?_);rintro e w2 ⟨rfl,rfl⟩)|(((with_reducible refine at_store (T:=4) ?_);refine own_store (vs:=[.bool true]) (T:=4) hO 0 rfl rfl rfl size_bool rfl rfl (by rw [sc_len HL.out];rfl) ?_;clear hO;intro w3 hO;simp only [List.set_cons_zero,List.set_cons_succ,spl,sc_setp HL.out]at hO;skip)))
    go_end0
    exact⟨rfl,hO⟩
   ·rw [hn]at HN
    rw [hi,hs]at HP HM
    simp only [Bool.true_and,Bool.not_true,Bool.not_false]at HP HM
    simp only [Bool.false_eq_true,if_false,if_true]
    clear hn hi hs HLY HS hw hw2
    go_enter Tryz.func14,Tryz.ntmps14
    go_wp2_with (first|(go_at_call 56;(with_reducible refine(HC.out _ hO).mono ?_);rintro e w1 ⟨rfl,hO1⟩;clear hO;have hO:=hO1;clear hO1)|(go_at_call 57;(with_reducible refine(HN.out _).mono ?_);rintro e w2 ⟨rfl,rfl⟩)|(go_at_call 58;(with_reducible refine(HP.out _).mono ?_);rintro e w2 ⟨rfl,rfl⟩)|(go_at_call 58;(with_reducible refine(HM.out _).mono ?_);rintro e w2 ⟨rfl,rfl⟩)|(((with_reducible refine at_store (T:=4) ?_);refine own_store (vs:=[.bool true]) (T:=4) hO 0 rfl rfl rfl size_bool rfl rfl (by rw [sc_len HL.out];rfl) ?_;clear hO;intro w3 hO;simp only [List.set_cons_zero,List.set_cons_succ,spl,sc_setm HL.out]at hO;skip)))
    go_end0
    exact⟨rfl,hO⟩
 ·rw [hn]at HN
  simp only [if_true]
  clear hn HLY HS HP HM hw hw2
  go_enter Tryz.func14,Tryz.ntmps14
  go_wp2_with (first|(go_at_call 56;(with_reducible refine(HC.out _ hO).mono ?_);rintro e w1 ⟨rfl,hO1⟩;clear hO;have hO:=hO1;clear hO1)|(go_at_call 57;(with_reducible refine(HN.out _).mono ?_);rintro e w2 ⟨rfl,rfl⟩)|(((with_reducible refine at_store (T:=4) ?_);refine own_store (vs:=[.bool true]) (T:=4) hO 0 rfl rfl rfl size_bool rfl rfl (by rw [sc_len HL.out];rfl) ?_;clear hO;intro w3 hO;simp only [List.set_cons_zero,List.set_cons_succ,spl,sc_setn HL.out]at hO;skip)))
  go_end0
  exact⟨rfl,hO⟩
theorem tmul_any (S:Sm)(x y:Nat)(ht:S.t≤4611686018427387904)(hx:x < 18446744073709551616)(hy:y < 18446744073709551616)(hO:Own w0 (⟨g,TY,S.cs⟩::L) W w) :
  Calls Tryz.prog 15 #[.pointer (some ⟨g,0,none⟩),.float .f64 x,.float .f64 y] w fun e w'=>e=.returned (.tuple #[])∧Own w0 (⟨g,TY,(S.mul x y).cs⟩::L) W w':=by
 have HNX:=Lib.hid (fun w=>mnan_any x w hx)
 have HNY:=Lib.hid (fun w=>mnan_any y w hy)
 have HIX:=Lib.hid (fun w=>misinf_any x w hx)
 have HIY:=Lib.hid (fun w=>misinf_any y w hy)
 unfold Sm.mul
 cases hod:(oddP x||oddP y)
 ·rw [if_neg (by simp)]
  have h4:isNaN x=false∧isInf x=false∧isNaN y=false∧isInf y=false:=by
   unfold oddP at hod
   revert hod
   cases isNaN x<;>cases isInf x<;>cases isNaN y<;>cases isInf y<;>simp
  obtain⟨nx,ix,ny,iy⟩:=h4
  rw [nx]at HNX
  rw [ny]at HNY
  rw [ix]at HIX
  rw [iy]at HIY
  have HC:=Lib.hid (fun w h=>tcount1 (w0:=w0) (w:=w) (L:=L) (W:=W) (TY:=TY) (g:=g) (p:=S.p) (m:=S.m) (b:=S.n) (t:=S.t) (sw_len S.T) ht h)
  have HSX:=Lib.hid (fun w=>tsplit_any x w hx)
  have HSY:=Lib.hid (fun w=>tsplit_any y w hy)
  have b1:=fbSig_lt x
  have b2:=fbSig_lt y
  have HML:=Lib.hid (fun w=>tmul64_any (fbSig x) (fbSig y) w (by omega) (by omega))
  unfold Sm.cs at hO ⊢
  unfold Sm.more Sm.lay
  obtain⟨b',hb'⟩:∃b',b'=cntN S.n S.t 1:=⟨_,rfl⟩
  obtain⟨t',ht'⟩:∃t',t'=cnt S.t 1:=⟨_,rfl⟩
  rw [←hb',←ht']at HC
  rw [←hb',←ht']
  clear hb' ht' ht
  generalize S.p=p at *
  generalize S.m=m at *
  generalize S.n=b at *
  generalize S.t=t at *
  generalize S.T=T at *
  obtain⟨i,k,hik,hk,hi⟩:=at_two x y
  have b3:fbSig x*fbSig y<18446744073709551616*18446744073709551616:=Nat.mul_lt_mul'' (by omega) (by omega)
  have hLY:=fun w h=>tlay_any (w0:=w0) (w:=w) (L:=L) (W:=W) (TY:=TY) (g:=g) (p:=p) (m:=m) (b:=b') (t:=t') (sg x != sg y) (fbSig x*fbSig y/18446744073709551616) (fbSig x*fbSig y%18446744073709551616) i k T (by omega) (by omega) hi hk h
  rw [←hik,lay_two hik]at hLY
  obtain⟨sgn,hsg⟩:∃q,q=(sg x != sg y):=⟨_,rfl⟩
  rw [←hsg]at hLY
  have hsg2:(!(sg x==sg y))=sgn:=hsg.symm
  have e1:=fbExp_lo x
  have e2:=fbExp_hi x
  have e3:=fbExp_lo y
  have e4:=fbExp_hi y
  generalize fbSig x*fbSig y/18446744073709551616=H1 at *
  generalize fbSig x*fbSig y%18446744073709551616=H2 at *
  generalize fbExp x=E1 at *
  generalize fbExp y=E2 at *
  generalize fbSig x=F1 at *
  generalize fbSig y=F2 at *
  have HLY:=Lib.hid hLY
  have hw:IntKind.i64.wrap (E1+E2)=E1+E2:=by rw [IntKind.wrap_i64];omega
  have hw2:IntKind.i64.wrap (E1+E2+2148)=E1+E2+2148:=by rw [IntKind.wrap_i64];omega
  have hw3:E1+E2 - -2148=E1+E2+2148:=by omega
  clear hLY hik hk hi hx hy nx ny ix iy hod b1 b2 b3 hsg e1 e2 e3 e4
  go_enter Tryz.func15,Tryz.ntmps15
  go_wp2_with (first|(go_at_call 58;(with_reducible refine(HIX.out _).mono ?_);rintro e w2 ⟨rfl,rfl⟩)|(go_at_call 58;(with_reducible refine(HIY.out _).mono ?_);rintro e w2 ⟨rfl,rfl⟩)|(go_at_call 57;(with_reducible refine(HNX.out _).mono ?_);rintro e w2 ⟨rfl,rfl⟩)|(go_at_call 57;(with_reducible refine(HNY.out _).mono ?_);rintro e w2 ⟨rfl,rfl⟩)|(go_at_call 56;(with_reducible refine(HC.out _ hO).mono ?_);rintro e w1 ⟨rfl,hO1⟩;clear hO;have hO:=hO1;clear hO1)|(go_at_call 59;(with_reducible refine(HSX.out _).mono ?_);rintro e w2 ⟨rfl,rfl⟩)|(go_at_call 59;(with_reducible refine(HSY.out _).mono ?_);rintro e w2 ⟨rfl,rfl⟩)|(go_at_call 61;(with_reducible refine(HML.out _).mono ?_);rintro e w2 ⟨rfl,rfl⟩)|(go_at_call 60;(with_reducible refine(HLY.out _ hO).mono ?_);rintro e w1 ⟨rfl,hO1⟩;clear hO;have hO:=hO1;clear hO1))
  go_end0
  exact⟨rfl,hO⟩
 ·rw [if_pos rfl]
  have h4:(isInf x=true)∨(isInf x=false∧isInf y=true)∨(isInf x=false∧isInf y=false∧isNaN x=true)∨(isInf x=false∧isInf y=false∧isNaN x=false∧isNaN y=true):=by
   unfold oddP at hod
   revert hod
   cases isNaN x<;>cases isInf x<;>cases isNaN y<;>cases isInf y<;>simp
  have HAD:=Lib.hid (fun r w h hr=>tadd_any (w0:=w0) (w:=w) (L:=L) (W:=W) (TY:=TY) (g:=g) S r ht hr h)
  obtain⟨S',hS'⟩:∃S',S'=S.add (mulR 0 x y):=⟨_,rfl⟩
  rw [←hS']
  rcases mul_odd hx hy (by unfold oddP at hod;exact hod)with ⟨hm,h2⟩|⟨s,hm,h2⟩
  ·have HR:Hid (∀w,S.add (nanOf w x y)=S'):=Lib.hid (fun w=>by rw [hS',h2 0];exact Sm.add_nan (nanOf_nan _ _ _) NaNc_nan)
   have hrun:=fun w=>run_nan (op:=.mul) (x:=x) (y:=y) hm (by simp) w
   have HB:=Lib.hid (fun w=>nanOf_lt w x y)
   clear hm h2 hod hS' hx hy ht
   rcases h4 with q1|⟨q1,q2⟩|⟨q1,q2,q3⟩|⟨q1,q2,q3,q4⟩
   all_goals
    (try rw [q1]at HIX)
    (try rw [q2]at HIY)
    (try rw [q3]at HNX)
    (try rw [q4]at HNY)
    go_enter Tryz.func15,Tryz.ntmps15
    go_wp2_with (first|(go_at_call 58;(with_reducible refine(HIX.out _).mono ?_);rintro e w2 ⟨rfl,rfl⟩)|(go_at_call 58;(with_reducible refine(HIY.out _).mono ?_);rintro e w2 ⟨rfl,rfl⟩)|(go_at_call 57;(with_reducible refine(HNX.out _).mono ?_);rintro e w2 ⟨rfl,rfl⟩)|(go_at_call 57;(with_reducible refine(HNY.out _).mono ?_);rintro e w2 ⟨rfl,rfl⟩)|(go_at_call 14;(with_reducible refine(HAD.out _ _ (hO.ext (Ext.refl _).drew) (HB.out _)).mono ?_);rintro e w1 ⟨rfl,hO1⟩;rw [HR.out]at hO1;clear hO;have hO:=hO1;clear hO1))
    (try simp only [Exit.inBlock,Exit.then])
    refine bodyPost_ret (results_none rfl _ _ _) rfl ?_
    exact⟨rfl,hO⟩
  ·have HR:Hid (S.add (infP s)=S'):=Lib.hid (by rw [hS',h2 0])
   have HB:Hid (infP s<18446744073709551616):=Lib.hid (by unfold infP;cases s<;>decide)
   have hrun:∀w,(binOp .mul 27 (.float .f64 x) (.float .f64 y)).run Tryz.prog w=.ok (.float .f64 (infP s)) w:=fun w=>run_some hm w
   clear hm h2 hod hS' hx hy ht
   rcases h4 with q1|⟨q1,q2⟩|⟨q1,q2,q3⟩|⟨q1,q2,q3,q4⟩
   all_goals
    (try rw [q1]at HIX)
    (try rw [q2]at HIY)
    (try rw [q3]at HNX)
    (try rw [q4]at HNY)
    go_enter Tryz.func15,Tryz.ntmps15
    go_wp2_with (first|(go_at_call 58;(with_reducible refine(HIX.out _).mono ?_);rintro e w2 ⟨rfl,rfl⟩)|(go_at_call 58;(with_reducible refine(HIY.out _).mono ?_);rintro e w2 ⟨rfl,rfl⟩)|(go_at_call 57;(with_reducible refine(HNX.out _).mono ?_);rintro e w2 ⟨rfl,rfl⟩)|(go_at_call 57;(with_reducible refine(HNY.out _).mono ?_);rintro e w2 ⟨rfl,rfl⟩)|(go_at_call 14;(with_reducible refine(HAD.out _ _ hO HB.out).mono ?_);rintro e w1 ⟨rfl,hO1⟩;rw [HR.out]at hO1;clear hO;have hO:=hO1;clear hO1))
    (try simp only [Exit.inBlock,Exit.then])
    refine bodyPost_ret (results_none rfl _ _ _) rfl ?_
    exact⟨rfl,hO⟩
end
def zsum:List Value:=sc (List.replicate 68 0) false false false 0
theorem zero_sum (w:World):(zeroValue 84).run Tryz.prog w=.ok (.agg zsum.toArray) w:=by kernel_rfl
theorem size_sum (w:World):(sizeOf 84).run Tryz.prog w=.ok 72 w:=by kernel_rfl
theorem agg_sum (w:World):(isAgg 84).run Tryz.prog w=.ok true w:=by kernel_rfl
theorem size_a68 (w:World):(sizeOf 82).run Tryz.prog w=.ok 68 w:=by kernel_rfl
theorem agg_a68 (w:World):(isAgg 82).run Tryz.prog w=.ok true w:=by kernel_rfl
theorem spl_zsum {vs:List Value}(h:vs.length=72):spl zsum 0 vs=vs:=spl_all (by rw [h];rfl)
theorem sw_nil:sw 0=List.replicate 68 0:=by
 refine(sw_of (by simp) (fun x hx=>by rw [List.eq_of_mem_replicate hx];omega) ?_).symm
 have h:vl (List.replicate 68 0)=0:=by decide
 rw [h];simp
theorem Sm.nil_cs:Sm.nil.cs=zsum:=by
 unfold Sm.cs Sm.nil zsum
 rw [sw_nil]
theorem run_idx68 {ws:List Nat}{j x:Nat}(hj:j < 68)(hx:ws[j]?=some x)(w:World):(Instr.index 82 (.agg (u64s ws).toArray) (.int .i64 (j:Int))).run Tryz.prog w=.ok (.int .u64 (x:Int)) w:=by
 have h1:(u64s ws)[j]?=some (.int .u64 (x:Int)):=by unfold u64s;rw [List.getElem?_map,hx];rfl
 have h2:(u64s ws).toArray[j]?=some (.int .u64 (x:Int)):=by simpa using h1
 have hs:=size_u64 w
 have hp:=run_part_plain (P:=Tryz.prog) w (e:=29) (by kernel_rfl) (off:=j) h2
 simp [Instr.index,run_underlying Tryz.underlying82,asIntOf,hj,hs,hp,Result.andThen]
theorem nat_flip {x:Nat}(h:x < 18446744073709551616):18446744073709551615 ^^^ x=18446744073709551615-x:=by
 have h1:(~~~(BitVec.ofNat 64 x)).toNat=2^64-1-(BitVec.ofNat 64 x).toNat:=BitVec.toNat_not
 rw [BitVec.not_def,BitVec.toNat_xor,BitVec.toNat_allOnes,BitVec.toNat_ofNat,Nat.mod_eq_of_lt h]at h1
 exact h1
theorem tnot_u64 (p:Nat)(h:p < 18446744073709551616):bits .xor .u64 IntKind.u64.max (p:Int)=((18446744073709551615-p:Nat):Int):=by
 have e:IntKind.u64.max=((18446744073709551615:Nat):Int):=rfl
 rw [e,u64_xor_nat _ _ (by omega) h,nat_flip h]
theorem vl_take_all {l:List Nat}(h:l.length=68):l.take 68=l:=List.take_of_length_le (by omega)
section
variable {w0 w:World} {L:List Bx} {W:List Sw} {TY TO:TypeId} {g:Nat}
theorem tmerge_core (S O:Sm)(go ko:Nat)(hko:(⟨g,TY,S.cs⟩::L:List Bx)[ko]?=some ⟨go,TO,O.cs⟩)(ht:S.t≤4611686018427387904)(hto:O.t≤4611686018427387904)(hO:Own w0 (⟨g,TY,S.cs⟩::L) W w) :
  Calls Tryz.prog 147 #[.pointer (some ⟨g,0,none⟩),.pointer (some ⟨go,0,none⟩)] w fun e w'=>e=.returned (.tuple #[])∧Own w0 (⟨g,TY,(S.merge O).cs⟩::L) W w':=by
 have hC:=fun ws hl w L h=>tcount_any (w0:=w0) (w:=w) (L:=L) (W:=W) (TY:=TY) (g:=g) (ws:=ws) (p:=S.p) (m:=S.m) (b:=S.n) (t:=S.t) O.t hl ht hto h
 unfold Sm.merge
 unfold Sm.cs at hO hko ⊢
 obtain⟨nb,hnb⟩:∃b',b'=cntN S.n S.t O.t:=⟨_,rfl⟩
 obtain⟨nt,hnt⟩:∃t',t'=cnt S.t O.t:=⟨_,rfl⟩
 rw [←hnb,←hnt]at hC ⊢
 have HC:=Lib.hid hC
 clear hnb hnt ht hto hC
 obtain⟨S,p,m,b,t⟩:=S
 obtain⟨O,p2,m2,b2,t2⟩:=O
 simp only at hko hO HC ⊢
 have HLO:=Lib.hid (sw_len O)
 have HLS:=Lib.hid (sw_len S)
 have HKO:=Lib.hid hko
 clear hko
 go_enter Tryz.func147,Tryz.ntmps147
 go_wp2_with (first|((with_reducible refine at_load (T:=84) ?_);refine own_load (T:=84) hO ko HKO.out rfl agg_sum size_sum (by rw [sc_len HLO.out];rfl) (vs:=sc (sw O) p2 m2 b2 t2) (by rw [List.drop_zero,List.take_of_length_le (by rw [sc_len HLO.out];omega)]) ?_)|((with_reducible refine at_alloc (T:=84) ?_);refine own_alloc hO zero_sum rfl sc_noU ?_;clear hO;intro gt wa hO)|((with_reducible refine at_store (T:=84) ?_);refine own_store (vs:=sc (sw O) p2 m2 b2 t2) (T:=84) hO 0 rfl rfl rfl (fun w=>by rw [sc_len HLO.out];exact size_sum w) (sc_one _ _ _ _ _) sc_noU (by rw [sc_len HLO.out];rfl) ?_;clear hO;intro wb hO;simp only [List.set_cons_zero,spl_zsum (sc_len HLO.out)]at hO)|((with_reducible refine at_load (T:=82) ?_);refine own_load (T:=82) hO 0 rfl rfl agg_a68 size_a68 (by rw [sc_len HLO.out];rfl) (vs:=u64s (sw O)) (sc_words HLO.out) ?_))
 have hini:(vl (sw S):Int)+sn false (0*18446744073709551616^0)=(vl (sw S):Int)+(vl ((sw O).take 0):Int):=by simp [sn,vl]
 obtain⟨V,hV⟩:∃V:Int,V=(vl (sw S):Int):=⟨_,rfl⟩
 have HV:=Lib.hid hV
 rw [←hV]at hini
 have hs6:=sw_w6 S
 have hsl:=sw_len S
 rw [hV]at hini
 go_loopw [5,13] (fun cv kv wr=>∃(j c:Nat) (l:List Nat),kv=.int .i64 (j:Int)∧cv=.int .u64 (c:Int)∧j≤68∧Hid (c≤1∧l.length=68∧W6 l∧(vl l:Int)+sn false (c*18446744073709551616^j)=(vl (sw S):Int)+(vl ((sw O).take j):Int))∧Own w0 (⟨gt,84,sc (sw O) p2 m2 b2 t2⟩::⟨g,TY,sc l p m b t⟩::L) W wr) (fun _ kv _=>68-(intOf kv).toNat)
 case atStart=>exact⟨0,0,sw S,rfl,rfl,by omega,Lib.hid ⟨by omega,hsl,hs6,hini⟩,hO⟩
 case round=>
  obtain⟨j,c,l,rfl,rfl,hj68,hinv,hOr⟩:=hrel
  clear hO hini hs6 hsl hV
  by_cases hlt:j<68
  ·have hjl:j<l.length:=by rw [hinv.out.2.1];exact hlt
   have hjo:j<(sw O).length:=by rw [HLO.out];exact hlt
   have hc2:=(hOr.cell 1 rfl j).trans (sc_word hjl)
   have hf2:=hOr.frozen 1 (b:=⟨g,TY,sc l p m b t⟩) rfl j
   have hidx:=run_idx68 (ws:=sw O) hlt (List.getElem?_eq_getElem hjo)
   have hx64:=hinv.out.2.2.1.get hjl
   have hy64:=(sw_w6 O).get hjo
   obtain⟨o,ho⟩:∃o,o=l[j]:=⟨_,rfl⟩
   obtain⟨x,hx⟩:∃x,x=(sw O)[j]:=⟨_,rfl⟩
   rw [←ho]at hc2 hx64
   rw [←hx]at hidx hy64
   have hc1:=hinv.out.1
   have hcall:=run_badd o x c hc1
   have hN1:Hid ((o+x+c)/18446744073709551616≤1∧(l.set j ((o+x+c)%18446744073709551616)).length=68∧W6 (l.set j ((o+x+c)%18446744073709551616))∧(vl (l.set j ((o+x+c)%18446744073709551616)):Int)+sn false ((o+x+c)/18446744073709551616*18446744073709551616^(j+1))=(vl (sw S):Int)+(vl ((sw O).take (j+1)):Int)):=by
    obtain⟨i1,i2,i3,i4⟩:=hinv.out
    refine Lib.hid ⟨by omega,by rw [List.length_set];exact i2,i3.set _ (by omega),?_⟩
    rw [vl_take_succ hjo,←hx,Int.natCast_add]
    have:=lay_step (s:=false) hjl (by rw [←ho];exact add_word (x:=o) (y:=x) (c:=c)) i4
    rw [Nat.mul_comm (18446744073709551616^j)]
    exact this
   have hOst:Own w0 (⟨gt,84,sc (sw O) p2 m2 b2 t2⟩::⟨g,TY,sc (l.set j ((o+x+c)%18446744073709551616)) p m b t⟩::L) W (wr.setCell ⟨g,j,none⟩ (.int .u64 (((o+x+c)%18446744073709551616:Nat):Int))):=by
    have:=hOr.set 1 rfl j (.int .u64 (((o+x+c)%18446744073709551616:Nat):Int)) rfl
    simp only [List.set_cons_succ,List.set_cons_zero]at this
    rw [sc_setw hjl]at this
    exact this
   generalize (o+x+c)%18446744073709551616=r at *
   generalize (o+x+c)/18446744073709551616=c' at *
   have HOST:=Lib.hid hOst
   have d0:decide ((j:Int)<68)=true:=decide_eq_true (by omega)
   have bp0:(0:Int)≤(j:Int):=by omega
   have bp1:(j:Int)<68:=by omega
   clear hOst hinv hOr hx64 hy64 ho hx hjl hjo
   go_wp2_with fail
   go_region_with (fail)
   go_wp2_with fail
   go_roundw
   case rel=>exact⟨j+1,c',l.set j r,by go_num,rfl,by omega,hN1,HOST.out.ext (Ext.refl _).drew⟩
   case measure=>simp [intOf];omega
  ·have hje:j=68:=by omega
   have hd:l=sw (S+O):=by
    obtain⟨i1,i2,i3,i4⟩:=hinv.out
    rw [hje,vl_take_all (sw_len O)]at i4
    refine(lay_end (c:=(c:Int)) (T:=S) i2 i3 (X:=vl (sw O)) ?_).trans (sw_congr ?_)
    ·rw [←i4]
     unfold sn MM
     simp
    ·rw [vl_sw,Int.add_emod,Int.emod_emod_of_dvd _ (Int.dvd_refl _),←Int.add_emod]
   have HL:=Lib.hid (sw_len (S+O))
   subst hd
   have d0:decide ((j:Int)<68)=false:=decide_eq_false (by omega)
   have hc71:=(hOr.cell 0 rfl 71).trans (sc_t HLO.out)
   clear hinv hje HV
   have hO:=hOr
   clear hOr
   cases p<;>cases m<;>cases nb
   all_goals
    go_wp2_with (first|(go_at_call 56;(with_reducible refine(HC.out _ (sw_len _) _ _ hO.swap).mono ?_);rintro e w1 ⟨rfl,hO1⟩;clear hO;have hO:=hO1.swap;clear hO1;have c1:=(hO.cell 1 rfl 68).trans (sc_p HL.out);have c2:=(hO.cell 1 rfl 69).trans (sc_m HL.out);have c3:=(hO.cell 1 rfl 70).trans (sc_n HL.out);have c4:=(hO.cell 0 rfl 68).trans (sc_p HLO.out);have c5:=(hO.cell 0 rfl 69).trans (sc_m HLO.out);have c6:=(hO.cell 0 rfl 70).trans (sc_n HLO.out))|((with_reducible refine at_store (T:=4) ?_);refine own_store (vs:=[.bool true]) (T:=4) hO 1 rfl rfl rfl size_bool rfl rfl (by rw [sc_len HL.out];rfl) ?_;clear hO;intro w3 hO;simp only [List.set_cons_zero,List.set_cons_succ,spl,sc_setp HL.out,sc_setm HL.out,sc_setn HL.out]at hO;have c1:=(hO.cell 1 rfl 68).trans (sc_p HL.out);have c2:=(hO.cell 1 rfl 69).trans (sc_m HL.out);have c3:=(hO.cell 1 rfl 70).trans (sc_n HL.out);have c4:=(hO.cell 0 rfl 68).trans (sc_p HLO.out);have c5:=(hO.cell 0 rfl 69).trans (sc_m HLO.out);have c6:=(hO.cell 0 rfl 70).trans (sc_n HLO.out))|((with_reducible refine at_store (T:=4) ?_);refine own_store (vs:=[.bool p2]) (T:=4) hO 1 rfl rfl rfl size_bool rfl rfl (by rw [sc_len HL.out];rfl) ?_;clear hO;intro w3 hO;simp only [List.set_cons_zero,List.set_cons_succ,spl,sc_setp HL.out,sc_setm HL.out,sc_setn HL.out]at hO;have c1:=(hO.cell 1 rfl 68).trans (sc_p HL.out);have c2:=(hO.cell 1 rfl 69).trans (sc_m HL.out);have c3:=(hO.cell 1 rfl 70).trans (sc_n HL.out);have c4:=(hO.cell 0 rfl 68).trans (sc_p HLO.out);have c5:=(hO.cell 0 rfl 69).trans (sc_m HLO.out);have c6:=(hO.cell 0 rfl 70).trans (sc_n HLO.out))|((with_reducible refine at_store (T:=4) ?_);refine own_store (vs:=[.bool m2]) (T:=4) hO 1 rfl rfl rfl size_bool rfl rfl (by rw [sc_len HL.out];rfl) ?_;clear hO;intro w3 hO;simp only [List.set_cons_zero,List.set_cons_succ,spl,sc_setp HL.out,sc_setm HL.out,sc_setn HL.out]at hO;have c1:=(hO.cell 1 rfl 68).trans (sc_p HL.out);have c2:=(hO.cell 1 rfl 69).trans (sc_m HL.out);have c3:=(hO.cell 1 rfl 70).trans (sc_n HL.out);have c4:=(hO.cell 0 rfl 68).trans (sc_p HLO.out);have c5:=(hO.cell 0 rfl 69).trans (sc_m HLO.out);have c6:=(hO.cell 0 rfl 70).trans (sc_n HLO.out))|((with_reducible refine at_store (T:=4) ?_);refine own_store (vs:=[.bool b2]) (T:=4) hO 1 rfl rfl rfl size_bool rfl rfl (by rw [sc_len HL.out];rfl) ?_;clear hO;intro w3 hO;simp only [List.set_cons_zero,List.set_cons_succ,spl,sc_setp HL.out,sc_setm HL.out,sc_setn HL.out]at hO;have c1:=(hO.cell 1 rfl 68).trans (sc_p HL.out);have c2:=(hO.cell 1 rfl 69).trans (sc_m HL.out);have c3:=(hO.cell 1 rfl 70).trans (sc_n HL.out);have c4:=(hO.cell 0 rfl 68).trans (sc_p HLO.out);have c5:=(hO.cell 0 rfl 69).trans (sc_m HLO.out);have c6:=(hO.cell 0 rfl 70).trans (sc_n HLO.out)))
    go_end0
    exact⟨rfl,hO.tail⟩
theorem tmerge_any (S O:Sm)(go:Nat)(ht:S.t≤4611686018427387904)(hto:O.t≤4611686018427387904)(hO:Own w0 (⟨g,TY,S.cs⟩::⟨go,TO,O.cs⟩::L) W w) :
  Calls Tryz.prog 147 #[.pointer (some ⟨g,0,none⟩),.pointer (some ⟨go,0,none⟩)] w fun e w'=>e=.returned (.tuple #[])∧Own w0 (⟨g,TY,(S.merge O).cs⟩::⟨go,TO,O.cs⟩::L) W w':=tmerge_core S O go 1 rfl ht hto hO
theorem tneg_any (S:Sm)(hO:Own w0 (⟨g,TY,S.cs⟩::L) W w) :
  Calls Tryz.prog 114 #[.pointer (some ⟨g,0,none⟩)] w fun e w'=>e=.returned (.tuple #[])∧Own w0 (⟨g,TY,S.neg.cs⟩::L) W w':=by
 unfold Sm.neg
 unfold Sm.cs at hO ⊢
 obtain⟨S,p,m,b,t⟩:=S
 simp only at hO ⊢
 have HLO:=Lib.hid (sw_len S)
 go_enter Tryz.func114,Tryz.ntmps114
 go_wp2_with ((with_reducible refine at_load (T:=82) ?_);refine own_load (T:=82) hO 0 rfl rfl agg_a68 size_a68 (by rw [sc_len HLO.out];rfl) (vs:=u64s (sw S)) (sc_words HLO.out) ?_)
 have hini:(vl (sw S):Int)+(1:Nat)*(18446744073709551616^0:Nat)=vl (sw S)-2*vl ((sw S).take 0)+(18446744073709551616^0:Nat):=by simp [vl]
 have hs6:=sw_w6 S
 have hsl:=sw_len S
 go_loopw [2,9] (fun cv kv wr=>∃(j c:Nat) (l:List Nat),kv=.int .i64 (j:Int)∧cv=.int .u64 (c:Int)∧j≤68∧Hid (c≤1∧l.length=68∧W6 l∧l.drop j=(sw S).drop j∧(vl l:Int)+c*(18446744073709551616^j:Nat)=vl (sw S)-2*vl ((sw S).take j)+(18446744073709551616^j:Nat))∧Own w0 (⟨g,TY,sc l p m b t⟩::L) W wr) (fun _ kv _=>68-(intOf kv).toNat)
 case atStart=>exact⟨0,1,sw S,rfl,rfl,by omega,Lib.hid ⟨by omega,hsl,hs6,rfl,hini⟩,hO⟩
 case round=>
  obtain⟨j,c,l,rfl,rfl,hj68,hinv,hOr⟩:=hrel
  clear hO hini hs6 hsl
  by_cases hlt:j<68
  ·have hjl:j<l.length:=by rw [hinv.out.2.1];exact hlt
   have hjo:j<(sw S).length:=by rw [HLO.out];exact hlt
   have hf2:=hOr.frozen 0 (b:=⟨g,TY,sc l p m b t⟩) rfl j
   have hthere:=(hOr.cell 0 rfl j).trans (sc_word hjl)
   obtain⟨z,hz⟩:∃z,z=l[j]:=⟨_,rfl⟩
   rw [←hz]at hthere
   have hidx:=run_idx68 (ws:=sw S) hlt (List.getElem?_eq_getElem hjo)
   have hx64:=(sw_w6 S).get hjo
   have hlx:l[j]=(sw S)[j]:=by
    have:=congrArg (fun z:List Nat=>z[0]?) hinv.out.2.2.2.1
    simp only [List.getElem?_drop,Nat.add_zero]at this
    rw [List.getElem?_eq_getElem hjl,List.getElem?_eq_getElem hjo]at this
    exact Option.some.inj this
   obtain⟨x,hx⟩:∃x,x=(sw S)[j]:=⟨_,rfl⟩
   rw [←hx]at hidx hx64
   have hc1:=hinv.out.1
   have hxor:=tnot_u64 x hx64
   obtain⟨y,hy⟩:∃y,y=18446744073709551615-x:=⟨_,rfl⟩
   have hcall:∀w,(callFunc 113 #[.int .u64 (y:Int),.int .u64 0,.int .u64 (c:Int)]).run Tryz.prog w=.ok (.value (.tuple #[.int .u64 (((y+0+c)%18446744073709551616:Nat):Int),.int .u64 (((y+0+c)/18446744073709551616:Nat):Int)])) w:=run_badd y 0 c hc1
   rw [Nat.add_zero]at hcall
   rw [←hy]at hxor
   have hN1:Hid ((y+c)/18446744073709551616≤1∧(l.set j ((y+c)%18446744073709551616)).length=68∧W6 (l.set j ((y+c)%18446744073709551616))∧(l.set j ((y+c)%18446744073709551616)).drop (j+1)=(sw S).drop (j+1)∧(vl (l.set j ((y+c)%18446744073709551616)):Int)+((y+c)/18446744073709551616:Nat)*(18446744073709551616^(j+1):Nat)=vl (sw S)-2*vl ((sw S).take (j+1))+(18446744073709551616^(j+1):Nat)):=by
    obtain⟨i1,i2,i3,i4,i5⟩:=hinv.out
    refine Lib.hid ⟨by omega,by rw [List.length_set];exact i2,i3.set _ (by omega),?_,?_⟩
    ·rw [List.drop_set_of_lt (by omega),←List.drop_drop,i4,List.drop_drop]
    ·exact neg_step hjl hjo hlx (by rw [←hx,←hy];omega) (by rw [←hx];exact hx64) i5
   have hOst:Own w0 (⟨g,TY,sc (l.set j ((y+c)%18446744073709551616)) p m b t⟩::L) W (wr.setCell ⟨g,j,none⟩ (.int .u64 (((y+c)%18446744073709551616:Nat):Int))):=by
    have:=hOr.set 0 rfl j (.int .u64 (((y+c)%18446744073709551616:Nat):Int)) rfl
    simp only [List.set_cons_zero]at this
    rw [sc_setw hjl]at this
    exact this
   generalize (y+c)%18446744073709551616=r at *
   generalize (y+c)/18446744073709551616=c' at *
   have HOST:=Lib.hid hOst
   have d0:decide ((j:Int)<68)=true:=decide_eq_true (by omega)
   have bp0:(0:Int)≤(j:Int):=by omega
   have bp1:(j:Int)<68:=by omega
   clear hOst hinv hOr hx64 hx hlx hy hz hjl hjo
   go_wp2_with fail
   go_region_with (fail)
   go_wp2_with fail
   go_roundw
   case rel=>exact⟨j+1,c',l.set j r,by go_num,rfl,by omega,hN1,HOST.out.ext (Ext.refl _).drew⟩
   case measure=>simp [intOf];omega
  ·have hje:j=68:=by omega
   have hd:l=sw (-S):=by
    obtain⟨i1,i2,i3,i4,i5⟩:=hinv.out
    rw [hje,vl_take_all (sw_len S),vl_sw]at i5
    refine(sw_end (T:=-(S%(MM:Int))+1*(MM:Int)) (c:=(c:Int)) i2 i3 ?_).trans (sw_congr ?_)
    ·rw [show(MM:Int)=((18446744073709551616^68:Nat):Int)from rfl,i5]
     unfold MM
     omega
    ·rw [Int.add_mul_emod_self_right,show -(S%(MM:Int))=-S+(S/(MM:Int))*(MM:Int) by rw [Int.emod_def,Int.mul_comm];omega,Int.add_mul_emod_self_right]
   have HL:=Lib.hid (sw_len (-S))
   subst hd
   have d0:decide ((j:Int)<68)=false:=decide_eq_false (by omega)
   have hf0:=hOr.frozen 0 (b:=⟨g,TY,sc (sw (-S)) p m b t⟩) rfl 68
   have hf1:=hOr.frozen 0 (b:=⟨g,TY,sc (sw (-S)) p m b t⟩) rfl 69
   have hc0:=(hOr.cell 0 rfl 68).trans (sc_p HL.out)
   have hc1:=(hOr.cell 0 rfl 69).trans (sc_m HL.out)
   have hO1:=(hOr.set 0 rfl 68 (.bool m) rfl)
   simp only [List.set_cons_zero,sc_setp HL.out]at hO1
   have hO2:=(hO1.set 0 rfl 69 (.bool p) rfl)
   simp only [List.set_cons_zero,sc_setm HL.out]at hO2
   have HO2:=Lib.hid hO2
   clear hinv hje hOr hO1 hO2
   go_wp2_with fail
   go_region_with (fail)
   all_goals
    go_wp2_with fail
    go_end0
    exact⟨rfl,HO2.out.ext (Ext.refl _).drew⟩
end
end Go.Proofs.YtngdldcgkaplbaaGreat
namespace Go.Proofs.YtngdldcgkaplbaaGreat.Rn
open Nm
def holdZ (e:Int):Int:=min (max e (-1099511627776)) 1099511627776
def ofR (d:Int)(neg:Bool)(V:Nat)(e:Int):Nat:=
 if 524288<bl V then NaNc
 else if V=0 then 0
 else if(bl V:Int)+e < -1076 then rnd d neg 1
 else if 1023<(bl V:Int)-1+e then pat neg (if twB d neg then infR-1 else infR)
 else rnd d neg (zd (2*V) (e-1))
theorem zd_tiny {V:Nat}{e:Int}(hV:V≠0)(h:(bl V:Int)+e < -1076):zd (2*V) (e-1)=1:=by
 obtain⟨B,hB⟩:∃B:Nat,(B:Int)=-(e+1074):=⟨(-(e+1074)).toNat,by omega⟩
 rw [zd_of (A:=0) (B:=B) (by omega),Nat.pow_zero,Nat.mul_one]
 have hlt:2*V<2^B:=by
  have h1:=lt_pow_bl V
  have h2:2^(bl V+1)≤2^B:=Nat.pow_le_pow_right (by omega) (by omega)
  rw [Nat.pow_succ]at h2
  omega
 unfold zq
 rw [Nat.div_eq_of_lt hlt,Nat.mod_eq_of_lt hlt,if_neg (by omega)]
theorem ofR_tiny {d:Int}{neg:Bool}{V:Nat}{e:Int}(hV:V≠0)(hb:bl V≤524288)(h:(bl V:Int)+e < -1076):ofR d neg V e=rnd d neg 1:=by
 unfold ofR
 rw [if_neg (by omega),if_neg hV,if_pos h]
theorem ofR_hold {d:Int}{neg:Bool}{V:Nat}{e:Int}(hb:bl V≤524288)(h:V=0∨-1100≤(bl V:Int)+holdZ e):ofR d neg V e=rnd d neg (zd (2*V) (holdZ e-1)):=by
 unfold ofR
 rw [if_neg (by omega)]
 by_cases h0:V=0
 ·rw [if_pos h0,h0,Nat.mul_zero,zd_zero,rnd_zero]
 ·rw [if_neg h0]
  have h:=h.resolve_left h0
  have hbp:=bl_pos h0
  by_cases h1:(bl V:Int)+e < -1076
  ·rw [if_pos h1]
   have h2:(bl V:Int)+holdZ e < -1076:=by unfold holdZ at h ⊢;omega
   rw [zd_tiny h0 h2]
  ·rw [if_neg h1]
   by_cases h2:1023<(bl V:Int)-1+e
   ·rw [if_pos h2]
    have h3:1023<(bl V:Int)-1+holdZ e:=by unfold holdZ;omega
    have:=rnd_big (m:=0) h0 h3 d neg
    rw [Nat.add_zero]at this
    exact this.symm
   ·rw [if_neg h2]
    have h3:holdZ e=e:=by unfold holdZ;omega
    rw [h3]
theorem zd_two (V:Nat)(e:Int):zd (2*V) (e-1)=zd V e:=by
 obtain⟨A,B,hAB⟩:∃A B:Nat,(A:Int)-B=e+1075:=⟨(e+1075).toNat,(-(e+1075)).toNat,by omega⟩
 rw [zd_of hAB,zd_of (A:=A) (B:=B+1) (by omega)]
 refine zq_congr (two_pow_pos _) (two_pow_pos _) ?_
 rw [Nat.pow_succ]
 have:2*V*2^A*2^B=2*(V*2^A*2^B):=by rw [Nat.mul_assoc,Nat.mul_assoc,Nat.mul_assoc]
 rw [this]
 have:V*2^A*(2^B*2)=2*(V*2^A*2^B):=by rw [←Nat.mul_assoc,Nat.mul_comm]
 rw [this]
end Go.Proofs.YtngdldcgkaplbaaGreat.Rn
namespace Go.Proofs.YtngdldcgkaplbaaGreat
open Go.RowKit Nm Rn
theorem hold_any (x:Int)(w:World) :
  Calls Tryz.prog 117 #[.int .i64 x] w fun e w'=>e=.returned (.int .i64 (holdZ x))∧w=w':=by
 rcases Int.lt_or_le x (-1099511627776)with h|h
 ·have HF:Hid (-1099511627776=holdZ x):=Lib.hid (by unfold holdZ;omega)
  go_enter Tryz.func117,Tryz.ntmps117
  go_wp2
  go_ret
  exact⟨ret_int (by have:=HF.out;omega),rfl⟩
 ·rcases Int.lt_or_le 1099511627776 x with h2|h2
  ·have HF:Hid (1099511627776=holdZ x):=Lib.hid (by unfold holdZ;omega)
   go_enter Tryz.func117,Tryz.ntmps117
   go_wp2
   go_ret
   exact⟨ret_int (by have:=HF.out;omega),rfl⟩
  ·have HF:Hid (x=holdZ x):=Lib.hid (by unfold holdZ;omega)
   go_enter Tryz.func117,Tryz.ntmps117
   go_wp2
   go_ret
   exact⟨ret_int (by have:=HF.out;omega),rfl⟩
theorem mnanc_any (w:World):Calls Tryz.prog 64 #[] w fun e w'=>e=.returned (.float .f64 NaNc)∧w=w':=by
 go_enter Tryz.func64,Tryz.ntmps64
 go_wp2
 go_ret
 exact⟨rfl,rfl⟩
theorem one_list (w:World)(A:Nat):Wds (w.alloc (.cells #[.int .u32 1] 105)) (some ⟨w.heap.size,0,none⟩) 1 1 [1]:=by
 refine⟨rfl,by omega,by unfold maxLen;omega,by intro x hx;simp at hx;omega,fun _=>⟨_,rfl,by simp,fun k x hk=>?_⟩⟩
 match k,hk with
 |0,hk=>simp at hk;subst hk;simp [Addr.add]
 |k+1,hk=>simp at hk
theorem rof_any (d:Int)(neg:Bool)(A:Option Addr)(n c:Nat)(xs:List Nat)(exp:Int)(w:World)(h:Wds w A n c xs)(hn:n≤1099511627776) :
  Calls Tryz.prog 74 #[.int .i64 d,.bool neg,.slice A n c,.int .i64 exp] w (RetFl (ofR d neg (nv xs) exp) w):=by
 have HL:=Lib.hid (nlen_any A n c xs w h (by omega))
 have HH:=Lib.hid (fun w=>hold_any exp w)
 obtain⟨V,hV⟩:∃V,V=nv xs:=⟨_,rfl⟩
 rw [←hV]at HL ⊢
 obtain⟨B,hB⟩:∃B,B=bl V:=⟨_,rfl⟩
 rw [←hB]at HL
 by_cases hbig:524288<B
 ·have HF:Hid (ofR d neg V exp=NaNc):=Lib.hid (by unfold ofR;rw [if_pos (by omega)])
  clear hV hB h
  go_enter Tryz.func74,Tryz.ntmps74
  go_wp2_with (first|(go_at_call 116;refine HL.out.mono ?_;rintro e w' ⟨rfl,rfl⟩)|(go_at_call 64;refine(mnanc_any _).mono ?_;rintro e w' ⟨rfl,rfl⟩))
  go_ret
  exact⟨_,rfl,by rw [NaNc_val];omega,by rw [HF.out];rfl,Ext.refl _⟩
 ·obtain⟨H,hH⟩:∃H,H=holdZ exp:=⟨_,rfl⟩
  have hH1:-1099511627776≤H∧H≤1099511627776:=by rw [hH];unfold holdZ;omega
  rw [←hH]at HH
  have hnl:nw V≤16384:=nw_of_bl (by omega)
  by_cases ht:0<B∧(B:Int)+H < -1100
  ·have HF:Hid (ofR d neg V exp=rnd d neg (zd (2*nv [1]) (-1200-1))):=Lib.hid (by
    have hV0:V≠0:=fun h0=>by rw [h0,bl_zero]at hB;omega
    rw [ofR_tiny hV0 (by omega) (by have:=ht.2;rw [hH]at this;unfold holdZ at this;omega)]
    rw [show nv [1]=1 from rfl,zd_tiny (by omega) (by rw [show bl 1=1 from rfl];omega)])
   have hOF2:=of_any d neg (some ⟨w.heap.size,0,none⟩) 1 1 [1] (-1200) false (w.alloc (.cells #[.int .u32 1] 105)) (one_list w 0) (by omega) (by rw [show nv [1]=1 from rfl,show nw 1=1 from rfl];omega) (by omega) (by omega) (by intro h;cases h)
   simp only [Bool.toNat_false,Nat.add_zero]at hOF2
   rw [←HF.out]at hOF2
   have HOF:=Lib.hid hOF2
   have HE0:Hid (Ext w (w.alloc (.cells #[.int .u32 1] 105))):=Lib.hid ((Ext.refl w).alloc _)
   have HOK:Hid (ofR d neg V exp<18446744073709551616∧cn (ofR d neg V exp)=ofR d neg V exp):=Lib.hid (by rw [HF.out];exact⟨(rnd_ok _ _ _).1,cn_num (rnd_ok _ _ _).2⟩)
   have t1:=ht.1
   have t2:=ht.2
   clear hOF2
   generalize ofR d neg V exp=R at HOF HOK ⊢
   clear HF hV hB h hH hnl ht
   go_enter Tryz.func74,Tryz.ntmps74
   go_wp2_with (first|(go_at_call 116;refine HL.out.mono ?_;rintro e w' ⟨rfl,rfl⟩)|(go_at_call 117;refine(HH.out _).mono ?_;rintro e w' ⟨rfl,rfl⟩))
   refine HOF.out.mono ?_
   rintro e w1 ⟨rfl,hE⟩
   go_wp2
   go_ret
   exact⟨_,rfl,HOK.out.1,HOK.out.2,HE0.out.trans hE⟩
  ·have HF:Hid (ofR d neg V exp=rnd d neg (zd (2*V) (H-1))):=Lib.hid (by
    rw [hH]
    refine ofR_hold (by omega) ?_
    by_cases h0:V=0
    ·exact .inl h0
    ·right
     have:=bl_pos h0
     omega)
   have hOF:=of_any d neg A n c xs H false w h hn (by rw [←hV];exact hnl) (by omega) (by omega) (by intro h;cases h)
   simp only [Bool.toNat_false,Nat.add_zero]at hOF
   rw [←hV,←HF.out]at hOF
   have HOF:=Lib.hid hOF
   have HOK:Hid (ofR d neg V exp<18446744073709551616∧cn (ofR d neg V exp)=ofR d neg V exp):=Lib.hid (by rw [HF.out];exact⟨(rnd_ok _ _ _).1,cn_num (rnd_ok _ _ _).2⟩)
   have hc:B=0∨(0<B∧-1100≤(B:Int)+H):=by omega
   clear hOF
   generalize ofR d neg V exp=R at HOF HOK ⊢
   clear HF hV hB h hH hnl ht
   rcases hc with rfl|⟨t1,t2⟩
   all_goals
    go_enter Tryz.func74,Tryz.ntmps74
    go_wp2_with (first|(go_at_call 116;refine HL.out.mono ?_;rintro e w' ⟨rfl,rfl⟩)|(go_at_call 117;refine(HH.out _).mono ?_;rintro e w' ⟨rfl,rfl⟩))
    refine HOF.out.mono ?_
    rintro e w1 ⟨rfl,hE⟩
    go_wp2
    go_ret
    exact⟨_,rfl,HOK.out.1,HOK.out.2,hE⟩
end Go.Proofs.YtngdldcgkaplbaaGreat
namespace Go.Proofs.YtngdldcgkaplbaaGreat
open Go.RowKit Nm
def RetQR (Q R:Nat)(w:World)(e:Ending)(w':World):Prop:=∃A n c B m d,e=.returned (.tuple #[.slice A n c,.slice B m d,.int .i64 0])∧Wds w' A n c (nd Q)∧Wds w' B m d (nd R)∧Ext w w'
theorem word_or3 (a b:Nat)(ha:a < 4294967296)(hb:b < 4294967296):bits .or .u64 ((a:Int)*4294967296) (b:Int)=((a*4294967296+b:Nat):Int):=by
 have e:(a:Int)*4294967296=((a*4294967296:Nat):Int):=by omega
 rw [e,u64_or_nat _ _ (by omega) (by omega),nat_join 32 _ _ (by omega) (by omega)]
theorem one_step {xs L:List Nat}{k r y x v q r':Nat}(hk:k < xs.length)(hkL:k < L.length)(hx:xs[k]=x)(hv:v=r*4294967296+x)(hq:q=v / y)(hr':r'=v % y)(h:nv (xs.drop (k+1))=nv (L.drop (k+1))*y+r) :
  nv (xs.drop k)=nv ((L.set k q).drop k)*y+r':=by
 have hd:=Nat.div_add_mod v y
 rw [←hq,←hr']at hd
 rw [List.drop_eq_getElem_cons hk,nv_cons,hx,h]
 rw [List.drop_eq_getElem_cons (l:=L.set k q) (by simpa using hkL),nv_cons,List.getElem_set_self,List.drop_set_of_lt (by omega)]
 rw [Nat.add_mul,Nat.mul_assoc,Nat.mul_add]
 have e1:y*q=q*y:=Nat.mul_comm _ _
 generalize nv (L.drop (k+1))*y=Z at *
 generalize q*y=Y at *
 omega
theorem none_any (A:Option Addr)(n c:Nat)(xs:List Nat)(y:Nat)(w:World)(h:Wds w A n c xs)(hn:n≤17592186044416)(hy:0 < y)(hy32:y < 4294967296) :
  Calls Tryz.prog 165 #[.slice A n c,.int .u64 (y:Int)] w (RetQR (nv xs/y) (nv xs%y) w):=by
 have hlx:=h.len
 have hmk:=run_make32 n (by omega) w
 have hr0:=Row.new w (List.replicate n 0)
 have hE0:Ext w (w.alloc (.cells (u32s (List.replicate n 0)).toArray 105)):=(Ext.refl w).alloc _
 obtain⟨w1,hw1⟩:∃w1,w1=w.alloc (.cells (u32s (List.replicate n 0)).toArray 105):=⟨_,rfl⟩
 rw [←hw1]at hmk hr0 hE0
 clear hw1
 obtain⟨g,hg⟩:∃g,g=w.heap.size:=⟨_,rfl⟩
 rw [←hg]at hmk hr0
 have hgl:w.heap.size≤g:=by omega
 clear hg
 go_enter Tryz.func165,Tryz.ntmps165
 go_wp2
 clear hmk
 go_loopw [7,15] (fun cv iv wr=>∃(i r:Nat) (L:List Nat),i≤n∧iv=.int .i64 i∧cv=.int .u64 (r:Int)∧r<4294967296∧Hid (r<y)∧Row wr g L∧Ws L∧Hid (L.length=n)∧Hid (nv (xs.drop (n-i))=nv (L.drop (n-i))*y+r)∧Ext w wr) (fun _ iv _=>n-(intOf iv).toNat)
 case atStart=>exact⟨0,0,_,Nat.zero_le _,rfl,rfl,by omega,Lib.hid hy,hr0,Ws.replicate _ (by omega),Lib.hid (by simp),Lib.hid (by rw [List.drop_of_length_le (by omega),List.drop_of_length_le (by simp)];simp [nv]),hE0⟩
 case round=>
  obtain⟨i,r,L,hi,rfl,rfl,hr32,hry,hrow,hL,hLl,hinv,hE⟩:=hrel
  by_cases hlt:i<n
  ·obtain⟨k,hk⟩:∃k,k=n-1-i:=⟨_,rfl⟩
   have hkn:k<n:=by omega
   obtain⟨ad,hx,rfl,_,hcX⟩:=(h.ext hE).at_ (k:=k) hkn
   have hX32:=h.ws.get hx
   have hkL:k<L.length:=by rw [hLl.out];omega
   have hinv':=hinv.out
   rw [show n-i=k+1 by omega]at hinv'
   have hst:=fun v q r' x' hx' hv hq hr'=>one_step (k:=k) (r:=r) (y:=y) (x:=x') (v:=v) (q:=q) (r':=r') hx hkL hx' hv hq hr' hinv'
   obtain⟨x,hxe⟩:∃x,x=xs[k]:=⟨_,rfl⟩
   have hst2:=fun v q r'=>hst v q r' x hxe.symm
   rw [←hxe]at hcX hX32
   have hor:=word_or3 r x hr32 hX32
   obtain⟨v,hv⟩:∃v,v=r*4294967296+x:=⟨_,rfl⟩
   rw [←hv]at hor
   have hv64:v<18446744073709551616:=by omega
   have hvq:v/y<4294967296:=by
    rw [Nat.div_lt_iff_lt_mul hy]
    have:=hry.out
    have h2:(r+1)*4294967296≤y*4294967296:=Nat.mul_le_mul_right _ (by omega)
    omega
   have hvr:v%y<y:=Nat.mod_lt _ hy
   have hst3:=hst2 v (v/y) (v%y) hv rfl rfl
   have e1:(v:Int)/(y:Int)=((v/y:Nat):Int):=by push_cast;rfl
   have e2:(v:Int)%(y:Int)=((v%y:Nat):Int):=by push_cast;rfl
   obtain⟨q,hq⟩:∃q,q=v/y:=⟨_,rfl⟩
   obtain⟨r',hr'⟩:∃r',r'=v%y:=⟨_,rfl⟩
   rw [←hq]at hvq hst3 e1
   rw [←hr']at hvr hst3 e2
   have hc1:=hrow.cell hkL
   have hf1:=hrow.frozen k
   have hrow':=hrow.set_ k q
   have hki:(n:Int)-1-(i:Int)=(k:Int):=by omega
   have hy0:((y:Int)==0)=false:=by rw [beq_eq_false_iff_ne];omega
   have e3:(q:Int)%4294967296=(q:Int):=by omega
   have HST:=Lib.hid hst3
   have HRY:=Lib.hid hvr
   have HKI:=Lib.hid hk
   have hr'32:r'<4294967296:=by omega
   clear hst hst2 hst3 hinv hinv' hvr hv hq hr' hxe hry hk
   go_wp2
   go_roundw
   case rel=>exact⟨i+1,r',_,by omega,by go_num,by rw [e2],hr'32,HRY.out,hrow',hL.set _ hvq,Lib.hid (by simpa using hLl.out),Lib.hid (by rw [show n-(i+1)=k by have:=HKI.out;omega];exact HST.out),hE.setCell hgl _⟩
   case measure=>simp [intOf];omega
  ·have hin:i=n:=by omega
   have hinv':=hinv.out
   rw [hin,Nat.sub_self,List.drop_zero,List.drop_zero]at hinv'
   have hQ:nv L=nv xs/y:=by
    rw [hinv',Nat.add_comm,Nat.add_mul_div_right _ _ hy,Nat.div_eq_of_lt hry.out,Nat.zero_add]
   have hR:r=nv xs%y:=by
    rw [hinv',Nat.add_comm,Nat.add_mul_mod_self_right,Nat.mod_eq_of_lt hry.out]
   have HQ:=Lib.hid hQ
   have HR:=Lib.hid hR
   have hW:=hrow.wds (n:=n) (c:=n) hL hLl.out (Nat.le_refl _) (by unfold maxLen;omega)
   clear hinv hinv' hQ hR hin
   go_wp2_with fail
   refine(ncut_any _ _ _ _ _ hW (by omega)).mono ?_
   rintro e w2 ⟨A2,n2,c2,rfl,hA2,hE2⟩
   go_wp2_with fail
   refine(nsmall_any r _ (by omega)).mono ?_
   rintro e w3 ⟨A3,n3,c3,rfl,hA3,hE3⟩
   rw [HQ.out]at hA2
   rw [HR.out]at hA3
   go_wp2
   go_ret3
   exact⟨_,_,_,_,_,_,rfl,hA2.ext hE3,hA3,(hE.trans hE2).trans hE3⟩
end Go.Proofs.YtngdldcgkaplbaaGreat
namespace Go.Proofs.YtngdldcgkaplbaaGreat.Nm
theorem knu_init {U V C T v1 w:Nat}(hC:0 < C)(hV:v1*C≤V)(hU:U < (T+1)*C)(hv:0 < v1):U/V≤T/v1:=by
 rw [Nat.le_div_iff_mul_le hv]
 have h1:=Nat.div_mul_le_self U V
 have h2:=Nat.mul_le_mul_left (U/V) hV
 rw [←Nat.mul_assoc]at h2
 have h3:U/V*v1*C<(T+1)*C:=by omega
 have:=Nat.lt_of_mul_lt_mul_right h3
 omega
theorem knu_less {U V C a b x:Nat}(hC:0 < C)(hV:a*C≤V)(hU:U < (b+1)*C)(hx:b < x*a)(hq:U / V≤x):U/V≤x-1:=by
 rcases Nat.lt_or_ge (U/V) x with h|h
 ·omega
 ·exfalso
  have he:U/V=x:=by omega
  have h1:=Nat.div_mul_le_self U V
  rw [he]at h1
  have h2:=Nat.mul_le_mul_left x hV
  rw [←Nat.mul_assoc]at h2
  have h3:(b+1)*C≤x*a*C:=Nat.mul_le_mul_right C hx
  omega
theorem knu_stand {U V C a b x B:Nat}(hC:0 < C)(hV:V < (a+1)*C)(hVB:B*C≤V)(hU:b*C≤U)(hx:x*a≤b)(hxB:x < B)(hVp:0 < V):x≤U/V+1:=by
 rcases Nat.eq_zero_or_pos x with h0|h0
 ·rw [h0];exact Nat.zero_le _
 ·have h1:x*V<x*((a+1)*C):=Nat.mul_lt_mul_of_pos_left hV h0
  rw [←Nat.mul_assoc,Nat.mul_add,Nat.mul_one,Nat.add_mul]at h1
  have h2:=Nat.mul_le_mul_right C hx
  have h3:x*C<B*C:=(Nat.mul_lt_mul_right hC).2 hxB
  have h4:(x-1)*V≤U:=by
   rw [Nat.sub_mul,Nat.one_mul];omega
  have h5:=(Nat.le_div_iff_mul_le hVp).2 h4
  exact Nat.sub_le_iff_le_add.1 h5
theorem knu_over {U V C v1 T x rest B:Nat}(hC:0 < C)(hV:V < (v1+1)*C)(hU:T*C≤U)(hT:x*v1+rest=T)(hr:B≤rest)(hx:x≤B)(hVp:0 < V):x≤U/V:=by
 rw [Nat.le_div_iff_mul_le hVp]
 have h1:x*V≤x*((v1+1)*C):=Nat.mul_le_mul_left x (Nat.le_of_lt hV)
 rw [←Nat.mul_assoc,Nat.mul_add,Nat.mul_one]at h1
 have h2:(x*v1+x)*C≤T*C:=Nat.mul_le_mul_right C (by omega)
 omega
theorem nv_near {l:List Nat}(h:Ws l){i:Nat}(hi:i≤l.length):nv (l.drop i)*4294967296^i≤nv l∧nv l<(nv (l.drop i)+1)*4294967296^i:=by
 have e:=nv_take_drop l i hi
 have hb:=nv_lt (h.take i)
 rw [List.length_take,Nat.min_eq_left hi]at hb
 rw [e,Nat.add_mul,Nat.one_mul,Nat.mul_comm (nv (l.drop i))]
 omega
structure DigIn (L0 vs:List Nat)(k n M:Nat):Prop where
 len:L0.length=M
 room:k+n+1≤M
 n2:2≤n
 vlen:vs.length=n
 ws:Ws L0
 wv:Ws vs
 norm:4294967296^n≤2*nv vs
 lt:nv L0<4294967296^(k+1)*nv vs
namespace DigIn
variable {L0 vs:List Nat} {k n M:Nat} (h:DigIn L0 vs k n M)
include h
theorem vpos:0<nv vs:=by have:=h.norm;have:0<4294967296^n:=Nat.pow_pos (by omega);omega
theorem q_lt:nv L0/(4294967296^k*nv vs)<4294967296:=by
 apply Nat.div_lt_of_lt_mul
 have:=h.lt
 rw [Nat.pow_succ]at this
 rw [Nat.mul_right_comm];exact this
theorem lt_pow:nv L0<4294967296^(k+n+1):=by
 have h1:=h.lt
 have h2:=nv_lt h.wv
 rw [h.vlen]at h2
 have h3:=Nat.mul_le_mul_left (4294967296^(k+1)) (Nat.le_of_lt h2)
 rw [←Nat.pow_add]at h3
 rw [show k+n+1=k+1+n by omega]
 omega
theorem high:nv (L0.drop (k+n+1))=0:=by
 rw [←nv_div_pow h.ws (by rw [h.len];exact h.room)]
 exact Nat.div_eq_of_lt h.lt_pow
theorem v1_eq:nv (vs.drop (n-1))=vs.getD (n-1) 0:=by
 have hn:=h.n2
 have hl:=h.vlen
 rw [nv_drop_eq (by omega),show n-1+1=n by omega,List.drop_of_length_le (by omega),nv_nil,getD_of (by omega)];rfl
theorem v2_eq:nv (vs.drop (n-2))=vs.getD (n-1) 0*4294967296+vs.getD (n-2) 0:=by
 have hn:=h.n2
 have hl:=h.vlen
 rw [nv_drop_eq (by omega),show n-2+1=n-1 by omega,h.v1_eq,getD_of (by omega),Nat.mul_comm,Nat.add_comm]
theorem t_eq:nv (L0.drop (k+n-1))=L0.getD (k+n) 0*4294967296+L0.getD (k+n-1) 0:=by
 have hn:=h.n2
 have hl:=h.len
 have hr:=h.room
 rw [nv_drop_eq (by omega),show k+n-1+1=k+n by omega,nv_drop_eq (by omega),h.high,getD_of (by omega),getD_of (by omega),Nat.mul_zero,Nat.add_zero,Nat.mul_comm,Nat.add_comm]
theorem u2_eq:nv (L0.drop (k+n-2))=(L0.getD (k+n) 0*4294967296+L0.getD (k+n-1) 0)*4294967296+L0.getD (k+n-2) 0:=by
 have hn:=h.n2
 have hl:=h.len
 have hr:=h.room
 rw [nv_drop_eq (by omega),show k+n-2+1=k+n-1 by omega,h.t_eq,getD_of (by omega)]
 rw [Nat.mul_comm 4294967296,Nat.add_comm]
theorem vnear {i:Nat}(hi:i≤n):nv (vs.drop i)*4294967296^(k+i)≤4294967296^k*nv vs∧4294967296^k*nv vs<(nv (vs.drop i)+1)*4294967296^(k+i):=by
 obtain⟨h1,h2⟩:=nv_near h.wv (i:=i) (by rw [h.vlen];exact hi)
 have hp:0<4294967296^k:=Nat.pow_pos (by omega)
 constructor
 ·have:=Nat.mul_le_mul_left (4294967296^k) h1
  rw [Nat.pow_add]
  rw [Nat.mul_left_comm]at this
  exact this
 ·have:=Nat.mul_lt_mul_of_pos_left h2 hp
  rw [Nat.pow_add]
  rw [Nat.mul_left_comm]at this
  exact this
theorem v1_big:2147483648≤vs.getD (n-1) 0:=by
 have hn:=h.n2
 have h1:=h.norm
 obtain⟨_,h2⟩:=nv_near h.wv (i:=n-1) (by rw [h.vlen];omega)
 rw [h.v1_eq]at h2
 have e:4294967296^n=4294967296*4294967296^(n-1):=by
  rw [show n=n-1+1 by omega,Nat.pow_succ,Nat.mul_comm];rfl
 rw [e]at h1
 have h3:4294967296*4294967296^(n-1)<(2*(vs.getD (n-1) 0+1))*4294967296^(n-1):=by
  rw [Nat.mul_assoc];omega
 have:=Nat.lt_of_mul_lt_mul_right h3
 omega
theorem v1_lt:vs.getD (n-1) 0<4294967296:=by
 have hn:=h.n2
 rw [←getD_of (by rw [h.vlen];omega)]
 exact h.wv.get _
theorem un_le:L0.getD (k+n) 0≤vs.getD (n-1) 0:=by
 have hn:=h.n2
 obtain⟨_,h2⟩:=h.vnear (i:=n-1) (by omega)
 rw [h.v1_eq]at h2
 have h1:=h.lt
 obtain⟨h3,_⟩:=nv_near h.ws (i:=k+n) (by have:=h.len;have:=h.room;omega)
 have e:nv (L0.drop (k+n))=L0.getD (k+n) 0:=by
  have hl:=h.len
  have hr:=h.room
  rw [nv_drop_eq (by omega),h.high,getD_of (by omega),Nat.mul_zero,Nat.add_zero]
 rw [e]at h3
 have h4:4294967296^(k+1)*nv vs<(vs.getD (n-1) 0+1)*4294967296^(k+n):=by
  have:=Nat.mul_lt_mul_of_pos_left h2 (show 0<4294967296 by omega)
  rw [←Nat.mul_assoc,←Nat.mul_assoc,Nat.mul_comm 4294967296 (4294967296^k),←Nat.pow_succ,Nat.mul_comm 4294967296 (vs.getD (n-1) 0+1),Nat.mul_assoc,Nat.mul_comm 4294967296 (4294967296^(k+(n-1))),←Nat.pow_succ,show(k+(n-1)).succ=k+n by omega]at this
  exact this
 have h5:L0.getD (k+n) 0*4294967296^(k+n)<(vs.getD (n-1) 0+1)*4294967296^(k+n):=by omega
 have:=Nat.lt_of_mul_lt_mul_right h5
 omega
theorem un1_lt:L0.getD (k+n-1) 0<4294967296:=by
 have hn:=h.n2
 have hl:=h.len
 have hr:=h.room
 rw [←getD_of (by omega)]
 exact h.ws.get _
omit h in
theorem cpos (c:Nat):0<4294967296^c:=Nat.pow_pos (by omega)
theorem start {T v1:Nat}(hT:T=L0.getD (k+n) 0*4294967296+L0.getD (k+n - 1) 0)(hv:v1=vs.getD (n - 1) 0):nv L0/(4294967296^k*nv vs)≤T/v1∧T/v1≤4294967297:=by
 have hn:=h.n2
 obtain⟨h1,_⟩:=h.vnear (i:=n-1) (by omega)
 rw [h.v1_eq,←hv]at h1
 obtain⟨_,h2⟩:=nv_near h.ws (i:=k+n-1) (by have:=h.len;have:=h.room;omega)
 rw [h.t_eq,←hT,show k+n-1=k+(n-1) by omega]at h2
 have hb:=h.v1_big
 have hu:=h.un_le
 have hu1:=h.un1_lt
 rw [←hv]at hb hu
 refine⟨knu_init (w:=0) (DigIn.cpos (k+(n-1))) h1 h2 (by omega),?_⟩
 have:T/v1<4294967298:=by
  rw [Nat.div_lt_iff_lt_mul (by omega)]
  omega
 omega
theorem less {T v1 v2 u2 x rest:Nat}(hT:T=L0.getD (k+n) 0*4294967296+L0.getD (k+n - 1) 0)(hv:v1=vs.getD (n - 1) 0)(hv2:v2=vs.getD (n - 2) 0)(hu2:u2=L0.getD (k+n - 2) 0)
  (hx:x*v1+rest=T) (hq:nv L0/(4294967296^k*nv vs)≤x) (hc:4294967296≤x∨rest*4294967296+u2<x*v2):nv L0/(4294967296^k*nv vs)≤x-1∧1≤x:=by
 rcases hc with hc|hc
 ·have:=h.q_lt
  exact⟨by omega,by omega⟩
 ·have hn:=h.n2
  obtain⟨h1,_⟩:=h.vnear (i:=n-2) (by omega)
  rw [h.v2_eq,←hv,←hv2]at h1
  obtain⟨_,h2⟩:=nv_near h.ws (i:=k+n-2) (by have:=h.len;have:=h.room;omega)
  rw [h.u2_eq,←hT,←hu2,show k+n-2=k+(n-2) by omega]at h2
  refine⟨knu_less (DigIn.cpos (k+(n-2))) h1 h2 ?_ hq,?_⟩
  ·rw [←hx,Nat.add_mul,Nat.mul_add,←Nat.mul_assoc,Nat.add_assoc]
   exact Nat.add_lt_add_left hc _
  ·rcases Nat.eq_zero_or_pos x with e|e
   ·rw [e,Nat.zero_mul]at hc;omega
   ·exact e
theorem stop {T v1 v2 u2 x rest:Nat}(hT:T=L0.getD (k+n) 0*4294967296+L0.getD (k+n - 1) 0)(hv:v1=vs.getD (n - 1) 0)(hv2:v2=vs.getD (n - 2) 0)(hu2:u2=L0.getD (k+n - 2) 0)
  (hx:x*v1+rest=T) (hq:nv L0/(4294967296^k*nv vs)≤x) (hx1:x≤4294967297) (hc:4294967296≤rest∨(x<4294967296∧x*v2≤rest*4294967296+u2)):x<4294967296∧x≤nv L0/(4294967296^k*nv vs)+1:=by
 have hn:=h.n2
 have hVp:0<4294967296^k*nv vs:=Nat.mul_pos (DigIn.cpos k) h.vpos
 have hql:=h.q_lt
 rcases hc with hc|⟨hc1,hc2⟩
 ·obtain⟨_,h1⟩:=h.vnear (i:=n-1) (by omega)
  rw [h.v1_eq,←hv]at h1
  obtain⟨h2,_⟩:=nv_near h.ws (i:=k+n-1) (by have:=h.len;have:=h.room;omega)
  rw [h.t_eq,←hT,show k+n-1=k+(n-1) by omega]at h2
  have hb:=h.v1_big
  have hu:=h.un_le
  have hu1:=h.un1_lt
  rw [←hv]at hb hu
  have hx0:x≤4294967296:=by
   rcases Nat.lt_or_ge 4294967296 x with e|e
   ·exfalso
    have e2:4294967297*v1≤x*v1:=Nat.mul_le_mul_right _ e
    have e3:L0.getD (k+n) 0*4294967296≤v1*4294967296:=Nat.mul_le_mul_right _ hu
    omega
   ·exact e
  have:=knu_over (DigIn.cpos (k+(n-1))) h1 h2 hx hc hx0 hVp
  omega
 ·obtain⟨_,h1⟩:=h.vnear (i:=n-2) (by omega)
  rw [h.v2_eq,←hv,←hv2]at h1
  obtain⟨h2,_⟩:=nv_near h.ws (i:=k+n-2) (by have:=h.len;have:=h.room;omega)
  rw [h.u2_eq,←hT,←hu2,show k+n-2=k+(n-2) by omega]at h2
  obtain⟨h3,_⟩:=h.vnear (i:=n-1) (by omega)
  rw [h.v1_eq,←hv]at h3
  have hb:=h.v1_big
  rw [←hv]at hb
  have h4:4294967296*4294967296^(k+(n-2))≤4294967296^k*nv vs:=by
   have e:4294967296*4294967296^(k+(n-2))=4294967296^(k+(n-1)):=by
    rw [show k+(n-1)=k+(n-2)+1 by omega,Nat.pow_succ,Nat.mul_comm]
   rw [e]
   have:1*4294967296^(k+(n-1))≤v1*4294967296^(k+(n-1)):=Nat.mul_le_mul_right _ (by omega)
   omega
  refine⟨hc1,knu_stand (B:=4294967296) (DigIn.cpos (k+(n-2))) h1 h4 h2 ?_ hc1 hVp⟩
  rw [←hx,Nat.add_mul,Nat.mul_add,←Nat.mul_assoc]
  omega
end DigIn
structure TakeRel (L0 vs:List Nat)(k n M x:Nat)(L:List Nat)(i cb:Nat):Prop where
 len:L.length=M
 ws:Ws L
 val:nv L+4294967296^k*(x*nv (vs.take i))=nv L0+4294967296^(k+i)*cb
 high:nv (L.drop (k+n+1))=0
theorem TakeRel.zero {L0 vs:List Nat}{k n M x:Nat}(h:DigIn L0 vs k n M):TakeRel L0 vs k n M x L0 0 0:=⟨h.len,h.ws,by simp [nv],h.high⟩
theorem word_sub {u s u' hi:Nat}(hu:u < 4294967296)(hs:s≤4294967296)(hu':u'=(u+4294967296 - s) % 4294967296)(hhi:hi=if u < s then 1 else 0):u'+s=u+4294967296*hi∧u'<4294967296:=by
 by_cases e:u<s
 ·rw [if_pos e]at hhi;subst hhi;omega
 ·rw [if_neg e]at hhi;subst hhi;omega
theorem TakeRel.step {L0 vs L:List Nat}{k n M x i carry br y u t lo cr u' hi:Nat}(h:TakeRel L0 vs k n M x L i (carry+br))(d:DigIn L0 vs k n M)(hi0:i < n)(hy:y=vs.getD i 0)(hu:u=L.getD (k+i) 0)
  (hbr:br≤1) (ht:t=carry+x*y) (hlo:lo=t%4294967296) (hcr:cr=t/4294967296) (hu':u'=(u+4294967296-(lo+br))%4294967296) (hhi:hi=if u<lo+br then 1 else 0):
  TakeRel L0 vs k n M x (L.set (k+i) u') (i+1) (cr+hi):=by
 have hr:=d.room
 have hlen:=h.len
 have hu32:u<4294967296:=by rw [hu,←getD_of (by omega)];exact h.ws.get _
 obtain⟨e1,e2⟩:=word_sub hu32 (by omega) hu' hhi
 refine⟨by simpa using hlen,h.ws.set _ e2,?_,?_⟩
 ·have e3:=nv_set (l:=L) (k:=k+i) (by omega) u'
  rw [getD_of (by omega),←hu]at e3
  rw [nv_take_getD,←hy]
  have hv:=h.val
  have e4:x*y+carry+br+u'=u+4294967296*(cr+hi):=by omega
  have e5:=congrArg (4294967296^(k+i)*·) e4
  rw [show k+(i+1)=k+i+1 by omega,Nat.pow_succ,Nat.mul_assoc]
  have e6:4294967296^k*(x*(nv (vs.take i)+4294967296^i*y))=4294967296^k*(x*nv (vs.take i))+4294967296^(k+i)*(x*y):=by
   rw [Nat.mul_add,Nat.mul_add,Nat.pow_add,Nat.mul_left_comm x,Nat.mul_assoc]
  rw [e6]
  simp only [Nat.mul_add]at e5 hv ⊢
  omega
 ·rw [List.drop_set_of_lt (by omega)];exact h.high
theorem TakeRel.last {L0 vs L:List Nat}{k n M x carry br u u' hi:Nat}(h:TakeRel L0 vs k n M x L n (carry+br))(d:DigIn L0 vs k n M)(hu:u=L.getD (k+n) 0)(hc:carry < 4294967296)(hbr:br≤1)
  (hu':u'=(u+4294967296-(carry+br))%4294967296) (hhi:hi=if u<carry+br then 1 else 0):
  (L.set (k+n) u').length=M∧Ws (L.set (k+n) u')∧nv (L.set (k+n) u')+x*(4294967296^k*nv vs)=nv L0+4294967296^(k+n+1)*hi∧nv ((L.set (k+n) u').drop (k+n+1))=0∧u'<4294967296:=by
 have hr:=d.room
 have hlen:=h.len
 have hu32:u<4294967296:=by rw [hu,←getD_of (by omega)];exact h.ws.get _
 obtain⟨e1,e2⟩:=word_sub hu32 (by omega) hu' hhi
 refine⟨by simpa using hlen,h.ws.set _ e2,?_,?_,e2⟩
 ·have e3:=nv_set (l:=L) (k:=k+n) (by omega) u'
  rw [getD_of (by omega),←hu]at e3
  have hv:=h.val
  rw [List.take_of_length_le (by rw [d.vlen];exact Nat.le_refl _)]at hv
  have e5:=congrArg (4294967296^(k+n)*·) e1
  rw [Nat.pow_succ,Nat.mul_assoc,Nat.mul_left_comm x]
  simp only [Nat.mul_add]at e5 hv ⊢
  omega
 ·rw [List.drop_set_of_lt (by omega)];exact h.high
theorem pow_of_high {L:List Nat}{j:Nat}(hw:Ws L)(h:nv (L.drop j)=0)(hj:j≤L.length):nv L<4294967296^j:=by
 have:=(nv_near hw hj).2
 rw [h]at this
 omega
theorem dig_fits {L0 vs L:List Nat}{k n M x:Nat}(d:DigIn L0 vs k n M)(hq:nv L0 / (4294967296^k*nv vs)≤x)(hv:nv L+x*(4294967296^k*nv vs)=nv L0+4294967296^(k+n+1)*0) :
  x=nv L0/(4294967296^k*nv vs)∧nv L+nv L0/(4294967296^k*nv vs)*(4294967296^k*nv vs)=nv L0:=by
 have hVp:0<4294967296^k*nv vs:=Nat.mul_pos (DigIn.cpos k) d.vpos
 rw [Nat.mul_zero,Nat.add_zero]at hv
 have h1:x≤nv L0/(4294967296^k*nv vs):=by rw [Nat.le_div_iff_mul_le hVp];omega
 have e:x=nv L0/(4294967296^k*nv vs):=by omega
 rw [←e]
 exact⟨rfl,by omega⟩
theorem dig_over {L0 vs L:List Nat}{k n M x:Nat}(d:DigIn L0 vs k n M)(hx:x≤nv L0 / (4294967296^k*nv vs)+1)(hv:nv L+x*(4294967296^k*nv vs)=nv L0+4294967296^(k+n+1)*1)(hw:Ws L)(hl:L.length=M)(hh:nv (L.drop (k+n+1))=0) :
  x=nv L0/(4294967296^k*nv vs)+1:=by
 have hVp:0<4294967296^k*nv vs:=Nat.mul_pos (DigIn.cpos k) d.vpos
 have hb:=pow_of_high hw hh (by rw [hl];exact d.room)
 have:nv L0/(4294967296^k*nv vs)<x:=by rw [Nat.div_lt_iff_lt_mul hVp];omega
 omega
structure GiveRel (L1 vs:List Nat)(k n M:Nat)(L:List Nat)(i c:Nat):Prop where
 len:L.length=M
 ws:Ws L
 val:nv L+4294967296^(k+i)*c=nv L1+4294967296^k*nv (vs.take i)
 high:nv (L.drop (k+n+1))=0
theorem GiveRel.step {L1 vs L:List Nat}{k n M i c y u lo hi:Nat}(h:GiveRel L1 vs k n M L i c)(hr:k+n+1≤M)(hi0:i < n)(hy:y=vs.getD i 0)(hu:u=L.getD (k+i) 0)
  (hlo:lo=(u+y+c)%4294967296) (hhi:hi=(u+y+c)/4294967296):GiveRel L1 vs k n M (L.set (k+i) lo) (i+1) hi:=by
 have hlen:=h.len
 have e2:lo<4294967296:=by omega
 refine⟨by simpa using hlen,h.ws.set _ e2,?_,?_⟩
 ·have e3:=nv_set (l:=L) (k:=k+i) (by omega) lo
  rw [getD_of (by omega),←hu]at e3
  rw [nv_take_getD,←hy]
  have hv:=h.val
  have e4:lo+4294967296*hi=u+y+c:=by omega
  have e5:=congrArg (4294967296^(k+i)*·) e4
  rw [show k+(i+1)=k+i+1 by omega,Nat.pow_succ,Nat.mul_assoc]
  have e6:4294967296^k*(nv (vs.take i)+4294967296^i*y)=4294967296^k*nv (vs.take i)+4294967296^(k+i)*y:=by
   rw [Nat.mul_add,Nat.pow_add,Nat.mul_assoc]
  rw [e6]
  simp only [Nat.mul_add]at e5 hv ⊢
  omega
 ·rw [List.drop_set_of_lt (by omega)];exact h.high
theorem GiveRel.last {L0 L1 vs L:List Nat}{k n M c u lo:Nat}(h:GiveRel L1 vs k n M L n c)(d:DigIn L0 vs k n M)(hu:u=L.getD (k+n) 0)(hc:c≤1)(hlo:lo=(u+c) % 4294967296)
  (hv1:nv L1+(nv L0/(4294967296^k*nv vs)+1)*(4294967296^k*nv vs)=nv L0+4294967296^(k+n+1)*1):
  (L.set (k+n) lo).length=M∧Ws (L.set (k+n) lo)∧nv (L.set (k+n) lo)+nv L0/(4294967296^k*nv vs)*(4294967296^k*nv vs)=nv L0:=by
 have hr:=d.room
 have hlen:=h.len
 have e2:lo<4294967296:=by omega
 have hw:Ws (L.set (k+n) lo):=h.ws.set _ e2
 have hl:(L.set (k+n) lo).length=M:=by simpa using hlen
 refine⟨hl,hw,?_⟩
 obtain⟨o,ho⟩:∃o,o=(u+c)/4294967296:=⟨_,rfl⟩
 have hu32:u<4294967296:=by rw [hu,←getD_of (by omega)];exact h.ws.get _
 have ho1:o≤1:=by omega
 have e3:=nv_set (l:=L) (k:=k+n) (by omega) lo
 rw [getD_of (by omega),←hu]at e3
 have hv:=h.val
 rw [List.take_of_length_le (by rw [d.vlen];exact Nat.le_refl _)]at hv
 have e4:lo+4294967296*o=u+c:=by omega
 have e5:=congrArg (4294967296^(k+n)*·) e4
 have hb:=pow_of_high (j:=k+n+1) hw (by rw [List.drop_set_of_lt (by omega)];exact h.high) (by omega)
 have hq:=Nat.div_mul_le_self (nv L0) (4294967296^k*nv vs)
 generalize nv L0/(4294967296^k*nv vs)=q at *
 generalize 4294967296^k*nv vs=V at *
 rw [Nat.add_mul,Nat.one_mul]at hv1
 generalize q*V=qV at *
 rw [Nat.pow_succ]at hb hv1
 generalize 4294967296^(k+n)=C at *
 have:o=0∨o=1:=by omega
 rcases this with e|e
 ·subst e
  simp only [Nat.mul_add]at e5
  omega
 ·subst e
  simp only [Nat.mul_add]at e5
  omega
structure QuoRel (T V n K:Nat)(U q:List Nat)(r:Nat):Prop where
 ulen:U.length=K+n
 uws:Ws U
 qlen:q.length=K
 qws:Ws q
 val:nv U+nv (q.drop r)*(4294967296^r*V)=T
 lt:nv U<4294967296^r*V
theorem QuoRel.start {a b s n la K:Nat}{U:List Nat}(hla:a < 4294967296^la)(hb:4294967296^(n - 1)≤b)(hK:K+n=la+1)(hn:1≤n)(hl:U.length=K+n)(hw:Ws U)(hU:nv U=a*2^s) :
  QuoRel (a*2^s) (b*2^s) n K U (List.replicate K 0) K:=by
 have hs:0<2^s:=Nat.pow_pos (by omega)
 refine⟨hl,hw,by simp,Ws.replicate _ (by omega),?_,?_⟩
 ·rw [List.drop_of_length_le (by simp),nv_nil,Nat.zero_mul,Nat.add_zero,hU]
 ·rw [hU,←Nat.mul_assoc]
  refine(Nat.mul_lt_mul_right hs).2 ?_
  have h1:4294967296^K*4294967296^(n-1)≤4294967296^K*b:=Nat.mul_le_mul_left _ hb
  rw [←Nat.pow_add,show K+(n-1)=la by omega]at h1
  omega
theorem QuoRel.dig {T V n K r:Nat}{U q vs:List Nat}(h:QuoRel T V n K U q (r+1))(hr:r+1≤K)(hn:2≤n)(hv:nv vs=V)(hvl:vs.length=n)(hvw:Ws vs)(hN:4294967296^n≤2*nv vs):DigIn U vs r n (K+n):=
 ⟨h.ulen,by omega,hn,hvl,h.uws,hvw,hN,by rw [hv];exact h.lt⟩
theorem QuoRel.step {T V n K r x:Nat}{U U' q:List Nat}(h:QuoRel T V n K U q (r+1))(hr:r+1≤K)(hV:0 < V)(hx:x=nv U / (4294967296^r*V))(hx32:x < 4294967296)(hl:U'.length=K+n)(hw:Ws U')
  (hU:nv U'+nv U/(4294967296^r*V)*(4294967296^r*V)=nv U):QuoRel T V n K U' (q.set r x) r:=by
 have hp:0<4294967296^r*V:=Nat.mul_pos (Nat.pow_pos (by omega)) hV
 refine⟨hl,hw,by simpa using h.qlen,h.qws.set _ hx32,?_,?_⟩
 ·rw [nv_drop_set_self (by rw [h.qlen];omega),←h.val,←hU,←hx,Nat.add_mul,Nat.add_assoc]
  congr 1
  congr 1
  rw [Nat.pow_succ]
  simp only [Nat.mul_assoc,Nat.mul_comm,Nat.mul_left_comm]
 ·have:=Nat.mod_lt (nv U) hp
  have h2:=Nat.div_add_mod (nv U) (4294967296^r*V)
  rw [Nat.mul_comm]at h2
  omega
theorem QuoRel.end_ {a b s n K:Nat}{U q:List Nat}(h:QuoRel (a*2^s) (b*2^s) n K U q 0)(hb:0 < b):nv q=a/b∧nv U=a%b*2^s:=by
 have hs:0<2^s:=Nat.pow_pos (by omega)
 have hV:0<b*2^s:=Nat.mul_pos hb hs
 have h1:=h.val
 have h2:=h.lt
 rw [List.drop_zero,Nat.pow_zero,Nat.one_mul]at h1
 rw [Nat.pow_zero,Nat.one_mul]at h2
 constructor
 ·rw [←Nat.mul_div_mul_right a b hs,←h1,Nat.mul_comm (nv q),Nat.add_mul_div_left _ _ hV,Nat.div_eq_of_lt h2,Nat.zero_add]
 ·rw [←Nat.mul_mod_mul_right,←h1,Nat.mul_comm (nv q),Nat.add_mul_mod_self_left,Nat.mod_eq_of_lt h2]
end Go.Proofs.YtngdldcgkaplbaaGreat.Nm