import Derived.Test.YtngdldcgkaplbaaGreatK07
import Derived.Deep.CutBlock
set_option linter.unusedVariables false
set_option linter.unusedSimpArgs false
set_option maxHeartbeats 40000000
set_option maxRecDepth 100000
namespace Go.Proofs.YtngdldcgkaplbaaGreat
open Go.RowKit Nm
theorem word_or4 (a b:Nat)(ha:a < 4294967296)(hb:b < 4294967296):bits .or .u64 ((a:Int)*4294967296) (b:Int)=((b+4294967296*a:Nat):Int):=by
 have e:(a:Int)*4294967296=((a*4294967296:Nat):Int):=by omega
 rw [e,u64_or_nat _ _ (by omega) (by omega),nat_join 32 _ _ (by omega) (by omega)]
 omega
theorem word_or2 (a b:Nat)(ha:a < 4294967296)(hb:b < 4294967296):bits .or .u64 (a:Int) ((b:Int)*4294967296)=((a+4294967296*b:Nat):Int):=by
 have e:(b:Int)*4294967296=((b*4294967296:Nat):Int):=by omega
 rw [e,u64_or_nat _ _ (by omega) (by omega),Nat.or_comm,nat_join 32 _ _ (by omega) (by omega)]
 omega
structure BackRel (L0 L:List Nat)(s m i:Nat):Prop where
 len:L.length=m
 ws:Ws L
 val:nv (L.take i)=nv L0/2^s%4294967296^i
 same:∀k,(hk:k<L.length)→i≤k→L[k]=L0.getD k 0
theorem BackRel.step {L0 L:List Nat}{s m i lo:Nat}(h:BackRel L0 L s m i)(h0:Ws L0)(hm:L0.length=m)(hi:i < m)(hs:s < 32)(hlo:lo=(L0.getD i 0+4294967296*L0.getD (i+1) 0) / 2^s % 4294967296):BackRel L0 (L.set i lo) s m (i+1):=by
 have hlen:=h.len
 have hlo32:lo<4294967296:=by rw [hlo];exact Nat.mod_lt _ (by omega)
 refine⟨by simpa using hlen,h.ws.set _ hlo32,?_,fun k hk hle=>?_⟩
 ·have h1:=right_word h0 (D:=0) (S:=s) (i:=i) (by omega) (by omega) hs
  simp only [Nat.mul_zero,Nat.zero_add,Nat.sub_zero]at h1
  rw [getD_of (l:=L0) (k:=i) (by omega)]at h1
  rw [nv_take_succ (l:=L.set i lo) (by simp;omega),take_set_self,List.getElem_set_self,h.val,Nat.mod_pow_succ,h1,←hlo]
 ·rw [List.getElem_set_ne (by omega)]
  simp at hk
  exact h.same k hk (by omega)
theorem nback_any (g m c:Nat)(L0:List Nat)(s:Nat)(w0 w:World)(hrow:Row w g L0)(hL0:Ws L0)(hlen:L0.length=m)(hm:m≤17592186044416)(hmc:m≤c)(hcm:c≤maxLen)(hs:s < 32)(hE:Ext w0 w)(hg:w0.heap.size≤g) :
  Calls Tryz.prog 169 #[.slice (some ⟨g,0,none⟩) m c,.int .i64 (s:Int)] w (RetW (nv L0/2^s) w0):=by
 go_enter Tryz.func169,Tryz.ntmps169
 go_wp2
 go_loopw [9] (fun iv wr=>∃(i:Nat) (L:List Nat),i≤m∧iv=.int .i64 i∧Row wr g L∧BackRel L0 L s m i∧Ext w0 wr) (fun iv _=>m-(intOf iv).toNat)
 case atStart=>exact⟨0,L0,Nat.zero_le _,rfl,hrow,⟨hlen,hL0,by simp [nv,Nat.mod_one],fun k hk _=>getD_of hk⟩,hE⟩
 case round=>
  obtain⟨i,L,hi,rfl,hr,hrel,hEr⟩:=hrel
  have hLl:=hrel.len
  by_cases hlt:i<m
  ·have hiL:i<L.length:=by omega
   have hc1:=hr.cell hiL
   have hf1:=hr.frozen i
   have ha32:=hrel.ws.get hiL
   have haE:=hrel.same i hiL (Nat.le_refl _)
   obtain⟨a,ha⟩:∃a,a=L[i]:=⟨_,rfl⟩
   rw [←ha]at hc1 ha32 haE
   by_cases h2:i+1<m
   ·have hiL2:i+1<L.length:=by omega
    have hc2:=hr.cell hiL2
    have hb32:=hrel.ws.get hiL2
    have hbE:=hrel.same (i+1) hiL2 (by omega)
    obtain⟨b,hb⟩:∃b,b=L[i+1]:=⟨_,rfl⟩
    rw [←hb]at hc2 hb32 hbE
    have hor:=word_or2 a b ha32 hb32
    have hst:=fun lo=>hrel.step (lo:=lo) hL0 hlen hlt hs
    rw [←haE,←hbE]at hst
    obtain⟨X,hX⟩:∃X,X=a+4294967296*b:=⟨_,rfl⟩
    rw [←hX]at hor hst
    have hX64:X<18446744073709551616:=by omega
    have hXd:X/2^s≤X:=Nat.div_le_self _ _
    have e1:(X:Int)/2^s=((X/2^s:Nat):Int):=by push_cast;rfl
    obtain⟨Y,hY⟩:∃Y,Y=X/2^s:=⟨_,rfl⟩
    rw [←hY]at e1 hst hXd
    have e2:(Y:Int)%4294967296=((Y%4294967296:Nat):Int):=by omega
    obtain⟨lo,hlo⟩:∃lo,lo=Y%4294967296:=⟨_,rfl⟩
    rw [←hlo]at e2 hst
    have hst':=hst lo rfl
    have HST:=Lib.hid hst'
    have hr':=hr.set_ i lo
    have hLl':=Lib.hid hLl
    clear hst hst' hlo hY hX ha hb haE hbE hrel hLl
    go_wp2
    go_roundw
    case rel=>exact⟨i+1,_,by omega,by go_num,hr',HST.out,hEr.setCell hg _⟩
    case measure=>simp [intOf];omega
   ·have hie:i+1=m:=by omega
    have hst:=fun lo=>hrel.step (lo:=lo) hL0 hlen hlt hs
    rw [←haE,←getD_out (l:=L0) (k:=i+1) (by omega),Nat.mul_zero,Nat.add_zero]at hst
    have hXd:a/2^s≤a:=Nat.div_le_self _ _
    have e1:(a:Int)/2^s=((a/2^s:Nat):Int):=by push_cast;rfl
    obtain⟨Y,hY⟩:∃Y,Y=a/2^s:=⟨_,rfl⟩
    rw [←hY]at e1 hst hXd
    have e2:(Y:Int)%4294967296=(Y:Int):=by omega
    have hst':=hst Y (by omega)
    have HST:=Lib.hid hst'
    have hr':=hr.set_ i Y
    have hLl':=Lib.hid hLl
    clear hst hst' hY ha haE hrel hLl hie
    go_wp2
    go_roundw
    case rel=>exact⟨i+1,_,by omega,by go_num,hr',HST.out,hEr.setCell hg _⟩
    case measure=>simp [intOf];omega
  ·have hval:=hrel.val
   rw [List.take_of_length_le (by omega)]at hval
   have h1:=nv_lt hL0
   rw [hlen]at h1
   rw [Nat.mod_eq_of_lt (by rw [show i=m by omega];exact Nat.lt_of_le_of_lt (Nat.div_le_self _ _) h1)]at hval
   have HV:=Lib.hid hval
   have hW:=hr.wds hrel.ws hLl hmc hcm
   clear hval h1 hrel hLl
   go_wp2_with fail
   refine(ncut_any _ _ _ _ _ hW (by omega)).mono ?_
   rintro e w4 ⟨A4,n4,c4,rfl,hR,hE4⟩
   rw [HV.out]at hR
   go_wp2
   go_ret
   exact⟨_,_,_,rfl,hR,hEr.trans hE4⟩
theorem Wds.from_ {w:World}{ad:Addr}{n c k:Nat}{xs:List Nat}(h:Wds w (some ad) n c xs)(hk:k≤n):Wds w (some (ad.add k)) (n-k) (c-k) (xs.drop k):=by
 have hl:=h.len
 have hlc:=h.lec
 have hcm:=h.cmax
 refine⟨by rw [List.length_drop];omega,by omega,by omega,h.ws.drop k,fun h0=>?_⟩
 obtain⟨ad',e,hlt,hc⟩:=h.2.2.2.2 (by omega)
 injection e with e
 subst e
 refine⟨_,rfl,by rw [block_of_add];exact hlt,fun j x hj=>?_⟩
 rw [List.getElem?_drop]at hj
 rw [add_of_add]
 exact hc (k+j) x hj
theorem and_low32 (x S:Nat)(hx:x < 4294967296)(hS:S < 32):bits .and .u32 (x:Int) ((2^S:Int)-1)=((x%2^S:Nat):Int):=by
 have h1:2^S≤2147483648:=Nat.pow_le_pow_right (n:=2) (by omega) (show S≤31 by omega)
 have hp:0<2^S:=Nat.two_pow_pos S
 have e:((2:Int)^S-1)=((2^S-1:Nat):Int):=by
  have:((2^S:Nat):Int)=(2:Int)^S:=by push_cast;rfl
  omega
 rw [e,u32_and_nat _ _ hx (by omega),Nat.and_two_pow_sub_one_eq_mod]
theorem ndown_any (A:Option Addr)(n c:Nat)(xs:List Nat)(s:Nat)(w:World)(h:Wds w A n c xs)(hn:n≤17592186044416)(hs:s≤4611686018427387904) :
  Calls Tryz.prog 125 #[.slice A n c,.int .i64 (s:Int)] w (RetWB (nv xs/2^s) (lostB (nv xs) s) w):=by
 have hnw:=nwords_any A n c xs w h (by omega)
 have hpre:=h.pre
 have hle:nw (nv xs)≤n:=by have:=nw_nv_le h.ws;have:=h.len;omega
 have hlec:=h.lec
 obtain⟨V,hV⟩:∃V,V=nv xs:=⟨_,rfl⟩
 rw [←hV]at hnw hpre hle ⊢
 have hvn:=nv_nd V
 obtain⟨D,S,hS,hsD⟩:∃D S,S<32∧s=32*D+S:=⟨s/32,s%32,Nat.mod_lt _ (by omega),by omega⟩
 have hq:(s:Int)/32=(D:Int):=by omega
 have hr:(s:Int)%32=(S:Int):=by omega
 obtain⟨m,hm⟩:∃m,m=nw V:=⟨_,rfl⟩
 have hlt:=lt_pow_nw V
 rw [←hm]at hnw hle hpre hlt
 have HN:=Lib.hid hnw
 have HD:=Lib.hid hsD
 have HM:=Lib.hid hm
 have HLT:=Lib.hid hlt
 clear hnw hsD h hV hlt
 by_cases hge:m≤D
 ·have h1:Hid (nd (V/2^s)=[]):=Lib.hid (by
   rw [HD.out,Nat.pow_add,←pow32,←Nat.div_div_eq_div_mul,Nat.div_eq_of_lt (Nat.lt_of_lt_of_le HLT.out (Nat.pow_le_pow_right (by omega) hge)),Nat.zero_div,nd_zero])
  have h2:Hid (decide (0<m)=lostB V s):=Lib.hid (by
   have hVs:V<2^s:=by
    rw [HD.out,Nat.pow_add,←pow32]
    exact Nat.lt_of_lt_of_le HLT.out (Nat.le_trans (Nat.pow_le_pow_right (by omega) hge) (Nat.le_mul_of_pos_right _ (Nat.two_pow_pos S)))
   unfold lostB
   rw [Nat.mod_eq_of_lt hVs,HM.out]
   refine decide_eq_decide.2 ⟨fun h hh=>by rw [hh,nw_zero]at h;omega,fun h=>?_⟩
   rcases Nat.eq_zero_or_pos (nw V)with e|e
   ·exact absurd (nw_eq_zero.1 e) h
   ·exact e)
  clear hvn hm hpre
  cases A
  all_goals
   go_enter Tryz.func125,Tryz.ntmps125
   go_wp2
   go_step3
   go_wp2_with (go_at_call 122;refine HN.out.mono ?_;rintro e w' ⟨rfl,rfl⟩)
   rw [Exit.noGoto_ret]
   go_ret2
   exact⟨none,0,0,by rw [h2.out];rfl,by rw [h1.out];exact Wds.nil_ (by unfold maxLen;omega),Ext.refl _⟩
 ·have hlt:D<m:=by omega
  clear hge
  obtain⟨ad,hx,rfl,hbl,hc⟩:=hpre.at_ hlt
  have hX32:=hpre.ws.get hx
  have hcz:=fun(i:Nat) (hi:i<D)=>hpre.at_ (k:=i) (show i<m by omega)
  have hlo:Hid (lostB V s=true↔nv ((nd V).take D)≠0∨(nd V)[D]%2^S≠0):=Lib.hid (by
   have:=right_mod hpre.ws hx hS
   rw [hvn,←HD.out]at this
   unfold lostB
   rw [decide_eq_true_iff]
   exact this)
  have hdr:Hid (nv ((nd V).drop D)=V/4294967296^D):=Lib.hid (by
   have:=nv_div_pow hpre.ws (k:=D) (by omega)
   rw [hvn]at this
   exact this.symm)
  have hfrom:=hpre.from_ (k:=D) (by omega)
  have hval:Hid (V/2^s=V/4294967296^D/2^S):=Lib.hid (by rw [HD.out,Nat.pow_add,←pow32,←Nat.div_div_eq_div_mul])
  generalize nd V=vs at *
  obtain⟨x,hxe⟩:∃x,x=vs[D]:=⟨_,rfl⟩
  rw [←hxe]at hc hX32 hlo
  have hand:=and_low32 x S hX32 hS
  have hP31:(2:Int)^S≤2147483648∧(0:Int)<2^S:=by
   have h1:2^S≤2147483648:=Nat.pow_le_pow_right (n:=2) (by omega) (show S≤31 by omega)
   have hp:0<2^S:=Nat.two_pow_pos S
   have:((2^S:Nat):Int)=(2:Int)^S:=by push_cast;rfl
   omega
  obtain⟨b0,hb0⟩:∃b0,b0=decide (x%2^S≠0):=⟨_,rfl⟩
  have hb0i:((x:Int)%2^S != 0)=b0:=by
   rw [hb0]
   have e:((x:Int)%2^S)=((x%2^S:Nat):Int):=by push_cast;rfl
   rw [e,Bool.eq_iff_iff,bne_iff_ne,decide_eq_true_iff]
   omega
  have HB0:=Lib.hid hb0
  clear hb0
  have HCZ:=Lib.hid hcz
  have HPRE:=Lib.hid hpre
  have HFR:=Lib.hid hfrom
  have hDc:D<c:=by omega
  have hP1:=hP31.1
  have hP2:=hP31.2
  clear hvn hxe hcz hpre hfrom hm hP31
  go_enter Tryz.func125,Tryz.ntmps125
  go_wp2
  go_step3
  go_wp2_with (go_at_call 122;refine HN.out.mono ?_;rintro e w' ⟨rfl,rfl⟩)
  go_quiet (fail)
  go_wp2
  go_step3
  go_wp2
  clear hb0i hand
  go_loop [6,33] (fun bv iv=>∃(i:Nat) (b:Bool),i≤D∧iv=.int .i64 i∧bv=.bool b∧Hid (b=true→lostB V s=true)∧Hid (b=false→x%2^S=0∧nv (vs.take i)=0)) (fun _ iv=>D-(intOf iv).toNat)
  case atStart=>
   refine⟨0,b0,Nat.zero_le _,rfl,rfl,Lib.hid (fun h=>?_),Lib.hid (fun h=>?_)⟩
   ·rw [HB0.out,decide_eq_true_iff]at h
    exact hlo.out.2 (.inr h)
   ·rw [HB0.out,decide_eq_false_iff_not]at h
    exact⟨Decidable.not_not.1 h,by simp [nv]⟩
  case round=>
   obtain⟨i,b,hi,rfl,rfl,hbt,hbf⟩:=hrel
   by_cases hgo:b=false∧i<D
   ·obtain⟨rfl,hiD⟩:=hgo
    obtain⟨ad',hxi,e',_,hci⟩:=HCZ.out i hiD
    injection e' with e'
    subst e'
    have hi32:=HPRE.out.ws.get hxi
    have hv:=hbf.out rfl
    have hsucc:=nv_take_succ hxi
    obtain⟨y,hy⟩:∃y,y=vs[i]:=⟨_,rfl⟩
    rw [←hy]at hci hi32 hsucc
    by_cases hy0:y=0
    ·have HS:Hid (nv (vs.take (i+1))=0):=Lib.hid (by rw [hsucc,hv.2,hy0];simp)
     have HV:=Lib.hid hv
     have hyz:((y:Int) != 0)=false:=by rw [hy0];rfl
     clear hsucc hy hv hy0
     go_wp2
     go_round
     case rel=>exact⟨i+1,false,by omega,by go_num,rfl,Lib.hid (fun h=>by cases h),Lib.hid (fun _=>⟨HV.out.1,HS.out⟩)⟩
     case measure=>simp [intOf];omega
    ·have HS:Hid (lostB V s=true):=Lib.hid (hlo.out.2 (.inl (by
      have h1:=nv_take_drop (vs.take D) (i+1) (by rw [List.length_take];omega)
      rw [List.take_take,Nat.min_eq_left (by omega)]at h1
      have hp:0<4294967296^i*y:=Nat.mul_pos (Nat.pow_pos (by omega)) (Nat.pos_of_ne_zero hy0)
      omega)))
     have hyz:((y:Int) != 0)=true:=by rw [bne_iff_ne];omega
     clear hsucc hy hv hy0
     go_wp2
     go_round
     case rel=>exact⟨i+1,true,by omega,by go_num,rfl,Lib.hid (fun _=>HS.out),Lib.hid (fun h=>by cases h)⟩
     case measure=>simp [intOf];omega
   ·have hb:Hid (b=lostB V s):=Lib.hid (by
     cases b
     ·have hie:i=D:=by
       rcases Nat.lt_or_ge i D with h|h
       ·exact absurd ⟨rfl,h⟩ hgo
       ·omega
      have h1:=hbf.out rfl
      rw [hie]at h1
      symm
      rw [Bool.eq_false_iff]
      intro h
      rcases hlo.out.1 h with h2|h2
      ·exact h2 h1.2
      ·exact h2 h1.1
     ·exact(hbt.out rfl).symm)
    have hcase:(b=true∧i<D)∨D≤i:=by
     rcases Nat.lt_or_ge i D with h|h
     ·left
      cases b
      ·exact absurd ⟨rfl,h⟩ hgo
      ·exact⟨rfl,h⟩
     ·exact .inr h
    clear hgo
    rcases hcase with ⟨rfl,hiD⟩|hiD
    all_goals
     go_wp2_with fail
     refine(nnorm_any _ _ _ _ _ (HFR.out.drewN _) (by omega)).mono ?_
     rintro e w4 ⟨g,k,rfl,hr4,hg4,hk4,hE4⟩
     have hk5:k≤m:=by rw [hk4];have h1:=nw_nv_le HFR.out.ws;have h2:=HFR.out.len;omega
     have hE5:Ext w w4:=((Ext.refl w).drewN _).trans hE4
     have HK:=Lib.hid hk4
     clear hk4
     go_wp2_with fail
     refine(nback_any g k k _ S w w4 hr4 (Ws.nd _) (by rw [nd_length];exact HK.out.symm) (by omega) (Nat.le_refl _) (by unfold maxLen;omega) hS hE5 hg4).mono ?_
     rintro e w6 ⟨A6,n6,c6,rfl,hR,hE6⟩
     go_wp2
     rw [Exit.noGoto_ret]
     go_ret2
     refine⟨A6,n6,c6,?_,by rw [hval.out,←hdr.out];rw [nv_nd]at hR;exact hR,hE6⟩
     rw [←hb.out]
     rfl
theorem nlong_raw (g c:Nat)(A:Option Addr)(n d:Nat)(xs:List Nat)(w:World)(hc:w.cell? ⟨g,0,none⟩=some (.slice A n d))(h:Wds w A n d xs)(hn:n≤35184372088832)(hs:nw (nv xs)≤16384) :
  Calls Tryz.prog 123 #[.slice (some ⟨g,0,none⟩) 1 c] w fun e w'=>e=.returned (.bool false)∧w=w':=
 (nlong_any g 1 c [⟨A,n,d,xs⟩] w rfl (by omega) (fun i s hs=>by
   match i,hs with
   |0,hs=>simp at hs;subst hs;exact hc
   |i+1,hs=>simp at hs) (fun s hs=>by simp at hs;subst hs;exact⟨h,hn⟩)).mono fun e w' h=>⟨by rw [h.1];exact ret_bool (by simp [isLong];omega),h.2⟩
def RetWBE (V:Nat)(b:Bool)(x:Int)(w:World)(e:Ending)(w':World):Prop:=∃A n c,e=.returned (.tuple #[.slice A n c,.bool b,.int .i64 x])∧Wds w' A n c (nd V)∧Ext w w'
theorem nshr_any (A:Option Addr)(n c:Nat)(xs:List Nat)(s:Nat)(w:World)(h:Wds w A n c xs)(hn:n≤17592186044416)(hs:s≤4611686018427387904)(hnl:nw (nv xs)≤16384) :
  Calls Tryz.prog 162 #[.slice A n c,.int .i64 (s:Int)] w (RetWBE (nv xs/2^s) (lostB (nv xs) s) 0 w):=by
 have h1:=h.alloc (.cells #[.slice A n c] 65)
 have hL:=fun g w hc h=>nlong_raw g 1 A n c xs w hc h (by omega) hnl
 have hD:=fun w h=>ndown_any A n c xs s w h hn hs
 obtain⟨Q,hQ⟩:∃Q,Q=nv xs/2^s:=⟨_,rfl⟩
 obtain⟨B,hB⟩:∃B,B=lostB (nv xs) s:=⟨_,rfl⟩
 rw [←hQ,←hB]at hD ⊢
 have HL:=Lib.hid hL
 have HD:=Lib.hid hD
 clear hL hD hQ hB
 go_enter Tryz.func162,Tryz.ntmps162
 go_wp2_with (first|(go_at_call 123;refine(HL.out _ _ (by simp) h1).mono ?_;rintro e w' ⟨rfl,rfl⟩)|(go_at_call 125;refine(HD.out _ h1).mono ?_;rintro e w' ⟨A2,n2,c2,rfl,hR,hE⟩))
 go_ret3
 exact⟨A2,n2,c2,rfl,hR,((Ext.refl w).alloc _).trans hE⟩
theorem nword_any (A:Option Addr)(n c:Nat)(xs:List Nat)(w:World)(h:Wds w A n c xs)(hn:n≤17592186044416)(hs:nw (nv xs)≤2) :
  Calls Tryz.prog 163 #[.slice A n c] w fun e w'=>e=.returned (.tuple #[.int .u64 (nv xs:Int),.bool true])∧∃q,w'=w.drewN q:=by
 have hnw:=nwords_any A n c xs w h (by omega)
 have hle:nw (nv xs)≤n:=by have:=nw_nv_le h.ws;have:=h.len;omega
 have htk:=nd_take h.ws
 have hvn:=nv_nd (nv xs)
 have hlx:=h.len
 obtain⟨V,hV⟩:∃V,V=nv xs:=⟨_,rfl⟩
 rw [←hV]at hnw hle hs htk hvn ⊢
 obtain⟨m,hm⟩:∃m,m=nw V:=⟨_,rfl⟩
 rw [←hm]at hnw hle hs htk
 match m,hs with
 |0,_=>
  have hF:(0:Int)=(V:Int):=by rw [nw_eq_zero.1 hm.symm];rfl
  have HF:=Lib.hid hF
  have HN:=Lib.hid hnw
  clear hF hnw hm htk hvn hV
  go_enter Tryz.func163,Tryz.ntmps163
  go_wp2_with (go_at_call 122;refine HN.out.mono ?_;rintro e w' ⟨rfl,rfl⟩)
  go_ret2
  exact⟨by rw [←HF.out];rfl,0,rfl⟩
 |1,_=>
  obtain⟨ad,hx,rfl,hb,hc⟩:=h.at_ (k:=0) (by omega)
  have hF:(xs[0]:Int)=(V:Int):=by
   rw [htk,List.take_succ_eq_append_getElem hx]at hvn
   simp [nv]at hvn
   omega
  have hX:=h.ws.get hx
  obtain⟨x,hxe⟩:∃x,x=xs[0]:=⟨_,rfl⟩
  rw [←hxe]at hc hF hX
  have hc':w.cell? ad=some (.int .u32 (x:Int)):=by simpa [Addr.add]using hc
  have HF:=Lib.hid hF
  have HN:=Lib.hid hnw
  clear hF hnw hm htk hvn hV hxe
  go_enter Tryz.func163,Tryz.ntmps163
  go_wp2_with (go_at_call 122;refine HN.out.mono ?_;rintro e w' ⟨rfl,rfl⟩)
  go_ret2
  exact⟨by rw [←HF.out];rfl,0,rfl⟩
 |2,_=>
  obtain⟨ad,hx,rfl,hb,hc⟩:=h.at_ (k:=0) (by omega)
  obtain⟨ad',hx1,e',_,hc1⟩:=h.at_ (k:=1) (by omega)
  injection e' with e'
  subst e'
  have hX:=h.ws.get hx
  have hY:=h.ws.get hx1
  have hF:xs[0]+4294967296*xs[1]=V:=by
   rw [htk,List.take_succ_eq_append_getElem hx1,List.take_succ_eq_append_getElem hx]at hvn
   simp [nv]at hvn
   omega
  obtain⟨x,hxe⟩:∃x,x=xs[0]:=⟨_,rfl⟩
  obtain⟨y,hye⟩:∃y,y=xs[1]:=⟨_,rfl⟩
  rw [←hxe]at hc hF hX
  rw [←hye]at hc1 hF hY
  have hc':w.cell? ad=some (.int .u32 (x:Int)):=by simpa [Addr.add]using hc
  have hc1':w.cell? { block:=ad.block,off:=ad.off+1,spot:=none }=some (.int .u32 (y:Int)):=by simpa [Addr.add]using hc1
  have b1:(1:Int)<(n:Int):=by omega
  have b0:0<n:=by omega
  have b2:(0:Int)<(n:Int):=by omega
  have b3:1<n:=by omega
  have hor:=word_or4 y x hY hX
  rw [hF]at hor
  have HO:=Lib.hid hor
  have HN:=Lib.hid hnw
  have hyV:(y:Int)*4294967296≤18446744069414584320:=by omega
  clear hF hnw hm htk hvn hV hxe hye hor
  go_enter Tryz.func163,Tryz.ntmps163
  go_wp2_with (go_at_call 122;refine HN.out.mono ?_;rintro e w' ⟨rfl,rfl⟩)
  go_quiet (fail)
  go_wp2
  go_ret2
  exact⟨by rw [←HO.out];rfl,_,rfl⟩
end Go.Proofs.YtngdldcgkaplbaaGreat
namespace Go.Proofs.YtngdldcgkaplbaaGreat
open Go.RowKit Nm Rn
theorem run_ng {x:Nat}(h:x < 18446744073709551616)(w:World):(Go.Op.unary .neg (.float .f64 x)).run Tryz.prog w=.ok (.float .f64 (ng x)) w:=by
 have:Go.Op.negFloat .f64 x=ng x:=ng_xor h
 rw [←this];rfl
theorem pat_ng {r:Nat}(h:r < 9223372036854775808)(h0:r≠0):ng r=pat true r:=by
 unfold ng pat sg
 rw [decide_eq_false (by omega),if_neg h0]
 simp;omega
theorem pat_plus (r:Nat):pat false r=r:=by unfold pat;split<;>simp_all
theorem beyond_any (d:Int)(neg:Bool)(w:World) :
  Calls Tryz.prog 161 #[.int .i64 d,.bool neg] w fun e w'=>e=.returned (.float .f64 (pat neg (if twB d neg then infR-1 else infR)))∧w=w':=by
 have hn1:=fun w=>run_ng (x:=9218868437227405311) (by omega) w
 have hn2:=fun w=>run_ng (x:=infR) infR_lt w
 rw [pat_ng (r:=9218868437227405311) (by omega) (by omega)]at hn1
 rw [pat_ng (r:=infR) (by rw [infR_val];omega) (by rw [infR_val];omega)]at hn2
 have HI:=Lib.hid (fun w=>inf_p w)
 have key:∃t,t=twB d neg∧((d==1)=true∧(d==-1)=false∧t=neg∨(d==1)=false∧(d==-1)=true∧t=!neg∨(d==1)=false∧(d==-1)=false∧t=false):=by
  refine⟨_,rfl,?_⟩
  unfold twB
  by_cases h1:d=1
  ·subst h1;left;cases neg<;>simp
  ·by_cases h2:d=-1
   ·subst h2;right;left;cases neg<;>simp
   ·right;right;simp [h1,h2]
 obtain⟨t,ht,hk⟩:=key
 rw [←ht]
 clear ht
 have hF:∀b,(if b=true then infR-1 else infR)=if b=true then 9218868437227405311 else infR:=by intro b;rw [infR_val]
 rw [hF]
 clear hF
 cases neg
 all_goals
  rcases hk with ⟨h1,h2,rfl⟩|⟨h1,h2,rfl⟩|⟨h1,h2,rfl⟩
  all_goals
   go_enter Tryz.func161,Tryz.ntmps161
   go_wp2_with (go_at_call 31;refine(HI.out _).mono ?_;rintro e w' ⟨rfl,rfl⟩)
   go_ret
   exact⟨by first|rfl|(simp only [pat_plus];rfl),rfl⟩
theorem and3 (v:Nat)(h:v < 18446744073709551616):bits .and .u64 (v:Int) 3=((v%4:Nat):Int):=by
 rw [show(3:Int)=((3:Nat):Int)from rfl,u64_and_nat _ _ h (by omega)]
 congr 1
 exact Nat.and_two_pow_sub_one_eq_mod v 2
theorem and1 (v:Nat)(h:v < 18446744073709551616):bits .and .u64 (v:Int) 1=((v%2:Nat):Int):=by
 rw [show(1:Int)=((1:Nat):Int)from rfl,u64_and_nat _ _ h (by omega)]
 congr 1
 exact Nat.and_two_pow_sub_one_eq_mod v 1
theorem or1 (v:Nat)(h:v < 18446744073709551615):bits .or .u64 (v:Int) 1=((stick v true:Nat):Int):=by
 rw [show(1:Int)=((1:Nat):Int)from rfl,u64_or_nat _ _ (by omega) (by omega),or_one]
theorem stick_lt (W:Nat)(f:Bool):stick W f≤W+1:=by unfold stick;split<;>omega
theorem of_any (d:Int)(neg:Bool)(A:Option Addr)(n c:Nat)(xs:List Nat)(exp:Int)(more:Bool)(w:World)(h:Wds w A n c xs)(hn:n≤1099511627776)(hnl:nw (nv xs)≤16384)
  (he1:-4398046511104≤exp) (he2:exp≤4398046511104) (hm:more=true→55≤bl (nv xs)):
  Calls Tryz.prog 118 #[.int .i64 d,.bool neg,.slice A n c,.int .i64 exp,.bool more] w fun e w'=>e=.returned (.float .f64 (rnd d neg (zd (2*nv xs+more.toNat) (exp-1))))∧Ext w w':=by
 have hLen:=nlen_any A n c xs w h (by omega)
 have hBl:=bl_le_nw (nv xs)
 obtain⟨V,hV⟩:∃V,V=nv xs:=⟨_,rfl⟩
 obtain⟨B,hB⟩:∃B,B=bl V:=⟨_,rfl⟩
 rw [←hV]at hLen hBl hm hnl ⊢
 rw [←hB]at hLen hBl hm
 have HL:=Lib.hid hLen
 have HB:=Lib.hid hB
 have HV:=Lib.hid hV
 clear hLen hB hV
 by_cases hV0:V=0
 ·have hB0:B=0:=by rw [HB.out,hV0];rfl
  have hmf:more=false:=by cases more;rfl;have:=hm rfl;omega
  have HF:Hid (0=rnd d neg (zd (2*V+more.toNat) (exp-1))):=Lib.hid (by rw [hV0,hmf];show 0=rnd d neg (zd 0 _);rw [zd_zero,rnd_zero])
  have hB1:((B:Int)==0)=true:=by rw [hB0];rfl
  clear hmf hB0 hV0 hm
  go_enter Tryz.func118,Tryz.ntmps118
  go_wp2_with (go_at_call 116;refine HL.out.mono ?_;rintro e w' ⟨rfl,rfl⟩)
  go_ret
  exact⟨ret_float HF.out,Ext.refl w⟩
 ·have hBp:1≤B:=by have:=bl_pos hV0;have:=HB.out;omega
  have hB1:((B:Int)==0)=false:=by rw [beq_eq_false_iff_ne];omega
  by_cases hbig:1023<(B:Int)-1+exp
  ·have HF:Hid (pat neg (if twB d neg then infR-1 else infR)=rnd d neg (zd (2*V+more.toNat) (exp-1))):=Lib.hid (by rw [rnd_big hV0 (by rw [←HB.out];exact hbig)])
   have HY:=Lib.hid (fun w=>beyond_any d neg w)
   generalize pat neg (if twB d neg then infR-1 else infR)=R at *
   clear hV0 hm
   go_enter Tryz.func118,Tryz.ntmps118
   go_wp2_with (first|(go_at_call 116;refine HL.out.mono ?_;rintro e w' ⟨rfl,rfl⟩)|(go_at_call 161;refine(HY.out _).mono ?_;rintro e w' ⟨rfl,rfl⟩))
   go_ret
   exact⟨ret_float HF.out,Ext.refl w⟩
  ·obtain⟨E,hE⟩:∃E,E=ofE V exp:=⟨_,rfl⟩
   have hEd:E=max ((B:Int)-53+exp) (-1074):=by rw [hE,HB.out];rfl
   have hE1:-1074≤E:=by omega
   have hE2:E≤971:=by omega
   obtain⟨C,hC⟩:∃C,C=E-2-exp:=⟨_,rfl⟩
   have hC1:C≤4398046513000:=by omega
   have hC2:-4398046513000≤C:=by omega
   have hCE:C=ofE V exp-2-exp:=by rw [←hE];exact hC
   obtain⟨u,hu⟩:∃u:Nat,(u:Int)=E+1074:=⟨(E+1074).toNat,by omega⟩
   obtain⟨W,hW⟩:∃W,W=ofW V C:=⟨_,rfl⟩
   obtain⟨F,hF⟩:∃F,F=ofF V C more:=⟨_,rfl⟩
   obtain⟨v,hv⟩:∃v,v=stick W F:=⟨_,rfl⟩
   have hwl:=ofW_lt hV0 hCE
   rw [←hW]at hwl
   have hvl:v≤W+1:=by rw [hv];exact stick_lt W F
   have hmain:=rnd_ofW (more:=more) hV0 (by rw [←HB.out];exact hm) hCE (by rw [←HB.out];omega) d neg (v:=v) (u:=u) (by rw [hv,hW,hF]) (by rw [←hE];exact hu)
   obtain⟨s,hs⟩:∃s,s=v/4:=⟨_,rfl⟩
   obtain⟨r,hr⟩:∃r,r=v%4:=⟨_,rfl⟩
   rw [←hs,←hr]at hmain
   obtain⟨up,hup⟩:∃up,up=upO d neg s r:=⟨_,rfl⟩
   rw [←hup]at hmain
   obtain⟨S,hS⟩:∃S,S=s+up.toNat:=⟨_,rfl⟩
   rw [←hS]at hmain
   obtain⟨m1,m2,m3,m4⟩:=hmain
   rw [m1]
   have hW55:W<36028797018963968:=hwl.1
   have HSH:=Lib.hid hwl.2.2
   have hr4:r<4:=by omega
   have hsl:s≤9007199254740992:=by omega
   have HED:=Lib.hid hEd
   have HM4:=Lib.hid m4
   have HU:=Lib.hid hu
   have HWV:=Lib.hid hW
   have HFV:=Lib.hid hF
   have HSV:=Lib.hid hv
   have HRV:=Lib.hid hr
   have HSS:=Lib.hid hs
   have HUP:=Lib.hid hup
   have HST:=Lib.hid hS
   have HCC:=Lib.hid hC
   have hv64:v≤36028797018963968:=by omega
   have hbig':((B:Int)-1+exp)≤1023:=by omega
   clear hwl m1 m4 hE hEd hCE hu hW hF hv hr hs hup hS hbig hm hC
   go_enter Tryz.func118,Tryz.ntmps118
   go_upto_region 6 with (go_at_call 116;refine HL.out.mono ?_;rintro e w' ⟨rfl,rfl⟩)
   go_cut [12] (fun a wx=>a=.int .i64 E∧w=wx)
   case first=>
    as_aux_lemma=>
     have hEv:=HED.out
     rcases Int.lt_or_le ((B:Int)-53+exp) (-1074)with hlo|hhi
     ·have HF:Hid (-1074=E):=Lib.hid (by omega)
      clear hEv hE1 hE2
      go_wp2
      go_meet
      exact⟨by rw [HF.out],rfl⟩
     ·have HF:Hid ((B:Int)-53+exp=E):=Lib.hid (by omega)
      clear hEv hE1 hE2
      go_wp2
      go_meet
      exact⟨by rw [HF.out],rfl⟩
   case rest=>
    obtain⟨rfl,rfl⟩:=hcut
    have hC':E-2-exp=C:=HCC.out.symm
    obtain⟨LO,hLO⟩:∃LO,LO=(decide (0<C)&&decide (V%2^C.toNat≠0)):=⟨_,rfl⟩
    have HLO:=Lib.hid hLO
    have HV0:=Lib.hid hV0
    clear hLO hV0
    go_upto_if 44 with fail
    go_cut [14,15] (fun a b wx=>∃A2 n2 c2,a=.slice A2 n2 c2∧b=.bool LO∧Wds wx A2 n2 c2 (nd W)∧Ext w wx)
    case first=>
     as_aux_lemma=>
      rcases Int.lt_or_le 0 C with hpos|hneg
      ·obtain⟨k,rfl⟩:∃k:Nat,C=k:=⟨C.toNat,by omega⟩
       have hsh:=nshr_any A n c xs k w h (by omega) (by omega) (by rw [←HV.out];exact hnl)
       have e1:Hid (nv xs/2^k=W):=Lib.hid (by rw [←HV.out,HWV.out];unfold ofW;rw [if_pos hpos,Int.toNat_natCast])
       have e2:lostB (nv xs) k=LO:=by
        rw [HLO.out,←HV.out,decide_eq_true hpos,Bool.true_and,Int.toNat_natCast];rfl
       rw [e1.out,e2]at hsh
       have HSR:=Lib.hid hsh
       clear hsh e2
       go_wp2_with (go_at_call 162;refine HSR.out.mono ?_;rintro e w' ⟨A2,n2,c2,rfl,hR,hEx⟩)
       go_meet
       exact⟨A2,n2,c2,rfl,rfl,hR,hEx⟩
      ·obtain⟨k,hk⟩:∃k:Nat,-C=k:=⟨(-C).toNat,by omega⟩
       have hk2:IntKind.i64.wrap (-C)=(k:Int):=by rw [IntWalk.i64_in _ (by omega)];exact hk
       have h55:=HSH.out hneg
       rw [hk,Int.toNat_natCast,←HB.out]at h55
       have hsh:=nshl_any A n c xs k w h (by omega) (by rw [←HV.out];exact HV0.out) (by rw [←HV.out,←HB.out];omega)
       have e1:Hid (nv xs*2^k=W):=Lib.hid (by rw [←HV.out,HWV.out];unfold ofW;rw [if_neg (by omega),hk,Int.toNat_natCast])
       have e2:Hid (LO=false):=Lib.hid (by rw [HLO.out,decide_eq_false (by omega),Bool.false_and])
       rw [e1.out]at hsh
       have HSL:=Lib.hid hsh
       clear hsh h55 hk
       go_wp2_with (go_at_call 71;refine HSL.out.mono ?_;rintro e w' ⟨A2,n2,c2,rfl,hR,hEx⟩)
       go_meet
       exact⟨A2,n2,c2,rfl,by rw [e2.out],hR,hEx⟩
    case rest=>
     obtain⟨A2,n2,c2,rfl,rfl,hW2,hEx⟩:=hcut
     have hn2:n2≤2:=by
      have h1:=hW2.len
      rw [nd_length]at h1
      have h2:nw W≤2:=(nw_le_iff W 2).2 (by omega)
      omega
     have hwd:=nword_any A2 n2 c2 _ wc hW2 (by omega) (by rw [nv_nd];exact(nw_le_iff W 2).2 (by omega))
     rw [nv_nd]at hwd
     have HWD:=Lib.hid hwd
     have HEX:=Lib.hid hEx
     clear hwd hEx hC'
     go_wp2_with fail
     refine HWD.out.mono ?_
     rintro e w3 ⟨rfl,q,rfl⟩
     have HE3:Hid (Ext w (wc.drewN q)):=Lib.hid (HEX.out.drewN q)
     clear HEX
     have hFL:F=(LO||more):=by rw [HFV.out,HLO.out];rfl
     have HFL:=Lib.hid hFL
     clear hFL
     go_upto_region 13 with fail
     go_cut [67] (fun a wx=>a=.bool F∧wc.drewN q=wx)
     case first=>
      as_aux_lemma=>
       cases LO<;>cases more
       all_goals
        go_wp2
        go_meet
        exact⟨by rw [HFL.out];rfl,rfl⟩
     case rest=>
      obtain⟨rfl,rfl⟩:=hcut
      go_upto_if 67 with fail
      go_cut [16] (fun a wx=>a=.int .u64 (v:Int)∧wc.drewN q=wx)
      case first=>
       as_aux_lemma=>
        have hsv:=HSV.out
        cases F
        ·have HF:Hid (W=v):=Lib.hid (by rw [hsv];rfl)
         clear hsv
         go_wp2
         go_meet
         exact⟨by rw [HF.out],rfl⟩
        ·have hor:=or1 W (by omega)
         have HF:Hid (stick W true=v):=Lib.hid (by rw [hsv])
         clear hsv
         go_wp2
         go_meet
         exact⟨by rw [←HF.out],rfl⟩
      case rest=>
       obtain⟨rfl,rfl⟩:=hcut
       have hs4:(v:Int)/4=(s:Int):=by have:=HSS.out;omega
       have hr3:=and3 v (by omega)
       rw [←HRV.out]at hr3
       go_upto_block 0 with fail
       go_cut [18] (fun a wx=>a=.int .u64 (S:Int)∧wc.drewN q=wx)
       case first=>
        as_aux_lemma=>
         clear hs4 hr3
         by_cases hd1:d=1
         ·subst hd1
          by_cases hr0:r=0
          ·have HF:Hid (S=s):=Lib.hid (by rw [HST.out,HUP.out];unfold upO;rw [if_pos hr0];rfl)
           subst hr0
           go_wp2
           go_meet
           exact⟨val_int (by have:=HF.out;omega),rfl⟩
          ·have hr1:(0:Int)<(r:Int):=by omega
           have hr2:0<r:=by omega
           have HF:Hid (S=s+(!neg).toNat):=Lib.hid (by rw [HST.out,HUP.out];unfold upO;rw [if_neg hr0,if_pos rfl])
           clear hr0
           cases neg
           all_goals
            go_wp2
            go_meet
            exact⟨val_int (by have h9:=HF.out;simp at h9;omega),rfl⟩
         ·by_cases hd2:d=-1
          ·subst hd2
           by_cases hr0:r=0
           ·have HF:Hid (S=s):=Lib.hid (by rw [HST.out,HUP.out];unfold upO;rw [if_pos hr0];rfl)
            subst hr0
            go_wp2
            go_meet
            exact⟨val_int (by have:=HF.out;omega),rfl⟩
           ·have hr1:(0:Int)<(r:Int):=by omega
            have hr2:0<r:=by omega
            have HF:Hid (S=s+neg.toNat):=Lib.hid (by rw [HST.out,HUP.out];unfold upO;rw [if_neg hr0,if_neg (by omega),if_pos rfl])
            clear hr0
            cases neg
            all_goals
             go_wp2
             go_meet
             exact⟨val_int (by have h9:=HF.out;simp at h9;omega),rfl⟩
          ·have e1:(d==1)=false:=by rw [beq_eq_false_iff_ne];exact hd1
           have e2:(d==-1)=false:=by rw [beq_eq_false_iff_ne];exact hd2
           have HF:Hid (S=s+(if r=0 then false else(decide (r=3)||(decide (r=2)&&decide (s%2=1)))).toNat):=Lib.hid (by rw [HST.out,HUP.out];unfold upO;rw [if_neg hd1,if_neg hd2])
           have ha:=and1 s (by omega)
           have hcases:r=0∨r=1∨r=2∨r=3:=by omega
           have hpar:s%2=0∨s%2=1:=by omega
           clear hd1 hd2
           rcases hcases with rfl|rfl|rfl|rfl
           ·go_wp2
            go_meet
            exact⟨val_int (by have h9:=HF.out;simp at h9;omega),rfl⟩
           ·go_wp2
            go_meet
            exact⟨val_int (by have h9:=HF.out;simp at h9;omega),rfl⟩
           ·rcases hpar with hp|hp
            ·have HF2:Hid (S=s):=Lib.hid (by have h9:=HF.out;simp [hp]at h9;omega)
             rw [hp]at ha
             clear hp
             go_wp2
             go_meet
             exact⟨val_int (by have h9:=HF2.out;omega),rfl⟩
            ·have HF2:Hid (S=s+1):=Lib.hid (by have h9:=HF.out;simp [hp]at h9;omega)
             rw [hp]at ha
             clear hp
             go_wp2
             go_meet
             exact⟨val_int (by have h9:=HF2.out;omega),rfl⟩
           ·go_wp2
            go_meet
            exact⟨val_int (by have h9:=HF.out;simp at h9;omega),rfl⟩
       case rest=>
        obtain⟨rfl,rfl⟩:=hcut
        have hld:=fun w=>mldexp_any S u E w (by have:=HU.out;omega) m2 m3 HM4.out
        obtain⟨P,hP⟩:∃P,P=FloatKind.f64.nearest (S:Int):=⟨_,rfl⟩
        have hP':floatOfInt .f64 (S:Int)=P:=hP.symm
        obtain⟨R,hR⟩:∃R,R=u*4503599627370496+S:=⟨_,rfl⟩
        rw [←hP,←hR]at hld
        have HRD:=Lib.hid hR
        have hRl:R<9223372036854775808:=by omega
        have HLD:=Lib.hid hld
        have hq:=fo_ne (x:=R) (y:=0) (by omega) (by omega)
        rw [eq0 (by omega)]at hq
        have hu1:=fun w=>run_ng (x:=R) (by omega) w
        clear hP hld hR hs4 hr3
        cases neg
        ·have HF:Hid (R=pat false R):=Lib.hid (pat_plus R).symm
         clear hq hu1
         go_wp2_with (go_at_call 164;refine(HLD.out _).mono ?_;rintro e w' ⟨rfl,rfl⟩)
         go_ret
         exact⟨ret_float (by rw [←HRD.out];exact HF.out),HE3.out⟩
        ·by_cases hR0:R=0
         ·rw [decide_eq_true (.inl hR0),Bool.not_true]at hq
          have HF:Hid (R=pat true R):=Lib.hid (by rw [hR0];rfl)
          clear hR0 hu1
          go_wp2_with (go_at_call 164;refine(HLD.out _).mono ?_;rintro e w' ⟨rfl,rfl⟩)
          go_ret
          exact⟨ret_float (by rw [←HRD.out];exact HF.out),HE3.out⟩
         ·rw [decide_eq_false (by omega),Bool.not_false]at hq
          have HF:Hid (ng R=pat true R):=Lib.hid (pat_ng hRl hR0)
          clear hR0
          go_wp2_with (go_at_call 164;refine(HLD.out _).mono ?_;rintro e w' ⟨rfl,rfl⟩)
          go_ret
          exact⟨ret_float (by rw [←HRD.out];exact HF.out),HE3.out⟩
end Go.Proofs.YtngdldcgkaplbaaGreat
namespace Go.Proofs.YtngdldcgkaplbaaGreat
open Go.RowKit Nm
structure LeftRel (xs L:List Nat)(D S t i:Nat):Prop where
 len:L.length=D+t+1
 ws:Ws L
 val:nv L=nv (xs.take i)*2^(32*D+S)
 top:∀j,(hj:j<L.length)→D+i<j→L[j]=0
 low:∀hj:D+i<L.length,L[D+i]<2^S
theorem LeftRel.start (xs:List Nat)(D S t:Nat):LeftRel xs (List.replicate (D+t+1) 0) D S t 0 where
 len:=by simp
 ws:=Ws.replicate _ (by omega)
 val:=by simp [nv_replicate,nv]
 top:=fun j hj _=>by simp
 low:=fun hj=>by simp;exact Nat.pow_pos (by omega)
structure RowRel (xs L:List Nat)(V0 y n m j i cr:Nat):Prop where
 len:L.length=n+m
 ws:Ws L
 val:nv L+4294967296^(i+j)*cr=V0+4294967296^j*(y*nv (xs.take i))
 top:∀k,(hk:k<L.length)→n+j≤k→L[k]=0
theorem RowRel.step {xs L:List Nat}{V0 y n m j i cr a x v lo hi:Nat}(h:RowRel xs L V0 y n m j i cr)(hj:j < m)(hi0:i < n)(hx:i < xs.length)(hxe:xs[i]=x)(hk:i+j < L.length)(ha:L[i+j]=a)
  (hv:v=cr+a+x*y) (hlo:lo=v%4294967296) (hhi:hi=v/4294967296):RowRel xs (L.set (i+j) lo) V0 y n m j (i+1) hi:=by
 have hlen:=h.len
 refine⟨by simpa using hlen,h.ws.set _ (by rw [hlo];exact Nat.mod_lt _ (by omega)),?_,fun k hk' hle=>?_⟩
 ·have h1:=nv_set hk lo
  rw [ha]at h1
  have h2:=h.val
  have e:lo+4294967296*hi=cr+a+x*y:=by rw [←hv,hlo,hhi];exact Nat.mod_add_div _ _
  have e1:4294967296^(i+j)*(lo+4294967296*hi)=4294967296^(i+j)*(cr+a+x*y):=by rw [e]
  rw [Nat.mul_add,Nat.mul_add,Nat.mul_add,←Nat.mul_assoc,←Nat.pow_succ]at e1
  rw [show i+1+j=i+j+1 by omega,nv_take_succ hx,hxe,Nat.mul_add y,Nat.mul_add (4294967296^j)]
  have e2:4294967296^j*(y*(4294967296^i*x))=4294967296^(i+j)*(x*y):=by
   rw [Nat.pow_add]
   simp only [Nat.mul_assoc,Nat.mul_comm,Nat.mul_left_comm]
  rw [e2]
  generalize 4294967296^j*(y*nv (xs.take i))=t0 at *
  generalize 4294967296^(i+j)*(x*y)=t1 at *
  generalize 4294967296^(i+j+1)*hi=t2 at *
  generalize 4294967296^(i+j)*lo=t3 at *
  generalize 4294967296^(i+j)*a=t4 at *
  generalize 4294967296^(i+j)*cr=t5 at *
  clear e2 e hlo hhi hv
  omega
 ·rw [List.getElem_set_ne (by omega)]
  simp at hk'
  exact h.top k hk' hle
structure TimesRel (xs ys L:List Nat)(n m j:Nat):Prop where
 len:L.length=n+m
 ws:Ws L
 val:nv L=nv xs*nv (ys.take j)
 top:∀k,(hk:k<L.length)→n+j≤k→L[k]=0
theorem TimesRel.start (xs ys:List Nat)(n m:Nat):TimesRel xs ys (List.replicate (n+m) 0) n m 0 where
 len:=by simp
 ws:=Ws.replicate _ (by omega)
 val:=by simp [nv_replicate,nv]
 top:=fun j hj _=>by simp
theorem TimesRel.row {xs ys L:List Nat}{n m j:Nat}(h:TimesRel xs ys L n m j)(y:Nat):RowRel xs L (nv L) y n m j 0 0 where
 len:=h.len
 ws:=h.ws
 val:=by simp [nv]
 top:=h.top
theorem TimesRel.skip {xs ys L:List Nat}{n m j:Nat}(h:TimesRel xs ys L n m j)(hy:j < ys.length)(h0:ys[j]=0):TimesRel xs ys L n m (j+1) where
 len:=h.len
 ws:=h.ws
 val:=by rw [nv_take_succ hy,h0,Nat.mul_zero,Nat.add_zero];exact h.val
 top:=fun k hk hle=>h.top k hk (by omega)
theorem TimesRel.next {xs ys L0 L:List Nat}{n m j cr:Nat}(h0:TimesRel xs ys L0 n m j)(hy:j < ys.length)(hj:j < m)(h:RowRel xs L (nv L0) ys[j] n m j n cr)(hn:nv (xs.take n)=nv xs)(hcr:cr < 4294967296) :
  TimesRel xs ys (L.set (j+n) cr) n m (j+1):=by
 have hlen:=h.len
 refine⟨by simpa using hlen,h.ws.set _ hcr,?_,fun k hk hle=>?_⟩
 ·have h1:=nv_set (l:=L) (k:=j+n) (by omega) cr
  rw [h.top (j+n) (by omega) (by omega),Nat.mul_zero,Nat.add_zero]at h1
  rw [h1,Nat.add_comm j n,h.val,h0.val,hn,nv_take_succ hy,Nat.mul_add]
  congr 1
  simp only [Nat.mul_assoc,Nat.mul_comm,Nat.mul_left_comm]
 ·rw [List.getElem_set_ne (by omega)]
  simp at hk
  exact h.top k hk (by omega)
theorem nmul_raw (A:Option Addr)(n c:Nat)(xs:List Nat)(B:Option Addr)(m d:Nat)(ys:List Nat)(w:World)(h:Wds w A n c xs)(hn:n≤8796093022208)(k:Wds w B m d ys)(hm:m≤8796093022208) :
  Calls Tryz.prog 127 #[.slice A n c,.slice B m d] w fun e w'=>∃g L,e=.returned (.slice (some ⟨g,0,none⟩) (n+m) (n+m))∧Row w' g L∧Ws L∧L.length=n+m∧nv L=nv xs*nv ys∧w.heap.size≤g∧Ext w w':=by
 have hlx:=h.len
 have hly:=k.len
 have hmk:=run_make32 (n+m) (by omega) w
 push_cast at hmk
 have hr0:=Row.new w (List.replicate (n+m) 0)
 have hE0:Ext w (w.alloc (.cells (u32s (List.replicate (n+m) 0)).toArray 105)):=(Ext.refl w).alloc _
 obtain⟨w1,hw1⟩:∃w1,w1=w.alloc (.cells (u32s (List.replicate (n+m) 0)).toArray 105):=⟨_,rfl⟩
 rw [←hw1]at hmk hr0 hE0
 clear hw1
 obtain⟨g,hg⟩:∃g,g=w.heap.size:=⟨_,rfl⟩
 rw [←hg]at hmk hr0
 have hgl:w.heap.size≤g:=by omega
 clear hg
 have HXk:Hid (nv (xs.take n)=nv xs):=Lib.hid (by rw [List.take_of_length_le (by omega)])
 have Hlx:=Lib.hid hlx
 have Hly:=Lib.hid hly
 clear hlx hly
 go_enter Tryz.func127,Tryz.ntmps127
 go_wp2
 clear hmk
 go_loopw [20] (fun jv wr=>∃(j:Nat) (L:List Nat),j≤m∧jv=.int .i64 j∧TimesRel xs ys L n m j∧Row wr g L∧Ext w wr) (fun jv _=>m-(intOf jv).toNat)
 case atStart=>exact⟨0,_,Nat.zero_le _,rfl,TimesRel.start xs ys n m,hr0,hE0⟩
 case round=>
  obtain⟨j,L0,hj,rfl,hL0,hrow0,hb0⟩:=hrel
  obtain⟨wo,rfl⟩:∃wo:World,wo=wr:=⟨_,rfl⟩
  by_cases hlt:j<m
  ·obtain⟨bd,hy,rfl,_,hcY⟩:=(k.ext hb0).at_ (k:=j) (by omega)
   have hY32:=k.ws.get hy
   by_cases hy0:ys[j]=0
   ·have hsk:=Lib.hid (hL0.skip hy hy0)
    go_wp2
    go_roundw
    case rel=>exact⟨j+1,L0,by omega,by go_num,hsk.out,hrow0,hb0⟩
    case measure=>simp [intOf];omega
   ·have HN:=Lib.hid (fun(L:List Nat) (cr:Nat) hh hcr=>TimesRel.next (L:=L) (cr:=cr) hL0 hy hlt hh HXk.out hcr)
    generalize ys[j]=y at *
    have hy1:0<y:=by omega
    clear hy0
    go_wp2
    go_loopw [8,37] (fun cv iv wr=>∃(i cr:Nat) (L:List Nat),i≤n∧cr<4294967296∧iv=.int .i64 i∧cv=.int .u64 (cr:Int)∧RowRel xs L (nv L0) y n m j i cr∧Row wr g L∧Ext w wr) (fun _ iv _=>n-(intOf iv).toNat)
    case atStart=>exact⟨0,0,L0,Nat.zero_le _,by omega,rfl,rfl,hL0.row y,hrow0,hb0⟩
    case round=>
     obtain⟨i,cr,L,hi,hcr,rfl,rfl,hL,hrow,hb⟩:=hrel
     have hLl:=hL.len
     by_cases hlti:i<n
     ·obtain⟨ad,hx,rfl,_,hcX⟩:=(h.ext hb).at_ (k:=i) (by omega)
      have hX32:=h.ws.get hx
      have hc1:wr.cell? ⟨g,j+i,none⟩=some (.int .u32 (L[i+j]'(by omega):Int)):=by rw [Nat.add_comm j i];exact hrow.cell (i:=i+j) (by omega)
      have hf1:=hrow.frozen (j+i)
      have hA32:=hL.ws.get (k:=i+j) (by omega)
      have hk':i+j<L.length:=by omega
      obtain⟨a,ha⟩:∃a,L[i+j]=a:=⟨_,rfl⟩
      obtain⟨x,hxe⟩:∃x,xs[i]=x:=⟨_,rfl⟩
      have hst:=fun(v lo hi':Nat) hv hlo hhi=>hL.step (v:=v) (lo:=lo) (hi:=hi') hlt hlti hx hxe hk' ha hv hlo hhi
      rw [ha]at hc1 hA32
      rw [hxe]at hcX hX32
      clear ha hxe
      have hp:x*y≤18446744065119617025:=Nat.le_trans (Nat.mul_le_mul (show x≤4294967295 by omega) (show y≤4294967295 by omega)) (by omega)
      obtain⟨p,hpv⟩:∃p,p=x*y:=⟨_,rfl⟩
      rw [←hpv]at hp
      have ep:(x:Int)*(y:Int)=(p:Int):=by rw [hpv];exact(Int.natCast_mul x y).symm
      obtain⟨v,hv⟩:∃v,v=cr+a+p:=⟨_,rfl⟩
      have hv64:v<18446744073709551616:=by omega
      obtain⟨lo,hlo⟩:∃lo,lo=v%4294967296:=⟨_,rfl⟩
      obtain⟨hi',hhi⟩:∃hi',hi'=v/4294967296:=⟨_,rfl⟩
      have hst':=hst v lo hi' (by rw [hv,hpv]) hlo hhi
      clear hst
      have HST:=Lib.hid hst'
      clear hst'
      have hlo32:lo<4294967296:=by omega
      have hhi32:hi'<4294967296:=by omega
      have g7:(cr:Int)+((p:Int)+(a:Int))=(v:Int):=by omega
      have g5:(v:Int)%4294967296=(lo:Int):=by omega
      have g6:(v:Int)/4294967296=(hi':Int):=by omega
      have hrow':Row (wr.setCell ⟨g,j+i,none⟩ (.int .u32 (lo:Int))) g (L.set (i+j) lo):=by rw [Nat.add_comm j i];exact hrow.set_ (i+j) lo
      clear hpv hlo hhi hv
      go_wp2
      go_roundw
      case rel=>exact⟨i+1,hi',_,by omega,hhi32,by go_num,rfl,HST.out,hrow',hb.setCell hgl _⟩
      case measure=>simp [intOf];omega
     ·have e:i=n:=by omega
      subst e
      have hk':j+i<L.length:=by omega
      have hc1:=hrow.cell hk'
      have hf1:=hrow.frozen (j+i)
      have hrow':=hrow.set_ (j+i) cr
      have HF:=Lib.hid (HN.out L cr hL hcr)
      clear HN
      go_wp2
      go_roundw
      case rel=>exact⟨j+1,_,by omega,by go_num,HF.out,hrow',hb.setCell hgl _⟩
      case measure=>simp [intOf];omega
  ·have e:j=m:=by omega
   subst e
   have HV:Hid (nv L0=nv xs*nv ys):=Lib.hid (by rw [hL0.val,List.take_of_length_le (by have:=Hly.out;omega)])
   go_wp2
   go_ret
   exact⟨g,L0,rfl,hrow0,hL0.ws,hL0.len,HV.out,hgl,hb0⟩
theorem nlong_two (g c:Nat)(A:Option Addr)(n e:Nat)(xs:List Nat)(B:Option Addr)(m d:Nat)(ys:List Nat)(w:World)(hc0:w.cell? ⟨g,0,none⟩=some (.slice A n e))(hc1:w.cell? ⟨g,1,none⟩=some (.slice B m d))
  (h:Wds w A n e xs) (hn:n≤35184372088832) (hs:nw (nv xs)≤16384) (k:Wds w B m d ys) (hm:m≤35184372088832) (ks:nw (nv ys)≤16384):
  Calls Tryz.prog 123 #[.slice (some ⟨g,0,none⟩) 2 c] w fun e w'=>e=.returned (.bool false)∧w=w':=
 (nlong_any g 2 c [⟨A,n,e,xs⟩,⟨B,m,d,ys⟩] w rfl (by omega) (fun i s hs=>by
   match i,hs with
   |0,hs=>simp at hs;subst hs;exact hc0
   |1,hs=>simp at hs;subst hs;exact hc1
   |i+2,hs=>simp at hs) (fun s hs=>by
   simp at hs
   rcases hs with rfl|rfl
   ·exact⟨h,hn⟩
   ·exact⟨k,hm⟩)).mono fun e w' h=>⟨by rw [h.1];exact ret_bool (by simp [isLong];omega),h.2⟩
theorem add32_any (x y c lo hi:Nat)(w:World)(hx:x < 4294967296)(hy:y < 4294967296)(hc:c≤1)(hlo:lo=(x+y+c) % 4294967296)(hhi:hi=(x+y+c) / 4294967296) :
  Calls Tryz.prog 128 #[.int .u32 (x:Int),.int .u32 (y:Int),.int .u32 (c:Int)] w fun e w'=>e=.returned (.tuple #[.int .u32 (lo:Int),.int .u32 (hi:Int)])∧w=w':=by
 have e1:((x:Int)+(y:Int)+(c:Int))%4294967296=(lo:Int):=by omega
 have e2:((x:Int)+(y:Int)+(c:Int))/4294967296=(hi:Int):=by omega
 have e3:hi≤1:=by omega
 have E1:=Lib.hid e1
 clear hlo hhi e1
 go_enter Tryz.func128,Tryz.ntmps128
 go_wp2
 go_ret2
 exact⟨by rw [←E1.out];rfl,rfl⟩
theorem sub32_bits (x y c D hi:Nat)(hx:x < 4294967296)(hy:y < 4294967296)(hc:c≤1)(hD:D=(x+4294967296 - (y+c)) % 4294967296)(hhi:hi=if x < y+c then 1 else 0) :
  bits .or .u32 (bits .and .u32 (bits .xor .u32 IntKind.u32.max (x:Int)) (y:Int)) (bits .and .u32 (bits .xor .u32 IntKind.u32.max (bits .xor .u32 (x:Int) (y:Int))) (D:Int))/2147483648=(hi:Int):=by
 have hm:IntKind.u32.max=((4294967295:Nat):Int):=by decide
 have hxor:∀a b:Nat,a<4294967296→b<4294967296→a ^^^ b<4294967296:=fun a b h1 h2=>Nat.xor_lt_two_pow (n:=32) h1 h2
 have hand:∀a b:Nat,a<4294967296→a &&& b<4294967296:=fun a b h1=>Nat.lt_of_le_of_lt Nat.and_le_left h1
 have hDl:D<4294967296:=by omega
 rw [hm,u32_xor_nat _ _ (by omega) hx,u32_xor_nat _ _ hx hy,u32_xor_nat _ _ (by omega) (hxor _ _ hx hy),u32_and_nat _ _ (hxor _ _ (by omega) hx) hy,u32_and_nat _ _ (hxor _ _ (by omega) (hxor _ _ hx hy)) hDl,
  u32_or_nat _ _ (hand _ _ (hxor _ _ (by omega) hx)) (hand _ _ (hxor _ _ (by omega) (hxor _ _ hx hy)))]
 have key:((4294967295 ^^^ x) &&& y ||| (4294967295 ^^^ (x ^^^ y)) &&& D)/2^31=hi:=by
  rw [Nat.or_div_two_pow,Nat.and_div_two_pow,Nat.and_div_two_pow,Nat.xor_div_two_pow,Nat.xor_div_two_pow,Nat.xor_div_two_pow]
  have e31:(2^31:Nat)=2147483648:=rfl
  rw [e31,show 4294967295/2147483648=1 from rfl]
  obtain⟨a,ha⟩:∃a,a=x/2147483648:=⟨_,rfl⟩
  obtain⟨b,hb⟩:∃b,b=y/2147483648:=⟨_,rfl⟩
  obtain⟨e,he⟩:∃e,e=D/2147483648:=⟨_,rfl⟩
  rw [←ha,←hb,←he]
  have ha1:a=0∨a=1:=by omega
  have hb1:b=0∨b=1:=by omega
  have he1:e=0∨e=1:=by omega
  rcases ha1 with ha1|ha1<;>rcases hb1 with hb1|hb1<;>rcases he1 with he1|he1<;>rw [ha1,hb1,he1]<;>simp<;>split at hhi<;>omega
 have:(((((4294967295 ^^^ x) &&& y ||| (4294967295 ^^^ (x ^^^ y)) &&& D):Nat):Int))/2147483648=((((4294967295 ^^^ x) &&& y ||| (4294967295 ^^^ (x ^^^ y)) &&& D)/2^31:Nat):Int):=by
  rw [show(2^31:Nat)=2147483648 from rfl];omega
 rw [this,key]
theorem sub32_any (x y c lo hi:Nat)(w:World)(hx:x < 4294967296)(hy:y < 4294967296)(hc:c≤1)(hlo:lo=(x+4294967296 - (y+c)) % 4294967296)(hhi:hi=if x < y+c then 1 else 0) :
  Calls Tryz.prog 199 #[.int .u32 (x:Int),.int .u32 (y:Int),.int .u32 (c:Int)] w fun e w'=>e=.returned (.tuple #[.int .u32 (lo:Int),.int .u32 (hi:Int)])∧w=w':=by
 have hb:=sub32_bits x y c lo hi hx hy hc hlo hhi
 have e1:((x:Int)-(y:Int)-(c:Int))%4294967296=(lo:Int):=by omega
 have E1:=Lib.hid e1
 have HB:=Lib.hid hb
 clear hlo hhi e1 hb
 go_enter Tryz.func199,Tryz.ntmps199
 go_wp2
 go_ret2
 exact⟨by rw [←HB.out,←E1.out];rfl,rfl⟩
theorem take_set_succ {L:List Nat}{j:Nat}(hj:j < L.length)(lo:Nat):(L.set j lo).take (j+1)=L.take j++[lo]:=by
 rw [List.take_succ_eq_append_getElem (by simpa using hj),take_set_self,List.getElem_set_self]
theorem nadd_any (A:Option Addr)(n c:Nat)(xs:List Nat)(B:Option Addr)(m d:Nat)(ys:List Nat)(w:World)(h:Wds w A n c xs)(hn:n≤8796093022208)(k:Wds w B m d ys)(hm:m≤8796093022208)(h1:nw (nv xs)≤16384)(h2:nw (nv ys)≤16384)(hs:nw (nv xs+nv ys)≤16384) :
  Calls Tryz.prog 73 #[.slice A n c,.slice B m d] w (RetWE (nv xs+nv ys) 0 w):=by
 have hLG:Hid (∀g w,w.cell? ⟨g,0,none⟩=some (.slice A n c)→w.cell? ⟨g,1,none⟩=some (.slice B m d)→Wds w A n c xs→Wds w B m d ys→Calls Tryz.prog 123 #[.slice (some ⟨g,0,none⟩) 2 2] w fun e w'=>e=.returned (.bool false)∧w=w'):=
  Lib.hid (fun g w a b c' d'=>nlong_two g 2 A n c xs B m d ys w a b c' (by omega) h1 d' (by omega) h2)
 have hW1:=fun w h=>nwords_any A n c xs w h (by omega)
 have hW2:=fun w h=>nwords_any B m d ys w h (by omega)
 have hp1:=h.pre
 have hp2:=k.pre
 have hle1:nw (nv xs)≤n:=by have:=nw_nv_le h.ws;have:=h.len;omega
 have hle2:nw (nv ys)≤m:=by have:=nw_nv_le k.ws;have:=k.len;omega
 have hlc1:=h.lec
 have hlc2:=k.lec
 obtain⟨V,hV⟩:∃V,V=nv xs:=⟨_,rfl⟩
 obtain⟨U,hU⟩:∃U,U=nv ys:=⟨_,rfl⟩
 rw [←hV]at hW1 hp1 hle1 hs h1 ⊢
 rw [←hU]at hW2 hp2 hle2 hs h2 ⊢
 have hvV:=nv_nd V
 have hvU:=nv_nd U
 obtain⟨p,hp⟩:∃p,p=nw V:=⟨_,rfl⟩
 obtain⟨q,hq⟩:∃q,q=nw U:=⟨_,rfl⟩
 rw [←hp]at hW1 hp1 hle1 h1
 rw [←hq]at hW2 hp2 hle2 h2
 obtain⟨vs,hvs⟩:∃vs,vs=nd V:=⟨_,rfl⟩
 obtain⟨us,hus⟩:∃us,us=nd U:=⟨_,rfl⟩
 rw [←hvs]at hp1 hvV
 rw [←hus]at hp2 hvU
 have HW1:=Lib.hid hW1
 have HW2:=Lib.hid hW2
 have HVV:=Lib.hid hvV
 have HVU:=Lib.hid hvU
 have HS:=Lib.hid hs
 clear hW1 hW2 hV hU hp hq hvs hus hvV hvU hs
 have hn1:=h.alloc (.cells #[.slice A n c,.slice B m d] 65)
 have hk1:=k.alloc (.cells #[.slice A n c,.slice B m d] 65)
 have hp1':=hp1.alloc (.cells #[.slice A n c,.slice B m d] 65)
 have hp2':=hp2.alloc (.cells #[.slice A n c,.slice B m d] 65)
 have hE0:Ext w (w.alloc (.cells #[.slice A n c,.slice B m d] 65)):=(Ext.refl w).alloc _
 have hcell0:(w.alloc (.cells #[.slice A n c,.slice B m d] 65)).cell? ⟨w.heap.size,0,none⟩=some (.slice A n c):=by simp
 have hcell1:(w.alloc (.cells #[.slice A n c,.slice B m d] 65)).cell? ⟨w.heap.size,1,none⟩=some (.slice B m d):=by simp
 have hpc:p≤c:=by omega
 have hqd:q≤d:=by omega
 go_enter Tryz.func73,Tryz.ntmps73
 go_wp2_with fail
 generalize w.heap.size=g0 at hcell0 hcell1 ⊢
 generalize w.alloc _=w1 at hn1 hk1 hp1' hp2' hE0 hcell0 hcell1 ⊢
 go_wp2_with (first|(go_at_call 123;refine(hLG.out _ _ hcell0 hcell1 hn1 hk1).mono ?_;rintro e w' ⟨rfl,rfl⟩))
 refine wp_region_steady (Ext w1) (by kernel_rfl) (by kernel_rfl) (Ext.refl w1).drew ?_
 repeat (refine wpG_step (fun K hK=>?_)
         go_simp
         apply StepG.mk
         intro wz hz
         first
         |(go_simp
           first|exact rfl|exact⟨rfl,hz⟩)
         |(go_simp
           go_at_call 122
           first
           |(with_reducible refine(HW1.out _ (hn1.ext hz)).mono ?_)
           |(with_reducible refine(HW2.out _ (hk1.ext hz)).mono ?_)
           rintro e w8 ⟨rfl,rfl⟩
           exact⟨rfl,hz⟩)
         refine hK _ ?_
         clear hK K)
 refine wpG_nil ?_
 intro w2 hz2
 have hP2:=hp1'.ext hz2
 have hQ2:=hp2'.ext hz2
 have hE2:=hE0.trans hz2
 clear hn1 hk1 hp1' hp2' hcell0 hcell1 hz2 hE0
 go_upto_if 26 with fail
 go_cut [0,1] (fun a b wx=>∃A' n' c' xs' B' m' d' ys',a=.slice A' n' c'∧b=.slice B' m' d'∧Wds wx A' n' c' xs'∧Wds wx B' m' d' ys'∧m'≤n'∧n'≤16384∧Hid (nv xs'+nv ys'=V+U)∧Ext w wx)
 case first=>
  as_aux_lemma=>
   by_cases hpq:p<q
   ·go_wp2
    go_meet
    exact⟨_,_,_,_,_,_,_,_,rfl,rfl,hQ2,hP2,by omega,by omega,Lib.hid (by rw [HVV.out,HVU.out,Nat.add_comm]),hE2⟩
   ·go_wp2
    go_meet
    exact⟨_,_,_,_,_,_,_,_,rfl,rfl,hP2,hQ2,by omega,by omega,Lib.hid (by rw [HVV.out,HVU.out]),hE2⟩
 case rest=>
  obtain⟨A',n',c',xs',B',m',d',ys',rfl,rfl,hX,hY,hmn,hn16,hsum,hEc⟩:=hcut
  clear hP2 hQ2 hE2 h1 h2 hLG HW1 HW2 HVV HVU h k
  have hlx:=hX.len
  have hly:=hY.len
  have hmk:=run_make32 (n'+1) (by omega) wc
  push_cast at hmk
  have hr0:=Row.new wc (List.replicate (n'+1) 0)
  have hE3:Ext wc (wc.alloc (.cells (u32s (List.replicate (n'+1) 0)).toArray 105)):=(Ext.refl wc).alloc _
  have hgl:wc.heap.size≤wc.heap.size:=Nat.le_refl _
  go_wp2
  clear hmk
  generalize wc.alloc _=w4 at hr0 hE3 ⊢
  generalize hgs:wc.heap.size=g at hr0 hgl ⊢
  have hgl':wc.heap.size≤g:=by omega
  clear hgs hgl
  have Hlx:=Lib.hid hlx
  have Hly:=Lib.hid hly
  clear hlx hly
  go_loopw [7,35] (fun cv iv wr=>∃(j cr:Nat) (L:List Nat),j≤n'∧iv=.int .i64 j∧cv=.int .u32 (cr:Int)∧cr≤1∧Row wr g L∧Ws L∧Hid (L.length=n'+1)∧Hid (nv (L.take j)+4294967296^j*cr=nv (xs'.take j)+nv (ys'.take j))∧Ext wc wr) (fun _ iv _=>n'-(intOf iv).toNat)
  case atStart=>exact⟨0,0,_,Nat.zero_le _,rfl,rfl,by omega,hr0,Ws.replicate _ (by omega),Lib.hid (by simp),Lib.hid (by simp [nv]),hE3⟩
  case round=>
   obtain⟨j,cr,L,hj,rfl,rfl,hcr,hrow,hL,hLl,hinv,hEr⟩:=hrel
   by_cases hlt:j<n'
   ·obtain⟨ad,hx,rfl,_,hcX⟩:=(hX.ext hEr).at_ hlt
    have hX32:=hX.ws.get hx
    have hXe:=Lib.hid (getD_of hx)
    have hjL:j<L.length:=by rw [hLl.out];omega
    have hc1:=hrow.cell hjL
    have hf1:=hrow.frozen j
    have htl:(L.take j).length=j:=by rw [List.length_take];omega
    obtain⟨x,hxx⟩:∃x,x=xs'[j]:=⟨_,rfl⟩
    rw [←hxx]at hcX hX32 hXe
    have hYc:(j<m'∧∃bd,∃Y:Nat,B'=some bd∧Y<4294967296∧Hid (Y=ys'.getD j 0)∧wr.cell? (bd.add j)=some (.int .u32 (Y:Int)))∨(m'≤j∧∃Y:Nat,Y=0∧Hid (Y=ys'.getD j 0)):=by
     by_cases hl:j<m'
     ·obtain⟨bd,hy,e,_,hc⟩:=(hY.ext hEr).at_ hl
      exact .inl ⟨hl,bd,ys'[j],e,hY.ws.get hy,Lib.hid (getD_of hy),hc⟩
     ·exact .inr ⟨by omega,0,rfl,Lib.hid (getD_out (by have:=Hly.out;omega))⟩
    clear hxx
    rcases hYc with ⟨hjm,bd,Y,rfl,hY32,hYe,hcY⟩|⟨hjm,Y,rfl,hYe⟩
    ·obtain⟨lo,hlo⟩:∃lo,lo=(x+Y+cr)%4294967296:=⟨_,rfl⟩
     obtain⟨hi',hhi⟩:∃hi',hi'=(x+Y+cr)/4294967296:=⟨_,rfl⟩
     have had:=fun w=>add32_any x Y cr lo hi' w hX32 hY32 hcr hlo hhi
     have hst:=sum_step (l:=xs') (m:=ys') (acc:=L.take j) (k:=j) (cr:=cr) (x:=x) (y:=Y) (lo:=lo) htl hXe.out hYe.out hinv.out (by rw [hlo];congr 1;omega)
     rw [←take_set_succ hjL,show(cr+x+Y)/4294967296=hi' by rw [hhi];congr 1;omega]at hst
     have HA:=Lib.hid had
     have HST:=Lib.hid hst
     have hlo32:lo<4294967296:=by omega
     have hhi1:hi'≤1:=by omega
     have hrow':=hrow.set_ j lo
     clear had hst hlo hhi htl
     go_wp2_with (go_at_call 128;refine(HA.out _).mono ?_;rintro e w' ⟨rfl,rfl⟩)
     go_roundw
     case rel=>exact⟨j+1,hi',_,by omega,by go_num,rfl,hhi1,hrow',hL.set _ hlo32,Lib.hid (by simp [hLl.out]),HST,hEr.setCell hgl' _⟩
     case measure=>simp [intOf];omega
    ·skip
     obtain⟨lo,hlo⟩:∃lo,lo=(x+0+cr)%4294967296:=⟨_,rfl⟩
     obtain⟨hi',hhi⟩:∃hi',hi'=(x+0+cr)/4294967296:=⟨_,rfl⟩
     have had:=fun w=>add32_any x 0 cr lo hi' w hX32 (by omega) hcr hlo hhi
     have hst:=sum_step (l:=xs') (m:=ys') (acc:=L.take j) (k:=j) (cr:=cr) (x:=x) (y:=0) (lo:=lo) htl hXe.out hYe.out hinv.out (by rw [hlo];congr 1;omega)
     rw [←take_set_succ hjL,show(cr+x+0)/4294967296=hi' by rw [hhi];congr 1;omega]at hst
     have HA:=Lib.hid had
     have HST:=Lib.hid hst
     have hlo32:lo<4294967296:=by omega
     have hhi1:hi'≤1:=by omega
     have hrow':=hrow.set_ j lo
     clear had hst hlo hhi htl
     go_wp2_with (go_at_call 128;refine(HA.out _).mono ?_;rintro e w' ⟨rfl,rfl⟩)
     go_roundw
     case rel=>exact⟨j+1,hi',_,by omega,by go_num,rfl,hhi1,hrow',hL.set _ hlo32,Lib.hid (by simp [hLl.out]),HST,hEr.setCell hgl' _⟩
     case measure=>simp [intOf];omega
   ·skip
    have hje:j=n':=by omega
    subst hje
    have hjL:j<L.length:=by rw [hLl.out];omega
    have hc1:=hrow.cell hjL
    have hf1:=hrow.frozen j
    have hrow':=hrow.set_ j cr
    have hval:Hid (nv (L.set j cr)=V+U):=Lib.hid (by
     have h1:=hinv.out
     rw [List.take_of_length_le (show xs'.length≤j by have:=Hlx.out;omega),List.take_of_length_le (show ys'.length≤j by have:=Hly.out;omega),hsum.out]at h1
     rw [←h1,←List.take_of_length_le (show(L.set j cr).length≤j+1 by simp [hLl.out]),nv_take_succ (l:=L.set j cr) (by simpa using hjL),take_set_self,List.getElem_set_self])
    have hW:=hrow'.wds (hL.set j (show cr<4294967296 by omega)) (show _=j+1 by simp [hLl.out]) (Nat.le_refl _) (by unfold maxLen;omega)
    have hE5:=hEr.setCell hgl' (.int .u32 (cr:Int)) (p:=⟨g,j,none⟩)
    go_wp2_with fail
    refine(nfit_any _ _ _ _ _ hW (by omega) (by rw [hval.out];exact HS.out)).mono ?_
    rintro e w6 ⟨A6,n6,c6,rfl,hR,hE6⟩
    rw [hval.out]at hR
    go_wp2
    go_ret2
    exact⟨A6,n6,c6,rfl,hR,hEc.trans (hE5.trans hE6)⟩
end Go.Proofs.YtngdldcgkaplbaaGreat