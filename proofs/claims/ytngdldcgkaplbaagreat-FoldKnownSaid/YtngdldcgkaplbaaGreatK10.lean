import Derived.Test.YtngdldcgkaplbaaGreatK09
set_option linter.unusedVariables false
set_option linter.unusedSimpArgs false
set_option maxHeartbeats 40000000
set_option maxRecDepth 100000
namespace Go.Proofs.YtngdldcgkaplbaaGreat
open Go.RowKit Nm
def Only (g:Nat)(w w':World):Prop:=∀b,b≠g→w'.heap[b]?=w.heap[b]?
theorem Only.refl (g:Nat)(w:World):Only g w w:=fun _ _=>rfl
theorem Only.drewN {g:Nat}{w w':World}(h:Only g w w')(n:Nat):Only g w (w'.drewN n):=h
theorem Only.setCell {g:Nat}{w w':World}(h:Only g w w'){p:Addr}(hp:p.block=g)(u:Value):Only g w (w'.setCell p u):=fun b hb=>by
 rw [Below.heap_setCell w' p u b (by rw [hp];exact hb)];exact h b hb
theorem Row.only {g b:Nat}{w w':World}{L:List Nat}(h:Row w b L)(hb:b≠g)(ho:Only g w w'):Row w' b L:=(ho b hb).trans h
def ExtO (wv:World)(g:Nat)(w0 w:World):Prop:=Ext wv w∧Only g w0 w
theorem ExtO.drewN {wv w0 w:World}{g:Nat}(h:ExtO wv g w0 w)(n:Nat):ExtO wv g w0 (w.drewN n):=⟨h.1.drewN n,h.2.drewN n⟩
theorem ExtO.setCell {wv w0 w:World}{g:Nat}(h:ExtO wv g w0 w){p:Addr}(hg:wv.heap.size≤p.block)(u:Value)(hp:p.block=g:=by rfl):ExtO wv g w0 (w.setCell p u):=⟨h.1.setCell hg u,h.2.setCell hp u⟩
theorem lz32_any (x:Nat)(w:World)(h:x < 4294967296) :
  Calls Tryz.prog 166 #[.int .u32 (x:Int)] w fun e w'=>e=.returned (.int .i64 (32-(bl x:Int)))∧w=w':=by
 have hb:bl x≤32:=by rw [bl_le_iff];exact h
 have HL:=Lib.hid (fun w=>len32_any x w h)
 generalize bl x=b at hb HL ⊢
 go_enter Tryz.func166,Tryz.ntmps166
 go_wp2_with (go_at_call 160;refine(HL.out _).mono ?_;rintro e w' ⟨rfl,rfl⟩)
 go_ret
 exact⟨rfl,rfl⟩
theorem ndigit_any (g k n M c:Nat)(L0 vs Lv:List Nat)(gv d:Nat)(wv w:World)(hrow:Row w g L0)(D:DigIn L0 vs k n M)(hM:M≤17592186044416)(hvr:Row w gv Lv)(hvs:vs=Lv.take n)(hne:gv≠g)(hE:Ext wv w)(hg:wv.heap.size≤g) :
  Calls Tryz.prog 168 #[.slice (some ⟨g,k,none⟩) (n+1) c,(.slice (some ⟨gv,0,none⟩) n d)] w fun e w'=>e=.returned (.int .u32 ((nv L0/(4294967296^k*nv vs):Nat):Int))∧(∃L,Row w' g L∧Ws L∧L.length=M∧nv L+nv L0/(4294967296^k*nv vs)*(4294967296^k*nv vs)=nv L0)∧Row w' gv Lv∧ExtO wv g w w':=by
 have hE:ExtO wv g w w:=⟨hE,Only.refl g w⟩
 have hVR:∀i,i<n→∃h:i<Lv.length,Lv[i]=vs.getD i 0:=fun i hi=>by
  have hl:=D.vlen
  rw [hvs,List.length_take]at hl
  have hi2:i<Lv.length:=by omega
  refine⟨hi2,?_⟩
  rw [hvs,←getD_of (by rw [List.length_take];omega),List.getElem_take]
 have VR:=Lib.hid hVR
 clear hVR hvs
 have hn2:=D.n2
 have hroom:=D.room
 have hlen:=D.len
 obtain⟨T,hT⟩:∃T,T=L0.getD (k+n) 0*4294967296+L0.getD (k+n-1) 0:=⟨_,rfl⟩
 obtain⟨v1,hv1⟩:∃v,v=vs.getD (n-1) 0:=⟨_,rfl⟩
 obtain⟨v2,hv2⟩:∃v,v=vs.getD (n-2) 0:=⟨_,rfl⟩
 obtain⟨u2,hu2⟩:∃v,v=L0.getD (k+n-2) 0:=⟨_,rfl⟩
 have hv1b:=D.v1_big
 have hv1l:=D.v1_lt
 have hunl:=D.un_le
 have hst:=D.start hT hv1
 have HLESS:=Lib.hid (fun(x rest:Nat)=>D.less (x:=x) (rest:=rest) hT hv1 hv2 hu2)
 have HSTOP:=Lib.hid (fun(x rest:Nat)=>D.stop (x:=x) (rest:=rest) hT hv1 hv2 hu2)
 have DD:=Lib.hid D
 have hc0:=hrow.cell (i:=k+n) (by omega)
 have hc1:=hrow.cell (i:=k+(n-1)) (by omega)
 have hc2:=hrow.cell (i:=k+(n-2)) (by omega)
 have hu32:=D.ws.get (k:=k+n) (by omega)
 have hu132:=D.ws.get (k:=k+(n-1)) (by omega)
 have hu232:=D.ws.get (k:=k+(n-2)) (by omega)
 rw [getD_of]at hc0 hc1 hc2 hu32 hu132 hu232
 rw [show k+n-1=k+(n-1) by omega]at hT
 rw [show k+n-2=k+(n-2) by omega]at hu2
 rw [←hu2]at hc2 hu232
 obtain⟨u0,hu0⟩:∃v,v=L0.getD (k+n) 0:=⟨_,rfl⟩
 obtain⟨u1,hu1⟩:∃v,v=L0.getD (k+(n-1)) 0:=⟨_,rfl⟩
 rw [←hu0]at hc0 hT hu32
 rw [←hu1]at hc1 hT hu132
 obtain⟨hx1,he1⟩:=VR.out (n-1) (by omega)
 obtain⟨hx2,he2⟩:=VR.out (n-2) (by omega)
 have hd1:=hvr.cell hx1
 have hd2:=hvr.cell hx2
 have hv232:=D.wv.get (k:=n-2) (by have:=D.vlen;omega)
 rw [he1]at hd1
 rw [he2]at hd2
 rw [getD_of]at hv232
 rw [←hv1]at hd1 hv1b hv1l hunl
 rw [←hv2]at hd2 hv232
 have hor:=word_or3 u0 u1 hu32 hu132
 rw [←hT]at hor
 have hT64:T<18446744073709551616:=by omega
 have e1:(T:Int)/(v1:Int)=((T/v1:Nat):Int):=by push_cast;rfl
 have e2:(T:Int)%(v1:Int)=((T%v1:Nat):Int):=by push_cast;rfl
 have hst1:=hst.1
 have hst2:=hst.2
 have hst3:T/v1*v1+T%v1=T:=by have:=Nat.div_add_mod T v1;rw [Nat.mul_comm]at this;exact this
 have hst4:T%v1<v1:=Nat.mod_lt _ (by omega)
 obtain⟨x0,hx0⟩:∃x,x=T/v1:=⟨_,rfl⟩
 obtain⟨r0,hr0⟩:∃r,r=T%v1:=⟨_,rfl⟩
 rw [←hx0]at e1 hst1 hst2 hst3
 rw [←hr0]at e2 hst3 hst4
 have hy0:((v1:Int)==0)=false:=by rw [beq_eq_false_iff_ne];omega
 have b1:(n:Int)-1=((n-1:Nat):Int):=by omega
 have b2:(n:Int)-2=((n-2:Nat):Int):=by omega
 have b3:((n-1:Nat):Int)<(n:Int):=by omega
 have b4:((n-2:Nat):Int)<(n:Int):=by omega
 have b5:((n-1:Nat):Int)<(n:Int)+1:=by omega
 have b6:((n-2:Nat):Int)<(n:Int)+1:=by omega
 obtain⟨Q,hQ⟩:∃Q,Q=nv L0/(4294967296^k*nv vs):=⟨_,rfl⟩
 have HQ:=Lib.hid hQ
 rw [←hQ]at hst1 HLESS HSTOP ⊢
 have HST1:=Lib.hid hst1
 have HST3:=Lib.hid hst3
 clear hst1 hst3 hst hx0 hr0 hT hv1 hv2 hu2 hu0 hu1 hQ hx1 hx2 he1 he2 hunl D
 have HE2:=Lib.hid e2
 go_enter Tryz.func168,Tryz.ntmps168
 go_wp2
 go_quiet (fail)
 go_wp2
 go_quiet (fail)
 go_wp2
 rw [HE2.out]
 go_loopw [7,8] (fun xv rv wr=>∃(x rest:Nat),xv=.int .u64 x∧rv=.int .u64 rest∧x≤4294967297∧rest<8589934592∧Hid (x*v1+rest=T)∧Hid (Q≤x)∧∃q,wr=w.drewN q) (fun xv _ _=>(intOf xv).toNat)
 case atStart=>exact⟨x0,r0,rfl,rfl,hst2,by omega,HST3,HST1,by(try simp only [World.drewN_drewN]);exact⟨_,rfl⟩⟩
 case round=>
  obtain⟨x,rest,rfl,rfl,hx,hrest,hxT,hxQ,q,rfl⟩:=hrel
  by_cases hex:4294967296≤rest∨(x<4294967296∧x*v2≤rest*4294967296+u2)
  ·have hs:=HSTOP.out x rest hxT.out hxQ.out hx hex
   have hx32:=hs.1
   have HXQ:=Lib.hid hs.2
   clear hs
   rcases hex with hr|⟨hr,hp⟩
   have hq0:(rest:Int)/4294967296=1:=by omega
   go_wp2
   go_quiet (fail)
   go_wp2
   rotate_left
   by_cases hr2:4294967296≤rest
   have hq0:(rest:Int)/4294967296=1:=by omega
   clear hp
   go_wp2
   go_quiet (fail)
   go_wp2
   rotate_left
   have hq0:(rest:Int)/4294967296=0:=by omega
   have hq1:(x:Int)/4294967296=0:=by omega
   have hp64:x*v2≤18446744065119617025:=Nat.le_trans (Nat.mul_le_mul (show x≤4294967295 by omega) (show v2≤4294967295 by omega)) (by omega)
   obtain⟨p,hpv⟩:∃p,p=x*v2:=⟨_,rfl⟩
   rw [←hpv]at hp hp64
   have ep:(x:Int)*(v2:Int)=(p:Int):=by rw [hpv];exact(Int.natCast_mul x v2).symm
   have hor2:=word_or3 rest u2 (by omega) hu232
   obtain⟨s2,hs2⟩:∃s,s=rest*4294967296+u2:=⟨_,rfl⟩
   rw [←hs2]at hor2 hp
   have hs64:s2<18446744073709551616:=by omega
   clear hpv hs2
   go_wp2
   go_quiet (fail)
   go_wp2
   generalize decide (s2<p)=bb
   clear ep hor2 hp hs64 hp64 hq1 hr2 hr
   all_goals
    have hrx:=hrow.drewN (q+nq)
    have hEx:=hE.drewN (q+nq)
    have hvx:=hvr.drewN (q+nq)
    generalize w.drewN (q+nq)=wx at hrx hEx hvx ⊢
    clear hc0 hc1 hc2 hd1 hd2 hrow hE hq0 hxT hvr
    go_loopw [9,10,87] (fun bv cv iv wr=>∃(i br cr:Nat) (L:List Nat),i≤n∧iv=.int .i64 i∧bv=.int .u32 (br:Int)∧cv=.int .u64 (cr:Int)∧br≤1∧cr<4294967296∧Row wr g L∧Hid (TakeRel L0 vs k n M x L i (cr+br))∧Row wr gv Lv∧ExtO wv g w wr) (fun _ _ iv _=>n-(intOf iv).toNat)
    case atStart=>exact⟨0,0,0,L0,Nat.zero_le _,rfl,rfl,rfl,by omega,by omega,hrx,Lib.hid (TakeRel.zero DD.out),hvx,hEx⟩
    case round=>
     obtain⟨i,br,cr,L,hi,rfl,rfl,rfl,hbr,hcr,hrL,hrel,hvr,hEr⟩:=hrel
     have hLl:=hrel.out.len
     have hLw:=hrel.out.ws
     by_cases hlt:i<n
     ·have hc1:=hrL.cell (i:=k+i) (by omega)
      have hf1:=hrL.frozen (k+i)
      have hu32:=hLw.get (k:=k+i) (by omega)
      rw [getD_of]at hc1 hu32
      obtain⟨hy,hey⟩:=VR.out i hlt
      have hcY:=hvr.cell hy
      rw [hey]at hcY
      have hy32:=DD.out.wv.get (k:=i) (by have:=DD.out.vlen;omega)
      rw [getD_of]at hy32
      obtain⟨u,hu⟩:∃u,u=L.getD (k+i) 0:=⟨_,rfl⟩
      obtain⟨y,hye⟩:∃y,y=vs.getD i 0:=⟨_,rfl⟩
      rw [←hu]at hc1 hu32
      rw [←hye]at hcY hy32
      have hp64:x*y≤18446744065119617025:=Nat.le_trans (Nat.mul_le_mul (show x≤4294967295 by omega) (show y≤4294967295 by omega)) (by omega)
      obtain⟨p,hpv⟩:∃p,p=x*y:=⟨_,rfl⟩
      rw [←hpv]at hp64
      have ep:(x:Int)*(y:Int)=(p:Int):=by rw [hpv];exact(Int.natCast_mul x y).symm
      obtain⟨t,ht⟩:∃t,t=cr+p:=⟨_,rfl⟩
      have ht64:t<18446744073709551616:=by omega
      obtain⟨lo,hlo⟩:∃lo,lo=t%4294967296:=⟨_,rfl⟩
      obtain⟨cr',hcr'⟩:∃c,c=t/4294967296:=⟨_,rfl⟩
      obtain⟨u',hu'⟩:∃u',u'=(u+4294967296-(lo+br))%4294967296:=⟨_,rfl⟩
      obtain⟨hi',hhi⟩:∃h,h=if u<lo+br then 1 else 0:=⟨_,rfl⟩
      have hlo32:lo<4294967296:=by omega
      have hcr32:cr'<4294967296:=by omega
      have hhi1:hi'≤1:=by rw [hhi];split<;>omega
      have HS:=Lib.hid (fun w=>sub32_any u lo br u' hi' w hu32 hlo32 hbr hu' hhi)
      have HST:=Lib.hid (hrel.out.step DD.out hlt hye hu hbr (t:=t) (by rw [ht,hpv]) hlo hcr' hu' hhi)
      have g5:(cr:Int)+(p:Int)=(t:Int):=by omega
      have g6:(t:Int)%4294967296=(lo:Int):=by omega
      have g7:(t:Int)/4294967296=(cr':Int):=by omega
      have hr':=hrL.set_ (k+i) u'
      clear hu hye hpv ht hlo hcr' hu' hhi hrel hLl hLw hy hey
      go_wp2_with (go_at_call 199;refine(HS.out _).mono ?_;rintro e w' ⟨rfl,rfl⟩)
      go_roundw
      case rel=>exact⟨i+1,hi',cr',_,by omega,by go_num,rfl,rfl,hhi1,hcr32,hr',HST,hvr.far hne _,hEr.setCell hg _⟩
      case measure=>simp [intOf];omega
     ·have hin:i=n:=by omega
      rw [hin]at hrel
      have hc1:=hrL.cell (i:=k+n) (by omega)
      have hf1:=hrL.frozen (k+n)
      have hu32:=hLw.get (k:=k+n) (by omega)
      rw [getD_of]at hc1 hu32
      obtain⟨u,hu⟩:∃u,u=L.getD (k+n) 0:=⟨_,rfl⟩
      rw [←hu]at hc1 hu32
      obtain⟨u',hu'⟩:∃u',u'=(u+4294967296-(cr+br))%4294967296:=⟨_,rfl⟩
      have g6:(cr:Int)%4294967296=(cr:Int):=by omega
      have g7:(x:Int)%4294967296=(x:Int):=by omega
      have hr':=hrL.set_ (k+n) u'
      have hE':=hEr.setCell (p:=⟨g,k+n,none⟩) hg (.int .u32 (u':Int))
      have hv':=hvr.far (p:=⟨g,k+n,none⟩) hne (.int .u32 (u':Int))
      by_cases hbo:u<cr+br
      ·obtain⟨hi',hhi⟩:∃h,h=if u<cr+br then 1 else 0:=⟨_,rfl⟩
       have HS:=fun w=>sub32_any u cr br u' hi' w hu32 hcr hbr hu' hhi
       have hl:=hrel.out.last DD.out hu hcr hbr hu' hhi
       rw [if_pos hbo]at hhi
       subst hhi
       obtain⟨h1,h2,h3,h4,-⟩:=hl
       have hxe:=dig_over DD.out (by rw [←HQ.out];exact HXQ.out) h3 h2 h1 h4
       rw [←HQ.out]at hxe
       have hx1:1≤x:=by omega
       have g8:(x:Int)-1=(Q:Int):=by omega
       have g9:(Q:Int)%4294967296=(Q:Int):=by omega
       rw [hxe]at h3
       obtain⟨L1,hL1⟩:∃L1,L1=L.set (k+n) u':=⟨_,rfl⟩
       rw [←hL1]at h1 h2 h3 h4 hr'
       have H3:=Lib.hid h3
       have HG:=Lib.hid (GiveRel.mk (L1:=L1) (vs:=vs) (k:=k) (n:=n) (M:=M) (L:=L1) (i:=0) (c:=0) h1 h2 (by simp [nv]) h4)
       have HSS:=Lib.hid HS
       clear hu hu' hrel hLl hLw hin hL1 h3 h4 h1 h2 hxe hbo HS
       go_wp2_with (go_at_call 199;refine(HSS.out _).mono ?_;rintro e w' ⟨rfl,rfl⟩)
       generalize wr.setCell _ _=wy at hr' hE' hv' ⊢
       clear hvr
       go_loopw [13,135] (fun ov iv wr=>∃(i o:Nat) (L:List Nat),i≤n∧iv=.int .i64 i∧ov=.int .u32 (o:Int)∧o≤1∧Row wr g L∧Hid (GiveRel L1 vs k n M L i o)∧Row wr gv Lv∧ExtO wv g w wr) (fun _ iv _=>n-(intOf iv).toNat)
       case atStart=>exact⟨0,0,L1,Nat.zero_le _,rfl,rfl,by omega,hr',HG,hv',hE'⟩
       case round=>
        obtain⟨i,o,L,hi,rfl,rfl,ho,hrL,hrel,hvr,hEr⟩:=hrel
        have hLl:=hrel.out.len
        have hLw:=hrel.out.ws
        by_cases hlt:i<n
        ·have hc1:=hrL.cell (i:=k+i) (by omega)
         have hf1:=hrL.frozen (k+i)
         have hu32:=hLw.get (k:=k+i) (by omega)
         rw [getD_of]at hc1 hu32
         obtain⟨hy,hey⟩:=VR.out i hlt
         have hcY:=hvr.cell hy
         rw [hey]at hcY
         have hy32:=DD.out.wv.get (k:=i) (by have:=DD.out.vlen;omega)
         rw [getD_of]at hy32
         obtain⟨u,hu⟩:∃u,u=L.getD (k+i) 0:=⟨_,rfl⟩
         obtain⟨y,hye⟩:∃y,y=vs.getD i 0:=⟨_,rfl⟩
         rw [←hu]at hc1 hu32
         rw [←hye]at hcY hy32
         obtain⟨lo,hlo⟩:∃lo,lo=(u+y+o)%4294967296:=⟨_,rfl⟩
         obtain⟨o',ho'⟩:∃c,c=(u+y+o)/4294967296:=⟨_,rfl⟩
         have ho1:o'≤1:=by omega
         have HS:=Lib.hid (fun w=>add32_any u y o lo o' w hu32 hy32 ho hlo ho')
         have HST:=Lib.hid (hrel.out.step hroom hlt hye hu hlo ho')
         have hr':=hrL.set_ (k+i) lo
         clear hu hye hlo ho' hrel hLl hLw hy hey
         go_wp2_with (go_at_call 128;refine(HS.out _).mono ?_;rintro e w' ⟨rfl,rfl⟩)
         go_roundw
         case rel=>exact⟨i+1,o',_,by omega,by go_num,rfl,ho1,hr',HST,hvr.far hne _,hEr.setCell hg _⟩
         case measure=>simp [intOf];omega
        ·have hin:i=n:=by omega
         rw [hin]at hrel
         have hc1:=hrL.cell (i:=k+n) (by omega)
         have hf1:=hrL.frozen (k+n)
         have hu32:=hLw.get (k:=k+n) (by omega)
         rw [getD_of]at hc1 hu32
         obtain⟨u,hu⟩:∃u,u=L.getD (k+n) 0:=⟨_,rfl⟩
         rw [←hu]at hc1 hu32
         obtain⟨lo,hlo⟩:∃lo,lo=(u+o)%4294967296:=⟨_,rfl⟩
         have hl:=hrel.out.last DD.out hu ho hlo (by rw [←HQ.out];exact H3.out)
         rw [←HQ.out]at hl
         have HL:=Lib.hid hl
         have g1:((u:Int)+(o:Int))%4294967296=(lo:Int):=by omega
         have hr':=hrL.set_ (k+n) lo
         have hE':=hEr.setCell (p:=⟨g,k+n,none⟩) hg (.int .u32 (lo:Int))
         have hv':=hvr.far (p:=⟨g,k+n,none⟩) hne (.int .u32 (lo:Int))
         clear hu hlo hrel hLl hLw hin hl
         go_wp2
         go_ret
         exact⟨rfl,⟨_,hr',HL.out.2.1,HL.out.1,HL.out.2.2⟩,hv',hE'⟩
      ·obtain⟨hi',hhi⟩:∃h,h=if u<cr+br then 1 else 0:=⟨_,rfl⟩
       have HS:=fun w=>sub32_any u cr br u' hi' w hu32 hcr hbr hu' hhi
       have hl:=hrel.out.last DD.out hu hcr hbr hu' hhi
       rw [if_neg hbo]at hhi
       subst hhi
       obtain⟨h1,h2,h3,h4,-⟩:=hl
       have hfit:=dig_fits DD.out (by rw [←HQ.out];exact hxQ.out) h3
       rw [←HQ.out]at hfit
       have HF:=Lib.hid hfit
       have HSS:=Lib.hid HS
       have H12:=Lib.hid (And.intro h1 h2)
       clear hu hu' hrel hLl hLw hin h3 h4 h1 h2 hfit hbo HS
       go_wp2_with (go_at_call 199;refine(HSS.out _).mono ?_;rintro e w' ⟨rfl,rfl⟩)
       go_ret
       exact⟨ret_int (congrArg Int.ofNat HF.out.1),⟨_,hr',H12.out.2,H12.out.1,HF.out.2⟩,hv',hE'⟩
  ·have hr:¬4294967296≤rest:=fun h=>hex (.inl h)
   have hq0:(rest:Int)/4294967296=0:=by omega
   by_cases hx1:4294967296≤x
   ·have hs:=HLESS.out x rest hxT.out hxQ.out (.inl hx1)
    have hq1:(x:Int)/4294967296=1:=by omega
    clear hex
    go_wp2
    go_quiet (fail)
    go_wp2
    go_roundw
    case rel=>exact⟨x-1,rest+v1,by go_num,by go_num,by omega,by omega,Lib.hid (by have:=hxT.out;rw [Nat.sub_mul];have h2:1*v1≤x*v1:=Nat.mul_le_mul_right _ hs.2;omega),Lib.hid hs.1,by(try simp only [World.drewN_drewN]);exact⟨_,rfl⟩⟩
    case measure=>simp [intOf];omega
   ·have hp:rest*4294967296+u2<x*v2:=by
     rcases Nat.lt_or_ge (rest*4294967296+u2) (x*v2)with h|h
     ·exact h
     ·exact absurd (.inr ⟨by omega,h⟩) hex
    have hs:=HLESS.out x rest hxT.out hxQ.out (.inr hp)
    have hq1:(x:Int)/4294967296=0:=by omega
    have hp64:x*v2≤18446744065119617025:=Nat.le_trans (Nat.mul_le_mul (show x≤4294967295 by omega) (show v2≤4294967295 by omega)) (by omega)
    obtain⟨p,hpv⟩:∃p,p=x*v2:=⟨_,rfl⟩
    rw [←hpv]at hp hp64
    have ep:(x:Int)*(v2:Int)=(p:Int):=by rw [hpv];exact(Int.natCast_mul x v2).symm
    have hor2:=word_or3 rest u2 (by omega) hu232
    obtain⟨s2,hs2⟩:∃s,s=rest*4294967296+u2:=⟨_,rfl⟩
    rw [←hs2]at hor2 hp
    have hs64:s2<18446744073709551616:=by omega
    clear hpv hs2 hex
    go_wp2
    go_quiet (fail)
    go_wp2
    go_roundw
    case rel=>exact⟨x-1,rest+v1,by go_num,by go_num,by omega,by omega,Lib.hid (by have:=hxT.out;rw [Nat.sub_mul];have h2:1*v1≤x*v1:=Nat.mul_le_mul_right _ hs.2;omega),Lib.hid hs.1,by(try simp only [World.drewN_drewN]);exact⟨_,rfl⟩⟩
    case measure=>simp [intOf];omega
theorem Row.pre {w:World}{g:Nat}{L:List Nat}(h:Row w g L)(hL:Ws L){m c:Nat}(hm:m≤L.length)(hc:m≤c)(hcm:c≤maxLen):Wds w (some ⟨g,0,none⟩) m c (L.take m):=by
 refine⟨by rw [List.length_take];omega,hc,hcm,hL.take m,fun _=>⟨_,rfl,h.lt,fun k x hk=>?_⟩⟩
 rw [List.getElem?_take]at hk
 split at hk
 ·have hk':k<L.length:=(List.getElem?_eq_some_iff.1 hk).1
  have:=h.cell hk'
  rw [List.getElem?_eq_getElem hk']at hk
  injection hk with hk
  rw [←hk,←this]
  unfold Addr.add
  split
  ·subst_vars;rfl
  ·simp
 ·cases hk
theorem take_set_in (L:List Nat)(i m x:Nat):(L.set i x).take m=(L.take m).set i x:=by
 apply List.ext_getElem
 ·simp
 ·intro k h1 h2
  simp only [List.getElem_take,List.getElem_set]
theorem ncut_exact (ad:Addr)(n c:Nat)(xs:List Nat)(w:World)(h:Wds w (some ad) n c xs)(hn:n≤35184372088832) :
  Calls Tryz.prog 121 #[.slice (some ad) n c] w fun e w'=>e=.returned (.slice (some ad) (nw (nv xs)) (nw (nv xs)))∧w=w':=by
 have hw:=fun w (h:Wds w (some ad) n c xs)=>nwords_any (some ad) n c xs w h hn
 have hle:nw (nv xs)≤n:=by have:=nw_nv_le h.ws;have:=h.len;omega
 have hlc:=h.lec
 obtain⟨m,hm⟩:∃m,m=nw (nv xs):=⟨_,rfl⟩
 rw [←hm]at hw hle ⊢
 have HW:=Lib.hid hw
 clear hw hm
 go_enter Tryz.func121,Tryz.ntmps121
 iterate 2
  go_wp2_with fail
  refine(HW.out _ h).mono ?_
  rintro e w1 ⟨rfl,hw1⟩
  subst hw1
 clear h
 go_wp2
 go_ret
 exact⟨rfl,rfl⟩
theorem nback_pre (g m c:Nat)(F:List Nat)(s:Nat)(w0 w:World)(hrow:Row w g F)(hF:Ws F)(hmF:m≤F.length)(hm:m≤17592186044416)(hmc:m≤c)(hcm:c≤maxLen)(hs:s < 32)(hE:Ext w0 w)(hg:w0.heap.size≤g) :
  Calls Tryz.prog 169 #[.slice (some ⟨g,0,none⟩) m c,.int .i64 (s:Int)] w (fun e w'=>RetW (nv (F.take m)/2^s) w0 e w'∧Only g w w'):=by
 obtain⟨L0,hL0e⟩:∃L0,L0=F.take m:=⟨_,rfl⟩
 have hL0:Ws L0:=by rw [hL0e];exact hF.take m
 have hlen:L0.length=m:=by rw [hL0e,List.length_take];omega
 have hst0:BackRel L0 (F.take m) s m 0:=by rw [←hL0e];exact⟨hlen,hL0,by simp [nv,Nat.mod_one],fun k hk _=>getD_of hk⟩
 have HST0:=Lib.hid hst0
 rw [←hL0e]
 clear hL0e hst0
 go_enter Tryz.func169,Tryz.ntmps169
 go_wp2
 go_loopw [9] (fun iv wr=>∃(i:Nat) (L:List Nat),i≤m∧iv=.int .i64 i∧Row wr g L∧Ws L∧Hid (m≤L.length)∧Hid (BackRel L0 (L.take m) s m i)∧ExtO w0 g w wr) (fun iv _=>m-(intOf iv).toNat)
 case atStart=>exact⟨0,F,Nat.zero_le _,rfl,hrow,hF,Lib.hid hmF,HST0,⟨hE,Only.refl g w⟩⟩
 case round=>
  obtain⟨i,L,hi,rfl,hr,hLw,hmL,hrel,hEr⟩:=hrel
  have hLl:=hmL.out
  by_cases hlt:i<m
  ·have hiL:i<L.length:=by omega
   have hc1:=hr.cell hiL
   have hf1:=hr.frozen i
   have ha32:=hLw.get hiL
   have haE:L[i]=L0.getD i 0:=by
    have:=hrel.out.same i (by rw [List.length_take];omega) (Nat.le_refl _)
    rw [List.getElem_take]at this;exact this
   obtain⟨a,ha⟩:∃a,a=L[i]:=⟨_,rfl⟩
   rw [←ha]at hc1 ha32 haE
   by_cases h2:i+1<m
   ·have hiL2:i+1<L.length:=by omega
    have hc2:=hr.cell hiL2
    have hb32:=hLw.get hiL2
    have hbE:L[i+1]=L0.getD (i+1) 0:=by
     have:=hrel.out.same (i+1) (by rw [List.length_take];omega) (by omega)
     rw [List.getElem_take]at this;exact this
    obtain⟨b,hb⟩:∃b,b=L[i+1]:=⟨_,rfl⟩
    rw [←hb]at hc2 hb32 hbE
    have hor:=word_or2 a b ha32 hb32
    have hst:=fun lo=>hrel.out.step (lo:=lo) hL0 hlen hlt hs
    rw [←haE,←hbE]at hst
    obtain⟨X,hX⟩:∃X,X=a+4294967296*b:=⟨_,rfl⟩
    rw [←hX]at hor hst
    have hX64:X<18446744073709551616:=by omega
    have hXd:X/2^s≤X:=Nat.div_le_self _ _
    have e1:(X:Int)/2^s=((X/2^s:Nat):Int):=by push_cast;rfl
    obtain⟨Y,hY⟩:∃Y,Y=X/2^s:=⟨_,rfl⟩
    rw [←hY]at e1 hst hXd
    have e2:(Y:Int)%4294967296=((Y%4294967296:Nat):Int):=by omega
    have hlo32:Y%4294967296<4294967296:=by omega
    obtain⟨lo,hlo⟩:∃lo,lo=Y%4294967296:=⟨_,rfl⟩
    rw [←hlo]at e2 hst hlo32
    have hst':=hst lo rfl
    rw [←take_set_in]at hst'
    have HST:=Lib.hid hst'
    have hr':=hr.set_ i lo
    have hLw':=hLw.set i hlo32
    have hLl':=Lib.hid (show m≤(L.set i lo).length by rw [List.length_set];exact hLl)
    clear hst hst' hlo hY hX ha hb haE hbE hrel hLl
    go_wp2
    go_roundw
    case rel=>exact⟨i+1,_,by omega,by go_num,hr',hLw',hLl',HST,hEr.setCell hg _⟩
    case measure=>simp [intOf];omega
   ·have hie:i+1=m:=by omega
    have hst:=fun lo=>hrel.out.step (lo:=lo) hL0 hlen hlt hs
    rw [←haE,←getD_out (l:=L0) (k:=i+1) (by omega),Nat.mul_zero,Nat.add_zero]at hst
    have hXd:a/2^s≤a:=Nat.div_le_self _ _
    have e1:(a:Int)/2^s=((a/2^s:Nat):Int):=by push_cast;rfl
    obtain⟨Y,hY⟩:∃Y,Y=a/2^s:=⟨_,rfl⟩
    rw [←hY]at e1 hst hXd
    have e2:(Y:Int)%4294967296=(Y:Int):=by omega
    have hst':=hst Y (by omega)
    rw [←take_set_in]at hst'
    have HST:=Lib.hid hst'
    have hr':=hr.set_ i Y
    have hLw':=hLw.set i (x:=Y) (by omega)
    have hLl':=Lib.hid (show m≤(L.set i Y).length by rw [List.length_set];exact hLl)
    clear hst hst' hY ha haE hrel hLl hie
    go_wp2
    go_roundw
    case rel=>exact⟨i+1,_,by omega,by go_num,hr',hLw',hLl',HST,hEr.setCell hg _⟩
    case measure=>simp [intOf];omega
  ·have hval:=hrel.out.val
   rw [List.take_of_length_le (by rw [List.length_take];omega)]at hval
   have h1:=nv_lt hL0
   rw [hlen]at h1
   rw [Nat.mod_eq_of_lt (by rw [show i=m by omega];exact Nat.lt_of_le_of_lt (Nat.div_le_self _ _) h1)]at hval
   have HV:=Lib.hid hval
   have hW:=hr.pre hLw hLl hmc hcm
   clear hval h1 hrel hLl
   go_wp2_with fail
   refine(ncut_exact _ _ _ _ _ hW (by omega)).mono ?_
   rintro e w4 ⟨rfl,rfl⟩
   have hR:=hW.cut
   rw [HV.out]at hR
   rw [HV.out]
   go_wp2
   go_ret
   exact⟨⟨_,_,_,rfl,hR,hEr.1⟩,hEr.2⟩
theorem top_nd {U:Nat}(h:U≠0):∃(hk:nw U-1<(nd U).length),0<(nd U)[nw U-1]∧(nd U)[nw U-1]<4294967296∧bl U=32*(nw U-1)+bl (nd U)[nw U-1]:=by
 obtain⟨hk,h1,h2⟩:=top_word (Ws.nd U) (by rw [nv_nd];exact h)
 simp only [nv_nd]at hk h1 h2
 exact⟨hk,by omega,(Ws.nd U).get hk,h2⟩
theorem nquo_any (A:Option Addr)(n c:Nat)(xs:List Nat)(B:Option Addr)(m d:Nat)(ys:List Nat)(w:World)(h:Wds w A n c xs)(hn:n≤8796093022208)(k:Wds w B m d ys)(hm:m≤8796093022208)(h1:nw (nv xs)≤16384)(h2:nw (nv ys)≤16384)(h0:nv ys≠0) :
  Calls Tryz.prog 119 #[.slice A n c,.slice B m d] w (RetQR (nv xs/nv ys) (nv xs%nv ys) w):=by
 have hW1:=fun w h=>nwords_any A n c xs w h (by omega)
 have hW2:=fun w h=>nwords_any B m d ys w h (by omega)
 have hp1:=h.pre
 have hp2:=k.pre
 have hle1:nw (nv xs)≤n:=by have:=nw_nv_le h.ws;have:=h.len;omega
 have hle2:nw (nv ys)≤m:=by have:=nw_nv_le k.ws;have:=k.len;omega
 have hlc1:=h.lec
 have hlc2:=k.lec
 have hcm1:=h.cmax
 have hcm2:=k.cmax
 obtain⟨V,hV⟩:∃V,V=nv xs:=⟨_,rfl⟩
 obtain⟨U,hU⟩:∃U,U=nv ys:=⟨_,rfl⟩
 rw [←hV]at hW1 hp1 hle1 h1 ⊢
 rw [←hU]at hW2 hp2 hle2 h2 h0 ⊢
 have hvV:=nv_nd V
 have hvU:=nv_nd U
 have hq1:1≤nw U:=by
  rcases Nat.eq_zero_or_pos (nw U)with e|e
  ·have:=lt_pow_nw U;rw [e]at this;omega
  ·exact e
 obtain⟨htk,ht0,ht32,htb⟩:=top_nd h0
 obtain⟨tp,htp⟩:∃t,t=(nd U)[nw U-1]:=⟨_,rfl⟩
 rw [←htp]at ht0 ht32 htb
 have hlV:(nd V).length=nw V:=nd_length V
 have hlU:(nd U).length=nw U:=nd_length U
 have hVlt:=lt_pow_nw V
 have hUlt:=lt_pow_nw U
 have hVU:V<U∨(U≤V∧nw U≤nw V):=by
  rcases Nat.lt_or_ge V U with e|e
  ·exact .inl e
  ·exact .inr ⟨e,nw_mono e⟩
 obtain⟨p,hp⟩:∃p,p=nw V:=⟨_,rfl⟩
 obtain⟨q,hq⟩:∃q,q=nw U:=⟨_,rfl⟩
 have htpe:∃hk:q-1<(nd U).length,(nd U)[q-1]=tp:=by subst hq;exact⟨htk,htp.symm⟩
 rw [←hp]at hW1 hp1 hle1 h1 hlV hVlt hVU
 rw [←hq]at hW2 hp2 hle2 h2 hq1 hlU hUlt hVU htb
 clear htk htp
 obtain⟨vs,hvs⟩:∃vs,vs=nd V:=⟨_,rfl⟩
 obtain⟨us,hus⟩:∃us,us=nd U:=⟨_,rfl⟩
 have hUw:Ws us:=by rw [hus];exact Ws.nd U
 rw [←hvs]at hp1 hvV hlV
 rw [←hus]at hp2 hvU hlU htpe
 have hLG:Hid (∀g w,w.cell? ⟨g,0,none⟩=some (.slice A p c)→w.cell? ⟨g,1,none⟩=some (.slice B q d)→Wds w A p c vs→Wds w B q d us→Calls Tryz.prog 123 #[.slice (some ⟨g,0,none⟩) 2 2] w fun e w'=>e=.returned (.bool false)∧w=w'):=
  Lib.hid (fun g w a b c' d'=>nlong_two g 2 A p c vs B q d us w a b c' (by omega) (by rw [hvV,←hp];exact h1) d' (by omega) (by rw [hvU,←hq];exact h2))
 have HCM:=Lib.hid (fun w a b=>ncmp_any A p c vs B q d us w a (by omega) b (by omega))
 rw [hvV,hvU]at HCM
 have HW1:=Lib.hid hW1
 have HW2:=Lib.hid hW2
 have HVV:=Lib.hid hvV
 have HVU:=Lib.hid hvU
 have HP:=Lib.hid hp
 have HQ:=Lib.hid hq
 have HTB:=Lib.hid htb
 have HVL:=Lib.hid hVlt
 have HUL:=Lib.hid hUlt
 have HTE:=Lib.hid htpe
 clear hW1 hW2 hV hU hp hq hvs hus hvV hvU htb hVlt hUlt htpe
 have hpc:p≤c:=by omega
 have hqd:q≤d:=by omega
 have hq0:((q:Int)==0)=false:=by rw [beq_eq_false_iff_ne];omega
 go_enter Tryz.func119,Tryz.ntmps119
 go_wp2_with fail
 refine wp_region_steady (Ext w) (by kernel_rfl) (by kernel_rfl) (Ext.refl w).drew ?_
 repeat (refine wpG_step (fun K hK=>?_)
         go_simp
         apply StepG.mk
         intro wz hz
         first
         |(go_simp
           first|exact rfl|exact⟨rfl,hz⟩)
         |(go_simp
           go_at_call 122
           first
           |(with_reducible refine(HW1.out _ (h.ext hz)).mono ?_)
           |(with_reducible refine(HW2.out _ (k.ext hz)).mono ?_)
           rintro e w8 ⟨rfl,rfl⟩
           exact⟨rfl,hz⟩)
         refine hK _ ?_
         clear hK K)
 refine wpG_nil ?_
 intro w2 hz2
 have hP2:=hp1.ext hz2
 have hQ2:=hp2.ext hz2
 have hP3:=hP2.alloc (.cells #[.slice A p c,.slice B q d] 65)
 have hQ3:=hQ2.alloc (.cells #[.slice A p c,.slice B q d] 65)
 have hE0:Ext w (w2.alloc (.cells #[.slice A p c,.slice B q d] 65)):=hz2.alloc _
 have hcell0:(w2.alloc (.cells #[.slice A p c,.slice B q d] 65)).cell? ⟨w2.heap.size,0,none⟩=some (.slice A p c):=by simp
 have hcell1:(w2.alloc (.cells #[.slice A p c,.slice B q d] 65)).cell? ⟨w2.heap.size,1,none⟩=some (.slice B q d):=by simp
 clear hP2 hQ2 hz2 h k hp1 hp2 HW1 HW2
 go_wp2_with fail
 generalize w2.heap.size=g0 at hcell0 hcell1 ⊢
 generalize w2.alloc _=w3 at hP3 hQ3 hE0 hcell0 hcell1 ⊢
 go_wp2_with (first|(go_at_call 123;refine(hLG.out _ _ hcell0 hcell1 hP3 hQ3).mono ?_;rintro e w' ⟨rfl,rfl⟩))
 refine(HCM.out _ hP3 hQ3).mono ?_
 rintro e w4 ⟨rfl,z,rfl⟩
 have hP4:=hP3.drewN z
 have hQ4:=hQ3.drewN z
 have hE4:=hE0.drewN z
 generalize w3.drewN z=w4 at hP4 hQ4 hE4 ⊢
 clear hP3 hQ3 hE0 hcell0 hcell1 hLG HCM
 rcases hVU with hlt|⟨hle,hqp⟩
 ·have HF:Hid (V/U=0∧V%U=V):=Lib.hid ⟨Nat.div_eq_of_lt hlt,Nat.mod_eq_of_lt hlt⟩
  have hNN:=nnorm_any A p c vs w4 hP4 (by omega)
  rw [HVV.out]at hNN
  have HN:=Lib.hid hNN
  have hcc:cmpN V U=-1:=cmpN_lt hlt
  rw [hcc]
  clear hNN hlt hcc
  go_wp2_with fail
  refine HN.out.mono ?_
  rintro e w5 ⟨g,m',rfl,hr5,hg5,hm',hE5⟩
  have hW5:=hr5.wds (Ws.nd V) (n:=m') (c:=m') (by rw [nd_length,hm']) (Nat.le_refl _) (by rw [hm',←HP.out];unfold maxLen;omega)
  clear hm'
  go_wp2
  go_ret3
  exact⟨_,_,_,_,_,_,rfl,by rw [HF.out.1];exact Wds.nil_ (by unfold maxLen;omega),by rw [HF.out.2];exact hW5,hE4.trans hE5⟩
 ·have hcc:0≤cmpN V U:=by unfold cmpN;rw [if_neg (by omega)];split<;>omega
  obtain⟨cc,hcce⟩:∃cc,cc=cmpN V U:=⟨_,rfl⟩
  rw [←hcce]at hcc ⊢
  have HLE:=Lib.hid hle
  clear hcce hle
  by_cases h1q:q=1
  ·obtain⟨ad,hx,hB,_,hcT⟩:=hQ4.at_ (k:=0) (by omega)
   have hte:us[0]=tp:=by
    obtain⟨hk,e⟩:=HTE.out
    simp only [h1q]at e
    exact e
   rw [hte,show ad.add 0=ad by simp [Addr.add]]at hcT
   have hUt:U=tp:=by
    rw [←HVU.out]
    have:=nv_drop_eq (l:=us) (k:=0) hx
    rw [List.drop_zero,hte,List.drop_of_length_le (by omega),nv_nil,Nat.mul_zero,Nat.add_zero]at this
    exact this
   have hNO:=none_any A p c vs tp w4 hP4 (by omega) ht0 ht32
   rw [HVV.out]at hNO
   have HN:=Lib.hid hNO
   have HUT:=Lib.hid hUt
   subst hB
   subst h1q
   clear hNO hUt hte HQ HTB HTE HVU HUL
   go_wp2_with fail
   refine HN.out.mono ?_
   rintro e w5 ⟨A5,n5,c5,B5,m5,d5,rfl,hQ5,hR5,hE5⟩
   rw [←HUT.out]at hQ5 hR5
   go_wp2
   go_ret3
   exact⟨_,_,_,_,_,_,rfl,hQ5,hR5,hE4.trans hE5⟩
  ·have hq2:2≤q:=by omega
   have hbt:1≤bl tp:=bl_pos (by omega)
   have hbt2:bl tp≤32:=by rw [bl_le_iff];exact ht32
   have HLZ:=Lib.hid (fun w=>lz32_any tp w ht32)
   obtain⟨s,hs⟩:∃s:Nat,s=32-bl tp:=⟨_,rfl⟩
   have hs32:s<32:=by omega
   have hse:32-(bl tp:Int)=(s:Int):=by omega
   rw [hse]at HLZ
   have HUS:Hid (nw (U*2^s)=q∧U*2^s<4294967296^q∧4294967296^q≤2*(U*2^s)):=Lib.hid (by
    have e1:bl (U*2^s)=32*q:=by
     rw [bl_mul_pow s h0,HTB.out];omega
    refine⟨by rw [nw_bl,e1];omega,?_,?_⟩
    ·rw [pow32,←bl_le_iff,e1];exact Nat.le_refl _
    ·have h3:¬bl (U*2^s)≤32*q-1:=by omega
     rw [bl_le_iff]at h3
     rw [pow32,show 32*q=32*q-1+1 by omega,Nat.pow_succ]
     omega)
   have HUQ:Hid (4294967296^(q-1)≤U):=Lib.hid (by
    rcases Nat.lt_or_ge U (4294967296^(q-1))with e|e
    ·have:=(nw_le_iff U (q-1)).2 e
     have:=HQ.out
     omega
    ·exact e)
   have HSA:=Lib.hid (fun wz hz=>nshift_any A p c vs s wz hz (by omega) hs32)
   have HSB:=Lib.hid (fun wz hz=>nshift_any B q d us s wz hz (by omega) hs32)
   rw [HVV.out]at HSA
   rw [HVU.out]at HSB
   obtain⟨hk,htpe⟩:=HTE.out
   obtain⟨ad,hx,hB,_,hcT⟩:=hQ4.at_ (k:=q-1) (by omega)
   rw [htpe]at hcT
   subst hB
   have b1:(q:Int)-1=((q-1:Nat):Int):=by omega
   have b2:((q-1:Nat):Int)<(q:Int):=by omega
   have hcf:decide (cc<0)=false:=decide_eq_false (by omega)
   have hq1f:((q:Int)==1)=false:=by rw [beq_eq_false_iff_ne];omega
   clear hs hse hbt hbt2 HTE hk htpe hx HTB h1q
   go_wp2_with (go_at_call 166;refine(HLZ.out _).mono ?_;rintro e w' ⟨rfl,rfl⟩)
   clear hcT HLZ
   go_region_with (first
    |(go_at_call_of 167 (Value.slice A p c);refine(HSA.out _ ?_).mono ?_;(first|exact hP4|exact hP4.drew.ext hEv);rintro e wu ⟨gu,Lu,rfl,hru,hLuw,hLul,hLuv,hgu,hEu⟩)
    |(go_at_call_of 167 (Value.slice (some ad) q d);refine(HSB.out _ ?_).mono ?_;(first|exact hQ4|exact hQ4.drew.ext hEu);rintro e wv ⟨gv,Lv,rfl,hrv,hLvw,hLvl,hLvv,hgv,hEv⟩))
   have hRu:=hru.ext hEv
   have hne:gv≠gu:=by have:=hru.lt;omega
   have hEw:Ext w wv:=hE4.trans ((Ext.refl w4).drew.trans (hEu.trans hEv))
   have hgu4:w.heap.size≤gu:=Nat.le_trans hE4.size hgu
   have hgv4:w.heap.size≤gv:=by have:=hru.lt;omega
   clear hru hEv hEu hE4 hgu hgv HSA HSB hP4 hQ4
   generalize wv=wx at hRu hrv hEw ⊢
   obtain⟨K,hK⟩:∃K,K=p-q+1:=⟨_,rfl⟩
   have hKe:(p:Int)-(q:Int)+1=(K:Int):=by omega
   have hKq:K+q=p+1:=by omega
   have hmk:=run_make32 K (by omega) wx
   have hr0:=Row.new wx (List.replicate K 0)
   have hE5:Ext w (wx.alloc (.cells (u32s (List.replicate K 0)).toArray 105)):=hEw.alloc _
   have hu5:=hRu.alloc (.cells (u32s (List.replicate K 0)).toArray 105)
   have hv5:=hrv.alloc (.cells (u32s (List.replicate K 0)).toArray 105)
   have hnu:wx.heap.size≠gu:=by have:=hRu.lt;omega
   have hnv:wx.heap.size≠gv:=by have:=hrv.lt;omega
   have hgq:w.heap.size≤wx.heap.size:=hEw.size
   have HQR:=Lib.hid (QuoRel.start (a:=V) (b:=U) (s:=s) (n:=q) (la:=p) (K:=K) (U:=Lu) HVL.out HUQ.out hKq (by omega) (by omega) hLuw hLuv)
   obtain⟨vt,hvt⟩:∃vt,vt=Lv.take q:=⟨_,rfl⟩
   have hvtl:vt.length=q:=by rw [hvt,List.length_take];omega
   have hvtv:nv vt=U*2^s:=by rw [hvt,nv_take_of_lt (by rw [hLvv];exact HUS.out.2.1),hLvv]
   have hvtw:Ws vt:=by rw [hvt];exact hLvw.take q
   have HDG:=Lib.hid (fun(Lu' Lq:List Nat) (r:Nat) (hr:r+1≤K) (hqr:QuoRel (V*2^s) (U*2^s) q K Lu' Lq (r+1))=>hqr.dig hr hq2 hvtv hvtl hvtw (by rw [hvtv];exact HUS.out.2.2))
   have hVp:0<U*2^s:=Nat.mul_pos (by omega) (Nat.pow_pos (by omega))
   have HVP:=Lib.hid (And.intro hVp hvtv)
   have HK:=Lib.hid hK
   have HVT:=Lib.hid hvt
   clear hRu hrv hEw hK hvt hvtl hvtv hvtw hVp hLuw hLul hLuv hLvw hLvv
   go_wp2
   clear hmk
   generalize wx.alloc _=w5 at hr0 hE5 hu5 hv5 ⊢
   generalize wx.heap.size=gq at hr0 hnu hnv hgq ⊢
   go_loopw [74] (fun iv wr=>∃(i:Nat) (Lu Lq:List Nat),i≤K∧iv=.int .i64 i∧Row wr gu Lu∧Row wr gq Lq∧Row wr gv Lv∧Hid (QuoRel (V*2^s) (U*2^s) q K Lu Lq (K-i))∧Ext w wr) (fun iv _=>K-(intOf iv).toNat)
   case atStart=>exact⟨0,Lu,_,Nat.zero_le _,rfl,hu5,hr0,hv5,HQR,hE5⟩
   case round=>
    obtain⟨i,Lu',Lq,hi,rfl,hru,hrq,hrv,hrel,hEr⟩:=hrel
    by_cases hlt:i<K
    ·obtain⟨r,hr⟩:∃r,r=K-1-i:=⟨_,rfl⟩
     have hrK:r+1≤K:=by omega
     have hri:(K:Int)-1-(i:Int)=(r:Int):=by omega
     have hrel2:QuoRel (V*2^s) (U*2^s) q K Lu' Lq (r+1):=by rw [show r+1=K-i by omega];exact hrel.out
     have D:=HDG.out Lu' Lq r hrK hrel2
     have hql:=hrel2.qlen
     have hul:=hrel2.ulen
     have hx32:=D.q_lt
     have HD:=Lib.hid (ndigit_any gu r q (K+q) (p+1-r) Lu' vt Lv gv (q+1) w wr hru D (by omega) hrv HVT.out hne hEr hgu4)
     obtain⟨x,hx⟩:∃x,x=nv Lu'/(4294967296^r*nv vt):=⟨_,rfl⟩
     rw [←hx]at HD hx32
     have HST:=Lib.hid (fun(U':List Nat) h1 h2 (h3:nv U'+x*(4294967296^r*nv vt)=nv Lu')=>hrel2.step (x:=x) (U':=U') hrK HVP.out.1 (by rw [hx,HVP.out.2]) hx32 h1 h2 (by rw [hx,HVP.out.2]at h3;exact h3))
     have HRI:=Lib.hid hr
     have hrq':r<Lq.length:=by omega
     clear hrel hrel2 D hx hr hul
     go_wp2_with fail
     rw [show r+q+1-r=q+1 by omega]
     refine HD.out.mono ?_
     rintro e w6 ⟨rfl,⟨U',hru6,hU'w,hU'l,hU'v⟩,hrv6,hE6⟩
     have hrel6:=Lib.hid (HST.out U' hU'l hU'w hU'v)
     have hrq6:=hrq.only hnu hE6.2
     have hE6:=hE6.1
     have hf6:=hrq6.frozen r
     have hc6:=hrq6.cell hrq'
     have hrq7:=hrq6.set_ r x
     clear hU'v
     go_wp2
     go_roundw
     case rel=>exact⟨i+1,U',_,by omega,by go_num,hru6.far (Ne.symm hnu) _,hrq7,hrv6.far (Ne.symm hnv) _,Lib.hid (by rw [show K-(i+1)=r by have:=HRI.out;omega];exact hrel6.out),hE6.setCell hgq _⟩
     case measure=>simp [intOf];omega
    ·have hiK:i=K:=by omega
     rw [hiK,Nat.sub_self]at hrel
     have hend:=hrel.out.end_ (by omega)
     have hul:=hrel.out.ulen
     have huw:=hrel.out.uws
     have hqw:=hrel.out.qws
     have hql:=hrel.out.qlen
     have hW1:=hru.pre huw (m:=q) (c:=p+1) (by omega) (by omega) (by unfold maxLen;omega)
     have hlt2:nv Lu'<4294967296^q:=by
      have h3:=hrel.out.lt
      rw [Nat.pow_zero,Nat.one_mul]at h3
      exact Nat.lt_trans h3 HUS.out.2.1
     have hnvt:nv (Lu'.take q)=V%U*2^s:=by rw [nv_take_of_lt hlt2];exact hend.2
     have HCX:=Lib.hid (ncut_exact ⟨gu,0,none⟩ q (p+1) (Lu'.take q) wr hW1 (by omega))
     rw [hnvt]at HCX
     have hnwq:nw (V%U*2^s)≤q:=by rw [nw_le_iff,←hend.2];exact hlt2
     have hWq:=hrq.wds hqw hql (Nat.le_refl _) (by unfold maxLen;omega)
     have HCQ:=Lib.hid (ncut_exact ⟨gq,0,none⟩ K K Lq wr hWq (by omega))
     have hnQ:nw (nv Lq)≤Lq.length:=nw_nv_le hqw
     have hndq:=nd_take hqw
     rw [hend.1]at HCQ hnQ hndq
     have HNQ:=Lib.hid hndq
     obtain⟨rr,hrr⟩:∃rr,rr=nw (V%U*2^s):=⟨_,rfl⟩
     rw [←hrr]at HCX hnwq
     have HBK:=Lib.hid (fun wz hz hE=>nback_pre gu rr rr Lu' s w wz hz huw (by omega) (by omega) (Nat.le_refl _) (by unfold maxLen;omega) hs32 hE hgu4)
     have hnr:nv (Lu'.take rr)/2^s=V%U:=by
      rw [nv_take_of_lt (by rw [hend.2,hrr];exact lt_pow_nw _),hend.2,Nat.mul_div_cancel _ (Nat.pow_pos (by omega))]
     rw [hnr]at HBK
     clear hrel hiK hend hW1 hlt2 hnvt hrr hnr
     go_wp2_with fail
     refine HCX.out.mono ?_
     rintro e w6 ⟨rfl,rfl⟩
     go_wp2_with fail
     refine HCQ.out.mono ?_
     rintro e w7 ⟨rfl,rfl⟩
     go_wp2_with fail
     refine(HBK.out _ hru hEr).mono ?_
     rintro e w8 ⟨⟨A8,n8,c8,rfl,hR8,hE8⟩,hO8⟩
     have hQ8:=(hrq.only hnu hO8).pre hqw (m:=nw (V/U)) (c:=nw (V/U)) hnQ (Nat.le_refl _) (by unfold maxLen;omega)
     rw [←HNQ.out]at hQ8
     go_wp2
     go_ret3
     exact⟨_,_,_,_,_,_,rfl,hQ8,hR8,hE8⟩
end Go.Proofs.YtngdldcgkaplbaaGreat
namespace Go.Proofs.YtngdldcgkaplbaaGreat.Rn
open Nm
theorem rr_alike {Z W:Nat}(h:∀ t u:Nat,t < 18014398509481984→(Z < 2*(t*2^u)↔W < 2*(t*2^u))∧(2*(t*2^u) < Z↔2*(t*2^u) < W))(d:Int)(neg:Bool):rnd d neg Z=rnd d neg W:=by
 have hrv:∀k,(Z<4*rv k↔W<4*rv k)∧(4*rv k<Z↔4*rv k<W):=fun k=>by
  obtain⟨s,h1,_,h3,_⟩:=rv_dvd k
  have:=h s (k/4503599627370496-1+1) (by omega)
  have e:s*2^(k/4503599627370496-1+1)=rv k*2:=by rw [h1,Nat.pow_succ,Nat.mul_assoc]
  rw [e]at this
  rw [show 4*rv k=2*(rv k*2) by omega]
  exact this
 have hmid:∀k,(Z<2*(rv k+rv (k+1))↔W<2*(rv k+rv (k+1)))∧(2*(rv k+rv (k+1))<Z↔2*(rv k+rv (k+1))<W):=fun k=>by
  obtain⟨s,h1,h2,h3,_⟩:=rv_dvd k
  have:=h (2*s+1) (k/4503599627370496-1) (by omega)
  have e:rv k+rv (k+1)=(2*s+1)*2^(k/4503599627370496-1):=by
   rw [h1,h2,←Nat.add_mul];congr 1;omega
  rw [e];exact this
 have hr:rung (Z/4)=rung (W/4):=by
  obtain⟨a1,a2⟩:=rung_spec (Z/4)
  have b1:=(hrv (rung (Z/4))).1
  have b2:=(hrv (rung (Z/4)+1)).1
  exact(rung_of_rv _ (by omega) (by omega)).symm
 have e0:Z=4*rv (rung (W/4))↔W=4*rv (rung (W/4)):=by
  have:=hrv (rung (W/4))
  omega
 have e1:=(hmid (rung (W/4))).2
 have e2:Z=2*(rv (rung (W/4))+rv (rung (W/4)+1))↔W=2*(rv (rung (W/4))+rv (rung (W/4)+1)):=by
  have:=hmid (rung (W/4))
  omega
 have ha:away d neg Z=away d neg W:=by
  unfold away
  rw [hr,decide_eq_decide.2 e1,decide_eq_decide.2 e2]
  by_cases h0:Z=4*rv (rung (W/4))
  ·rw [if_pos h0,if_pos (e0.1 h0)]
  ·rw [if_neg h0,if_neg (fun h=>h0 (e0.2 h))]
 unfold rnd rr
 rw [hr,ha]
theorem rnd_mark {q A B N M:Nat}(hM:0 < M)(hq:18014398509481984≤q)(hlo:q*(M*2^(A+1)) < N*2^B)(hhi:N*2^B < (q+1)*(M*2^(A+1)))(d:Int)(neg:Bool) :
  rnd d neg (zq ((2*q+1)*2^A) (2^B))=rnd d neg (zq N M):=by
 refine rr_alike (fun t u ht=>?_) d neg
 have hB:0<2^B:=two_pow_pos B
 have hA:0<2^A:=two_pow_pos A
 rw [zq_lt hB,zq_gt hB,zq_lt hM,zq_gt hM,Nat.mul_assoc,←Nat.pow_add]
 have hN:∀C:Nat,(N<C↔N*2^B<C*2^B)∧(C<N↔C*2^B<N*2^B):=fun C=>⟨(Nat.mul_lt_mul_right hB).symm,(Nat.mul_lt_mul_right hB).symm⟩
 rw [(hN _).1,(hN _).2]
 have e1:t*2^u*M*2^B=t*2^(u+B)*M:=by rw [Nat.pow_add,Nat.mul_right_comm,Nat.mul_assoc t]
 rw [e1]
 obtain⟨P,hP⟩:∃P,P=N*2^B:=⟨_,rfl⟩
 rw [←hP]at hlo hhi ⊢
 rw [Nat.pow_succ]at hlo hhi
 rcases Nat.lt_or_ge A (u+B)with hc|hc
 ·obtain⟨c,hce⟩:∃c,u+B=A+1+c:=⟨u+B-(A+1),by omega⟩
  rw [hce,Nat.pow_add 2 (A+1) c,Nat.pow_succ]
  obtain⟨T,hT⟩:∃T,T=t*2^c:=⟨_,rfl⟩
  have e2:t*(2^A*2*2^c)=2*T*2^A:=by rw [hT];simp only [Nat.mul_assoc,Nat.mul_comm,Nat.mul_left_comm]
  rw [e2]
  have e3:2*T*2^A*M=T*(M*(2^A*2)):=by simp only [Nat.mul_assoc,Nat.mul_comm,Nat.mul_left_comm]
  rw [e3,Nat.mul_lt_mul_right hA,Nat.mul_lt_mul_right hA]
  generalize M*(2^A*2)=E at *
  constructor
  ·constructor
   ·intro h
    have h2:(q+1)*E≤T*E:=Nat.mul_le_mul_right E (by omega)
    omega
   ·intro h
    have h2:q*E<T*E:=by omega
    have:=Nat.lt_of_mul_lt_mul_right h2
    omega
  ·constructor
   ·intro h
    have h2:T*E≤q*E:=Nat.mul_le_mul_right E (by omega)
    omega
   ·intro h
    have h2:T*E<(q+1)*E:=by omega
    have:=Nat.lt_of_mul_lt_mul_right h2
    omega
 ·have h1:t*2^(u+B)≤t*2^A:=Nat.mul_le_mul_left t (Nat.pow_le_pow_right (by omega) hc)
  have h2:(t+1)*2^A≤q*2^A:=Nat.mul_le_mul_right _ (by omega)
  rw [Nat.add_mul,Nat.one_mul]at h2
  have h3:t*2^(u+B)*M≤q*2^A*M:=Nat.mul_le_mul_right M (by omega)
  have e4:q*(M*(2^A*2))=2*(q*2^A*M):=by simp only [Nat.mul_assoc,Nat.mul_comm,Nat.mul_left_comm]
  rw [e4]at hlo
  have e5:(2*q+1)*2^A=q*2^A+q*2^A+2^A:=by rw [Nat.add_mul,Nat.mul_assoc,Nat.one_mul];omega
  rw [e5]
  generalize t*2^(u+B)*M=X at *
  generalize t*2^(u+B)=Y at *
  generalize q*2^A*M=Z at *
  generalize q*2^A=V at *
  constructor
  ·constructor
   ·intro h;omega
   ·intro h;omega
  ·constructor
   ·intro h;omega
   ·intro h;omega
theorem rnd_quo {X Y q:Nat}{m:Bool}{e:Int}{N M A B:Nat}(hY:0 < Y)(hM:0 < M)(hq:q=X / Y)(hm:m=decide (X % Y≠0))(hb:m=true→55≤bl q)(hAB:(A:Int) - B=e+1075)(hN:X*2^A*M=N*(Y*2^B))(d:Int)(neg:Bool) :
  rnd d neg (zd (2*q+m.toNat) (e-1))=rnd d neg (zq N M):=by
 have hB:0<2^B:=two_pow_pos B
 have hA:0<2^A:=two_pow_pos A
 have hdm:=Nat.div_add_mod X Y
 have hlt:=Nat.mod_lt X hY
 rw [←hq]at hdm
 cases m with
 |false=>
  have h0:X%Y=0:=by have:=of_decide_eq_false hm.symm;omega
  rw [h0,Nat.add_zero]at hdm
  rw [Bool.toNat_false,Nat.add_zero]
  have e1:zd (2*q) (e-1)=zq (2*q*2^A) (2^(B+1)):=by rw [zd_of (A:=A) (B:=B+1) (by omega)]
  rw [e1]
  congr 1
  refine zq_congr (two_pow_pos _) hM ?_
  refine Nat.eq_of_mul_eq_mul_right hY ?_
  rw [Nat.pow_succ]
  have a1:2*q*2^A*M*Y=2*(Y*q*2^A*M):=by simp only [Nat.mul_assoc,Nat.mul_comm,Nat.mul_left_comm]
  have a2:N*(2^B*2)*Y=2*(N*(Y*2^B)):=by simp only [Nat.mul_assoc,Nat.mul_comm,Nat.mul_left_comm]
  rw [a1,a2,hdm,hN]
 |true=>
  have h0:X%Y≠0:=of_decide_eq_true hm.symm
  have hq55:18014398509481984≤q:=by
   have h1:=hb rfl
   rcases Nat.lt_or_ge q 18014398509481984 with h|h
   ·have:bl q≤54:=by rw [bl_le_iff];exact h
    omega
   ·exact h
  rw [Bool.toNat_true]
  have e1:zd (2*q+1) (e-1)=zq ((2*q+1)*2^A) (2^(B+1)):=by rw [zd_of (A:=A) (B:=B+1) (by omega)]
  rw [e1]
  have hYp:Y*2^B*q=Y*q*2^B:=Nat.mul_right_comm _ _ _
  refine rnd_mark hM hq55 ?_ ?_ d neg
  ·refine Nat.lt_of_mul_lt_mul_right (a:=Y) ?_
   rw [Nat.pow_succ,Nat.pow_succ]
   have a1:q*(M*(2^A*2))*Y=Y*q*(2*(2^A*M)):=by simp only [Nat.mul_assoc,Nat.mul_comm,Nat.mul_left_comm]
   have a2:N*(2^B*2)*Y=2*(N*(Y*2^B)):=by simp only [Nat.mul_assoc,Nat.mul_comm,Nat.mul_left_comm]
   have a3:2*(X*2^A*M)=X*(2*(2^A*M)):=by simp only [Nat.mul_assoc,Nat.mul_comm,Nat.mul_left_comm]
   rw [a1,a2,←hN,a3]
   have hpos:0<2*(2^A*M):=Nat.mul_pos (by omega) (Nat.mul_pos hA hM)
   exact(Nat.mul_lt_mul_right hpos).2 (by omega)
  ·refine Nat.lt_of_mul_lt_mul_right (a:=Y) ?_
   rw [Nat.pow_succ,Nat.pow_succ]
   have a1:(q+1)*(M*(2^A*2))*Y=Y*(q+1)*(2*(2^A*M)):=by simp only [Nat.mul_assoc,Nat.mul_comm,Nat.mul_left_comm]
   have a2:N*(2^B*2)*Y=2*(N*(Y*2^B)):=by simp only [Nat.mul_assoc,Nat.mul_comm,Nat.mul_left_comm]
   have a3:2*(X*2^A*M)=X*(2*(2^A*M)):=by simp only [Nat.mul_assoc,Nat.mul_comm,Nat.mul_left_comm]
   rw [a1,a2,←hN,a3]
   have hpos:0<2*(2^A*M):=Nat.mul_pos (by omega) (Nat.mul_pos hA hM)
   refine(Nat.mul_lt_mul_right hpos).2 ?_
   rw [Nat.mul_add,Nat.mul_one];omega
end Go.Proofs.YtngdldcgkaplbaaGreat.Rn
namespace Go.Proofs.YtngdldcgkaplbaaGreat
open Go.RowKit Nm Rn
def Same75 (N D:Nat)(e:Int)(N' M:Nat):Prop:=∃A B:Nat,(A:Int)-B=e+1075∧0<M∧0<D∧N*2^A*M=N'*(D*2^B)
theorem Same75.tiny {N D:Nat}{e:Int}{N' M:Nat}(h:Same75 N D e N' M)(hN:N≠0)(ht:(bl N:Int) - bl D+e < -1100)(d:Int)(neg:Bool):rnd d neg (zd (2*1) (-1200-1))=rnd d neg (zq N' M):=by
 obtain⟨A,B,hAB,hM,hD,h⟩:=h
 rw [zd_tiny (by omega) (by rw [show bl 1=1 from rfl];omega)]
 congr 1
 have h1:=lt_pow_bl N
 have h2:=pow_le_of_bl (n:=D) (by omega)
 have h3:N*2^A<D*2^B:=by
  have a1:N*2^A<2^bl N*2^A:=(Nat.mul_lt_mul_right (two_pow_pos A)).2 h1
  have a2:2^(bl D-1)*2^B≤D*2^B:=Nat.mul_le_mul_right _ h2
  rw [←Nat.pow_add]at a1 a2
  have a3:2^(bl N+A)≤2^(bl D-1+B):=Nat.pow_le_pow_right (by omega) (by have:=bl_pos (n:=D) (by omega);omega)
  omega
 have hN':N'≠0:=by
  intro h0
  rw [h0,Nat.zero_mul]at h
  have:=Nat.mul_pos (Nat.mul_pos (show 0<N by omega) (two_pow_pos A)) hM
  omega
 have hlt:N'<M:=by
  rcases Nat.lt_or_ge N' M with c|c
  ·exact c
  ·have b1:=Nat.mul_le_mul_right (D*2^B) c
   have b2:N*2^A*M<D*2^B*M:=(Nat.mul_lt_mul_right hM).2 h3
   rw [Nat.mul_comm M]at b1
   omega
 unfold zq
 rw [Nat.div_eq_of_lt hlt,Nat.mod_eq_of_lt hlt,if_neg hN']
theorem Same75.main {N D:Nat}{e:Int}{N' M k:Nat}(h:Same75 N D e N' M)(hk:57+bl D=k+bl N)(hN:N≠0)(d:Int)(neg:Bool) :
  rnd d neg (zd (2*(N*2^k/D)+(decide (N*2^k%D≠0)).toNat) (e-k-1))=rnd d neg (zq N' M)∧55≤bl (N*2^k/D):=by
 obtain⟨A,B,hAB,hM,hD,h⟩:=h
 have hb:55≤bl (N*2^k/D):=by
  have h1:bl (N*2^k)=57+bl D:=by rw [bl_mul_pow k hN];omega
  have h2:=pow_le_of_bl (n:=N*2^k) (by have:=Nat.mul_pos (show 0<N by omega) (two_pow_pos k);omega)
  rw [h1]at h2
  have h3:=lt_pow_bl D
  have h4:2^56≤N*2^k/D:=by
   rw [Nat.le_div_iff_mul_le hD]
   have:2^56*D≤2^56*2^bl D:=Nat.mul_le_mul_left _ (Nat.le_of_lt h3)
   rw [←Nat.pow_add]at this
   rw [show 57+bl D-1=56+bl D by omega]at h2
   omega
  have:¬bl (N*2^k/D)≤54:=by
   rw [bl_le_iff]
   have:2^54≤2^56:=Nat.pow_le_pow_right (by omega) (by omega)
   omega
  omega
 refine⟨rnd_quo (X:=N*2^k) (Y:=D) (A:=A) (B:=B+k) hD hM rfl rfl (fun _=>hb) (by omega) ?_ d neg,hb⟩
 rw [Nat.pow_add]
 have a1:N*2^k*2^A*M=N*2^A*M*2^k:=by simp only [Nat.mul_assoc,Nat.mul_comm,Nat.mul_left_comm]
 have a2:N'*(D*(2^B*2^k))=N'*(D*2^B)*2^k:=by simp only [Nat.mul_assoc,Nat.mul_comm,Nat.mul_left_comm]
 rw [a1,a2,h]
def RetRat (d:Int)(neg:Bool)(N D:Nat)(E:Int)(w:World)(e:Ending)(w':World):Prop:=
 ∃k:Nat,e=.returned (.float .f64 (rnd d neg (zd (2*(N*2^k/D)+(decide (N*2^k%D≠0)).toNat) (E-k-1))))∧(decide (N*2^k%D≠0)=true→55≤bl (N*2^k/D))∧Ext w w'
structure LongRel (N D k0 b0 k q r:Nat):Prop where
 val:N*2^k=q*D+r
 lt:r<D
 zero:q=0→D≤2*r
 dig:k+b0=k0+bl q
theorem bl_two (q b:Nat)(hb:b≤1)(h:2*q+b≠0):bl (2*q+b)=bl q+1:=by
 rw [bl_half h,show(2*q+b)/2=q by omega]
theorem LongRel.one {N D k0 b0 k q r:Nat}(h:LongRel N D k0 b0 k q r)(hr:D - r≤r):LongRel N D k0 b0 (k+1) (q*2^1+1) (r-(D-r)):=by
 have hv:=h.val
 have hl:=h.lt
 refine⟨?_,by omega,by omega,?_⟩
 ·rw [Nat.pow_succ,←Nat.mul_assoc,hv,Nat.pow_one,Nat.add_mul,Nat.add_mul,Nat.one_mul,Nat.mul_right_comm]
  omega
 ·have:=bl_two q 1 (by omega) (by omega)
  rw [Nat.pow_one,Nat.mul_comm q 2,this]
  have:=h.dig
  omega
theorem LongRel.nought {N D k0 b0 k q r:Nat}(h:LongRel N D k0 b0 k q r)(hr:¬ D - r≤r):LongRel N D k0 b0 (k+1) (q*2^1) (r+r):=by
 have hv:=h.val
 have hl:=h.lt
 have hq:q≠0:=fun e=>by have:=h.zero e;omega
 refine⟨?_,by omega,by omega,?_⟩
 ·rw [Nat.pow_succ,←Nat.mul_assoc,hv,Nat.pow_one,Nat.add_mul,Nat.mul_right_comm]
  omega
 ·have:=bl_two q 0 (by omega) (by omega)
  rw [Nat.add_zero]at this
  rw [Nat.pow_one,Nat.mul_comm q 2,this]
  have:=h.dig
  omega
theorem LongRel.quo {N D k0 b0 k q r:Nat}(h:LongRel N D k0 b0 k q r):N*2^k/D=q∧N*2^k%D=r:=by
 have hl:=h.lt
 have hD:0<D:=by omega
 rw [h.val]
 constructor
 ·rw [Nat.add_comm,Nat.add_mul_div_right _ _ hD,Nat.div_eq_of_lt hl,Nat.zero_add]
 ·rw [Nat.add_comm,Nat.add_mul_mod_self_right,Nat.mod_eq_of_lt hl]
theorem rlong_any (d:Int)(neg:Bool)(A:Option Addr)(n c:Nat)(xs:List Nat)(B:Option Addr)(m dd:Nat)(ys:List Nat)(exp:Int)(w:World)(h:Wds w A n c xs)(hn:n≤8796093022208)(k:Wds w B m dd ys)(hm:m≤8796093022208)
  (hN:nv xs≠0) (hD:nv ys≠0) (hNn:bl (nv xs)≤524288) (hDn:bl (nv ys)≤524288) (e1:-1099511627776≤exp) (e2:exp≤1099511627776):
  Calls Tryz.prog 120 #[.int .i64 d,.bool neg,.slice A n c,.slice B m dd,.int .i64 exp] w (RetRat d neg (nv xs) (nv ys) exp w):=by
 have HL1:=Lib.hid (fun w h=>nlen_any A n c xs w h (by omega))
 have HL2:=Lib.hid (fun w h=>nlen_any B m dd ys w h (by omega))
 have hSH:=fun s w h hs=>nshl_any A n c xs s w h (by omega) hN hs
 have hQ:=fun(A1:Option Addr) (n1 c1:Nat) (s:Nat) (w:World) (h:Wds w A1 n1 c1 (nd s)) (k:Wds w B m dd ys) (hs:nw s≤16384)=>nquo_any A1 n1 c1 (nd s) B m dd ys w h (by have:=h.len;rw [nd_length]at this;omega) k hm (by rw [nv_nd];exact hs) (nw_of_bl hDn) hD
 have hSB:=fun(A1:Option Addr) (n1 c1:Nat) (r:Nat) (w:World) (k:Wds w B m dd ys) (h:Wds w A1 n1 c1 (nd r)) (hr:r≤nv ys) (hs:nw r≤16384)=>nsub_any B m dd ys A1 n1 c1 (nd r) w k hm h (by have:=h.len;rw [nd_length]at this;omega) (nw_of_bl hDn) (by rw [nv_nd];exact hs) (by rw [nv_nd];exact hr)
 simp only [nv_nd]at hQ hSB
 obtain⟨V,hV⟩:∃V,V=nv xs:=⟨_,rfl⟩
 obtain⟨D,hDe⟩:∃D,D=nv ys:=⟨_,rfl⟩
 rw [←hV]at HL1 hN hNn hSH ⊢
 rw [←hDe]at HL2 hD hDn hQ hSB ⊢
 have hDnw:nw D≤16384:=nw_of_bl hDn
 obtain⟨bV,hbV⟩:∃b,b=bl V:=⟨_,rfl⟩
 obtain⟨bD,hbD⟩:∃b,b=bl D:=⟨_,rfl⟩
 have hbVp:1≤bV:=by rw [hbV];exact bl_pos hN
 have hbDp:1≤bD:=by rw [hbD];exact bl_pos hD
 rw [←hbV]at HL1 hNn hSH
 rw [←hbD]at HL2 hDn
 obtain⟨k0,hk0⟩:∃k0,k0=bD-bV:=⟨_,rfl⟩
 have hk0e:max 0 ((bD:Int)-(bV:Int))=(k0:Int):=by omega
 have hSH0:=hSH k0
 obtain⟨s,hs⟩:∃s,s=V*2^k0:=⟨_,rfl⟩
 have hsb:bl s=bV+k0:=by rw [hs,bl_mul_pow k0 hN,←hbV]
 have hsn:nw s≤16384:=nw_of_bl (by omega)
 have HSH:=Lib.hid (fun w h=>hSH0 w h (by omega))
 rw [←hs]at HSH
 have HQ:=Lib.hid (fun A1 n1 c1 w h k=>hQ A1 n1 c1 s w h k hsn)
 obtain⟨q0,hq0⟩:∃q,q=s/D:=⟨_,rfl⟩
 obtain⟨r0,hr0⟩:∃r,r=s%D:=⟨_,rfl⟩
 rw [←hq0,←hr0]at HQ
 have hdm:=Nat.div_add_mod s D
 rw [←hq0,←hr0,Nat.mul_comm]at hdm
 have hr0l:r0<D:=by rw [hr0];exact Nat.mod_lt _ (by omega)
 have HREL:=Lib.hid (show LongRel V D k0 (bl q0) k0 q0 r0 from⟨by rw [←hs];exact hdm.symm,hr0l,fun hz=>by
  rw [hz,Nat.zero_mul,Nat.zero_add]at hdm
  have h3:=pow_le_of_bl (n:=s) (by have:=Nat.mul_pos (show 0<V by omega) (two_pow_pos k0);omega)
  have h4:=lt_pow_bl D
  rw [hsb]at h3
  rw [←hbD]at h4
  have h5:2^bD≤2^(bV+k0-1+1):=Nat.pow_le_pow_right (by omega) (by omega)
  rw [Nat.pow_succ]at h5
  omega,rfl⟩)
 have HQ0:Hid (nw q0≤16384):=Lib.hid (Nat.le_trans (nw_mono (by rw [hq0];exact Nat.div_le_self _ _)) hsn)
 have HSB:=Lib.hid hSB
 have HDN:=Lib.hid hDnw
 have hcase:(k0=0∧¬(0:Int)<(bD:Int)-(bV:Int))∨((0:Int)<(bD:Int)-(bV:Int)∧(bD:Int)-(bV:Int)=(k0:Int)):=by omega
 have hk524:k0≤524288:=by omega
 have HZ:=Lib.hid hD
 clear hk0e hSH hSH0 hQ hSB hV hDe hbV hbD hs hsb hsn hq0 hr0 hdm hr0l hk0 hN hD hDnw
 rcases hcase with ⟨hz,hneg⟩|⟨hpos,hke⟩
 rw [show(k0:Int)=0 by omega]at HSH
 all_goals
  go_enter Tryz.func120,Tryz.ntmps120
  go_wp2_with (first|(go_at_call 116;(first|(with_reducible refine(HL1.out _ h).mono ?_)|(with_reducible refine(HL2.out _ k).mono ?_));rintro e w' ⟨rfl,rfl⟩))
  refine(HSH.out _ h).mono ?_
  rintro e w1 ⟨A1,n1,c1,rfl,hW1,hE1⟩
  go_wp2_with fail
  refine(HQ.out _ _ _ _ hW1 (k.ext hE1)).mono ?_
  rintro e w2 ⟨A2,n2,c2,A3,n3,c3,rfl,hW2,hW3,hE2⟩
  have hE:=hE1.trans hE2
  clear HSH HQ HL1 HL2 hW1 hE1 hE2
  go_wp2_with fail
  go_loopw [11,14,15] (fun kv qv rv wr=>∃(kk q r:Nat) (A2:Option Addr) (n2 c2:Nat) (A3:Option Addr) (n3 c3:Nat),kv=.int .i64 (kk:Int)∧qv=.slice A2 n2 c2∧rv=.slice A3 n3 c3∧Wds wr A2 n2 c2 (nd q)∧Wds wr A3 n3 c3 (nd r)∧Ext w wr∧Hid (nw q≤16384)∧Hid (LongRel V D k0 (bl q0) kk q r)) (fun kv _ _ _=>600000-(intOf kv).toNat)
  case atStart=>exact⟨k0,q0,r0,A2,n2,c2,A3,n3,c3,by first|rfl|exact val_int (by omega),rfl,rfl,hW2,hW3,hE,HQ0,HREL⟩
  case round=>
   obtain⟨kk,q,r,A2,n2,c2,A3,n3,c3,rfl,rfl,rfl,hWq,hWr,hEr,hqn,hrel⟩:=hrel
   have hn2:n2≤16384:=by have:=hWq.len;rw [nd_length]at this;have:=hqn.out;omega
   have hrn:nw r≤16384:=Nat.le_trans (nw_mono (Nat.le_of_lt hrel.out.lt)) HDN.out
   have hn3:n3≤16384:=by have:=hWr.len;rw [nd_length]at this;omega
   have hn3r:n3=nw r:=by have:=hWr.len;rw [nd_length]at this;omega
   have hLq:=fun w h=>nlen_any A2 n2 c2 (nd q) w h (by omega)
   rw [nv_nd]at hLq
   have HLQ:=Lib.hid hLq
   have hdig:=hrel.out.dig
   obtain⟨bq,hbq⟩:∃b,b=bl q:=⟨_,rfl⟩
   rw [←hbq]at HLQ hdig
   clear hLq
   by_cases hex:57≤bq∨r=0
   ·have hquo:=hrel.out.quo
    have hmb:decide (V*2^kk%D≠0)=true→55≤bl (V*2^kk/D):=by
     rw [hquo.1,hquo.2,←hbq]
     intro hh
     have:=of_decide_eq_true hh
     omega
    have hkb:(kk:Int)≤2000000:=by
     have h1:bl q0≤524288:=by have:=bl_le_nw q0;have:=HQ0.out;omega
     have h2:bl q≤524288:=by have:=bl_le_nw q;have:=hqn.out;omega
     omega
    have hOF:=fun w (hw:Wds w A2 n2 c2 (nd q))=>of_any d neg A2 n2 c2 (nd q) (exp-kk) (decide (r≠0)) w hw (by omega) (by rw [nv_nd];exact hqn.out) (by omega) (by omega) (fun hh=>by rw [nv_nd];have h9:=hmb (by rw [hquo.2];exact hh);rw [hquo.1]at h9;exact h9)
    simp only [nv_nd]at hOF
    obtain⟨R,hR⟩:∃R,R=rnd d neg (zd (2*q+(decide (r≠0)).toNat) (exp-kk-1)):=⟨_,rfl⟩
    rw [←hR]at hOF
    have HRES:Hid (R=rnd d neg (zd (2*(V*2^kk/D)+(decide (V*2^kk%D≠0)).toNat) (exp-kk-1))):=Lib.hid (by rw [hR,hquo.1,hquo.2])
    have HMB:=Lib.hid hmb
    have HOF:=Lib.hid hOF
    clear hOF hmb hquo hrel hbq hR
    have HRN:=Lib.hid hn3r
    have HDK:=Lib.hid hkb
    by_cases hr0:r=0
    ·have hn30:n3=0:=by rw [HRN.out,hr0];rfl
     subst hn30
     rw [show decide (r≠0)=false by rw [hr0];rfl]at HOF
     have HK:=Lib.hid hex
     by_cases hb57:57≤bq
     ·have hlt1:¬(bq:Int)<57:=by omega
      clear hex hn3r hdig
      go_wp2_with fail
      refine(HLQ.out _ hWq).mono ?_
      rintro e w' ⟨rfl,rfl⟩
      go_wp2_with fail
      refine(HOF.out _ hWq).mono ?_
      rintro e w5 ⟨rfl,hE5⟩
      go_wp2
      go_ret
      exact⟨kk,ret_float HRES.out,HMB.out,hEr.trans hE5⟩
     ·have hlt1:(bq:Int)<57:=by omega
      clear hex hn3r hdig
      go_wp2_with fail
      refine(HLQ.out _ hWq).mono ?_
      rintro e w' ⟨rfl,rfl⟩
      go_wp2_with fail
      refine(HOF.out _ hWq).mono ?_
      rintro e w5 ⟨rfl,hE5⟩
      go_wp2
      go_ret
      exact⟨kk,ret_float HRES.out,HMB.out,hEr.trans hE5⟩
    ·have hb57:57≤bq:=by rcases hex with h|h;exact h;exact absurd h hr0
     have hlt1:¬(bq:Int)<57:=by omega
     have hn30:0<n3:=by
      rcases Nat.eq_zero_or_pos n3 with e|e
      ·exact absurd (nw_eq_zero.1 (by rw [←HRN.out];exact e)) hr0
      ·exact e
     rw [decide_eq_true hr0]at HOF
     have HR0:=Lib.hid hr0
     clear hex hn3r hdig hr0
     go_wp2_with fail
     refine(HLQ.out _ hWq).mono ?_
     rintro e w' ⟨rfl,rfl⟩
     go_wp2_with fail
     refine(HOF.out _ hWq).mono ?_
     rintro e w5 ⟨rfl,hE5⟩
     go_wp2
     go_ret
     exact⟨kk,ret_float HRES.out,HMB.out,hEr.trans hE5⟩
   ·have hlt57:bq<57:=by omega
    have hr0':r≠0:=fun e=>hex (.inr e)
    have hn3p:0<n3:=by
     rcases Nat.eq_zero_or_pos n3 with e|e
     ·exact absurd (nw_eq_zero.1 (by rw [←hn3r];exact e)) hr0'
     ·exact e
    have hq57:bl q≤56:=by rw [←hbq];omega
    have hSQ:∀w,Wds w A2 n2 c2 (nd q)→Calls Tryz.prog 71 #[.slice A2 n2 c2,.int .i64 ((1:Nat):Int)] w (RetWE (q*2^1) 0 w):=fun w hw=>by
     by_cases hq0:q=0
     ·have:=nshl_zero A2 n2 c2 (nd q) 1 w hw (by omega) (by omega) (by rw [nv_nd];exact hq0)
      rw [hq0,Nat.zero_mul]
      exact this
     ·have:=nshl_any A2 n2 c2 (nd q) 1 w hw (by omega) (by rw [nv_nd];exact hq0) (by rw [nv_nd];omega)
      rw [nv_nd]at this
      exact this
    rw [show((1:Nat):Int)=1 from rfl]at hSQ
    have HSQ:=Lib.hid hSQ
    have hrD:=Nat.le_of_lt hrel.out.lt
    have HS1:=Lib.hid (fun w k h=>HSB.out A3 n3 c3 r w k h hrD hrn)
    obtain⟨rest,hrest⟩:∃x,x=D-r:=⟨_,rfl⟩
    rw [←hrest]at HS1
    have hrestn:nw rest≤16384:=Nat.le_trans (nw_mono (by omega)) HDN.out
    have hCM:=fun(A4:Option Addr) (n4 c4:Nat) (w:World) (h:Wds w A3 n3 c3 (nd r)) (k:Wds w A4 n4 c4 (nd rest))=>ncmp_any A3 n3 c3 (nd r) A4 n4 c4 (nd rest) w h (by omega) k (by have:=k.len;rw [nd_length]at this;omega)
    simp only [nv_nd]at hCM
    have HCM:=Lib.hid hCM
    have hlt1:(bq:Int)<57:=by omega
    have hq2:nw (q*2^1)≤3∧nw (q*2^1+1)≤3:=by
     have h1:=(bl_le_iff q 56).1 hq57
     constructor
     ·rw [nw_le_iff];omega
     ·rw [nw_le_iff];omega
    have hkk:kk<600000-1:=by
     have h1:bl q0≤524288:=by have:=bl_le_nw q0;have:=HQ0.out;omega
     omega
    clear hSQ hCM
    by_cases hge:D-r≤r
    ·have hcc:0≤cmpN r rest:=by unfold cmpN;rw [if_neg (by omega)];split<;>omega
     obtain⟨cc,hcce⟩:∃cc,cc=cmpN r rest:=⟨_,rfl⟩
     rw [←hcce]at HCM hcc
     have HREL2:=Lib.hid (hrel.out.one hge)
     rw [←hrest]at HREL2
     have hAD:=fun(A4:Option Addr) (n4 c4:Nat) (gg:Nat) (w:World) (h:Wds w A4 n4 c4 (nd (q*2^1))) (k:Wds w (some ⟨gg,0,none⟩) 1 1 [1])=>nadd_any A4 n4 c4 (nd (q*2^1)) (some ⟨gg,0,none⟩) 1 1 [1] w h (by have:=h.len;rw [nd_length]at this;omega) k (by omega) (by rw [nv_nd];omega) (by rw [show nv [1]=1 from rfl,show nw 1=1 from rfl];omega) (by rw [nv_nd,show nv [1]=1 from rfl];omega)
     simp only [nv_nd,show nv [1]=1 from rfl]at hAD
     have HAD:=Lib.hid hAD
     have hS2:=fun(A4:Option Addr) (n4 c4:Nat) (w:World) (h:Wds w A3 n3 c3 (nd r)) (k:Wds w A4 n4 c4 (nd rest))=>nsub_any A3 n3 c3 (nd r) A4 n4 c4 (nd rest) w h (by omega) k (by have:=k.len;rw [nd_length]at this;omega) (by rw [nv_nd];exact hrn) (by rw [nv_nd];exact hrestn) (by rw [nv_nd,nv_nd];omega)
     simp only [nv_nd]at hS2
     have HS2:=Lib.hid hS2
     have HQ2:=Lib.hid (show nw (q*2^1+1)≤16384 by omega)
     generalize q*2^1+1=q' at HAD HREL2 HQ2
     generalize q*2^1=q1 at HSQ HAD
     generalize r-rest=r' at HS2 HREL2
     clear hAD hS2 hcce hrest hge hq2 hrel hex hbq hdig hrD hrn hrestn hn3r hq57 hr0' hqn
     go_wp2_with fail
     refine(HLQ.out _ hWq).mono ?_
     rintro e w' ⟨rfl,rfl⟩
     go_wp2_with fail
     refine(HSQ.out _ hWq).mono ?_
     rintro e w1 ⟨A4,n4,c4,rfl,hW4,hE1⟩
     go_wp2_with fail
     refine(HS1.out _ (k.ext (hEr.trans hE1)) (hWr.ext hE1)).mono ?_
     rintro e w2 ⟨A5,n5,c5,rfl,hW5,hE2⟩
     go_wp2_with fail
     refine(HCM.out _ _ _ _ (hWr.ext (hE1.trans hE2)) hW5).mono ?_
     rintro e w3 ⟨rfl,zz,rfl⟩
     have hW4':=(hW4.ext hE2).drewN zz
     have hW5':=hW5.drewN zz
     have hWr':=(hWr.ext (hE1.trans hE2)).drewN zz
     have hE3:Ext w (w2.drewN zz):=(hEr.trans (hE1.trans hE2)).drewN zz
     generalize w2.drewN zz=w3 at hW4' hW5' hWr' hE3 ⊢
     clear hW4 hW5 hWr hWq hE1 hE2 hEr
     have hone:=one_list w3 0
     have hE4:Ext w (w3.alloc (.cells #[.int .u32 1] 105)):=hE3.alloc _
     have hW4'':=hW4'.alloc (.cells #[.int .u32 1] 105)
     have hW5'':=hW5'.alloc (.cells #[.int .u32 1] 105)
     have hWr'':=hWr'.alloc (.cells #[.int .u32 1] 105)
     clear hW4' hW5' hWr'
     go_wp2_with fail
     refine(HAD.out _ _ _ _ _ hW4'' hone).mono ?_
     rintro e w5 ⟨A6,n6,c6,rfl,hW6,hE5⟩
     go_wp2_with fail
     refine(HS2.out _ _ _ _ (hWr''.ext hE5) (hW5''.ext hE5)).mono ?_
     rintro e w6 ⟨A7,n7,c7,rfl,hW7,hE6⟩
     go_wp2
     go_roundw
     case rel=>exact⟨kk+1,q',r',A6,n6,c6,A7,n7,c7,by go_num,rfl,rfl,hW6.ext hE6,hW7,hE4.trans (hE5.trans hE6),HQ2,HREL2⟩
     case measure=>simp [intOf];omega
    ·have hcc:¬0≤cmpN r rest:=by unfold cmpN;rw [if_pos (by omega)];omega
     obtain⟨cc,hcce⟩:∃cc,cc=cmpN r rest:=⟨_,rfl⟩
     rw [←hcce]at HCM hcc
     have HREL2:=Lib.hid (hrel.out.nought hge)
     have hAD:=fun(w:World) (h:Wds w A3 n3 c3 (nd r))=>nadd_any A3 n3 c3 (nd r) A3 n3 c3 (nd r) w h (by omega) h (by omega) (by rw [nv_nd];exact hrn) (by rw [nv_nd];exact hrn) (by rw [nv_nd];exact Nat.le_trans (nw_mono (by omega)) HDN.out)
     simp only [nv_nd]at hAD
     have HAD:=Lib.hid hAD
     have HQ2:=Lib.hid (show nw (q*2^1)≤16384 by omega)
     generalize q*2^1=q1 at HSQ HREL2 HQ2
     generalize r+r=r' at HAD HREL2
     clear hAD hcce hrest hge hq2 hrel hex hbq hdig hrD hrn hrestn hn3r hq57 hr0' hqn
     go_wp2_with fail
     refine(HLQ.out _ hWq).mono ?_
     rintro e w' ⟨rfl,rfl⟩
     go_wp2_with fail
     refine(HSQ.out _ hWq).mono ?_
     rintro e w1 ⟨A4,n4,c4,rfl,hW4,hE1⟩
     go_wp2_with fail
     refine(HS1.out _ (k.ext (hEr.trans hE1)) (hWr.ext hE1)).mono ?_
     rintro e w2 ⟨A5,n5,c5,rfl,hW5,hE2⟩
     go_wp2_with fail
     refine(HCM.out _ _ _ _ (hWr.ext (hE1.trans hE2)) hW5).mono ?_
     rintro e w3 ⟨rfl,zz,rfl⟩
     have hW4':=(hW4.ext hE2).drewN zz
     have hWr':=(hWr.ext (hE1.trans hE2)).drewN zz
     have hE3:Ext w (w2.drewN zz):=(hEr.trans (hE1.trans hE2)).drewN zz
     generalize w2.drewN zz=w3 at hW4' hWr' hE3 ⊢
     clear hW4 hW5 hWr hWq hE1 hE2 hEr
     go_wp2_with fail
     refine(HAD.out _ hWr').mono ?_
     rintro e w5 ⟨A6,n6,c6,rfl,hW6,hE5⟩
     go_wp2
     go_roundw
     case rel=>exact⟨kk+1,q1,r',A4,n4,c4,A6,n6,c6,by go_num,rfl,rfl,hW4'.ext hE5,hW6,hE3.trans hE5,HQ2,HREL2⟩
     case measure=>simp [intOf];omega
end Go.Proofs.YtngdldcgkaplbaaGreat