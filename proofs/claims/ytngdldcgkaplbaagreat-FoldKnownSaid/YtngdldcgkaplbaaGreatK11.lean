import Derived.Test.YtngdldcgkaplbaaGreatK10
set_option linter.unusedVariables false
set_option linter.unusedSimpArgs false
set_option maxHeartbeats 40000000
set_option maxRecDepth 100000
namespace Go.Proofs.YtngdldcgkaplbaaGreat
open Go.RowKit Nm
end Go.Proofs.YtngdldcgkaplbaaGreat
namespace Go.Proofs.YtngdldcgkaplbaaGreat
open Go.RowKit Nm Rn
end Go.Proofs.YtngdldcgkaplbaaGreat
namespace Go.Proofs.YtngdldcgkaplbaaGreat
open Nm Rn
def rat0 (d:Int)(neg:Bool)(n m:Nat)(e:Int):Nat:=rnd d (neg&&decide (n≠0)) (zr (fracN n m e) (fracD n m e))
def ratR (d:Int)(neg:Bool)(N M:Nat)(e:Int):Nat:=
 if 16384<nw N∨16384<nw M then NaNc
 else if M=0 then(if N=0 then NaNc else infP neg)
 else if 2000-((bl N:Int)-bl M)<e then rat0 d neg (if N=0 then 0 else 1) 1 2000
 else if e < -2000-((bl N:Int)-bl M)then rat0 d neg (if N=0 then 0 else 1) 1 (-2000)
 else rat0 d neg N M e
end Go.Proofs.YtngdldcgkaplbaaGreat
namespace Go.Proofs.YtngdldcgkaplbaaGreat
open Go.RowKit Nm Rn
theorem same_frac {N M:Nat}(e:Int)(hM:M≠0):Same75 N M e (fracN N M e*K75) (fracD N M e):=by
 obtain⟨c,hc⟩:∃c,c=1075:=⟨_,rfl⟩
 obtain⟨p,hp⟩:∃p,p=e.toNat:=⟨_,rfl⟩
 obtain⟨q,hq⟩:∃q,q=(-e).toNat:=⟨_,rfl⟩
 have hK:K75=2^c:=by rw [hc];exact K75_def
 have h:=frac_val (n:=N) (d:=M) (e:=e) (p:=p) (q:=q) (by omega)
 refine⟨p+c,q,by omega,fracD_pos e hM,by omega,?_⟩
 rw [hK,Nat.pow_add]
 have a1:N*(2^p*2^c)*fracD N M e=N*2^p*fracD N M e*2^c:=by simp only [Nat.mul_assoc,Nat.mul_comm,Nat.mul_left_comm]
 have a2:fracN N M e*2^c*(M*2^q)=fracN N M e*(M*2^q)*2^c:=by simp only [Nat.mul_assoc,Nat.mul_comm,Nat.mul_left_comm]
 rw [a1,a2,h]
theorem Same75.gen {N D:Nat}{e:Int}{N' M k:Nat}(h:Same75 N D e N' M)(hb:decide (N*2^k % D≠0)=true→55≤bl (N*2^k / D))(d:Int)(neg:Bool) :
  rnd d neg (zd (2*(N*2^k/D)+(decide (N*2^k%D≠0)).toNat) (e-k-1))=rnd d neg (zq N' M):=by
 obtain⟨A,B,hAB,hM,hD,h⟩:=h
 refine rnd_quo (X:=N*2^k) (Y:=D) (A:=A) (B:=B+k) hD hM rfl rfl hb (by omega) ?_ d neg
 rw [Nat.pow_add]
 have a1:N*2^k*2^A*M=N*2^A*M*2^k:=by simp only [Nat.mul_assoc,Nat.mul_comm,Nat.mul_left_comm]
 have a2:N'*(D*(2^B*2^k))=N'*(D*2^B)*2^k:=by simp only [Nat.mul_assoc,Nat.mul_comm,Nat.mul_left_comm]
 rw [a1,a2,h]
theorem quo_bl {N D k:Nat}(hN:N≠0)(hD:D≠0)(hb:decide (N*2^k % D≠0)=true→55≤bl (N*2^k / D)):N*2^k/D≠0∧bl N+k≤bl (N*2^k/D)+bl D+1:=by
 have hp:=Nat.mul_pos (show 0<N by omega) (two_pow_pos k)
 have hdm:=Nat.div_add_mod (N*2^k) D
 have hlt:=Nat.mod_lt (N*2^k) (show 0<D by omega)
 have h0:N*2^k/D≠0:=by
  intro h0
  rw [h0,Nat.mul_zero,Nat.zero_add]at hdm
  have:=hb (decide_eq_true (by omega))
  rw [h0,bl_zero]at this
  omega
 refine⟨h0,?_⟩
 have h1:bl (N*2^k)=bl N+k:=bl_mul_pow k hN
 rw [←h1,bl_le_iff]
 have h2:=lt_pow_bl (N*2^k/D)
 have h3:=lt_pow_bl D
 have h4:N*2^k<(N*2^k/D+1)*D:=by
  rw [Nat.add_mul,Nat.one_mul,Nat.mul_comm _ D];omega
 have h5:(N*2^k/D+1)*D≤2^bl (N*2^k/D)*2^bl D:=Nat.mul_le_mul h2 (Nat.le_of_lt h3)
 rw [←Nat.pow_add]at h5
 have h6:2^(bl (N*2^k/D)+bl D)≤2^(bl (N*2^k/D)+bl D+1):=Nat.pow_le_pow_right (by omega) (by omega)
 omega
theorem rat0_over (d:Int)(neg:Bool):rat0 d neg 1 1 2000=pat neg (if twB d neg then infR-1 else infR):=by
 unfold rat0
 rw [show(neg&&decide (1≠0))=neg by cases neg<;>rfl]
 exact rnd_over (by decide +kernel) (by decide +kernel) (by decide +kernel) d neg
theorem rat0_under (d:Int)(neg:Bool):rat0 d neg 1 1 (-2000)=rnd d neg 1:=by
 unfold rat0
 rw [show(neg&&decide (1≠0))=neg by cases neg<;>rfl,show zr (fracN 1 1 (-2000)) (fracD 1 1 (-2000))=1 by decide +kernel]
theorem rat0_fin (d:Int)(neg:Bool){N M:Nat}(e:Int)(hN:N≠0):rat0 d neg N M e=rnd d neg (zq (fracN N M e*K75) (fracD N M e)):=by
 unfold rat0
 rw [decide_eq_true hN,Bool.and_true]
 rfl
theorem rat_fin (d:Int)(neg:Bool){N M k:Nat}{e:Int}(hN:N≠0)(hM:M≠0)(hn:bl N≤524288)(hm:bl M≤524288)(ht:-1100≤(bl N:Int) - bl M+holdZ e)(hb:decide (N*2^k % M≠0)=true→55≤bl (N*2^k / M)) :
  rnd d neg (zd (2*(N*2^k/M)+(decide (N*2^k%M≠0)).toNat) (holdZ e-k-1))=ratR d neg N M e:=by
 have hnN:¬(16384<nw N∨16384<nw M):=by
  have h1:=nw_of_bl hn
  have h2:=nw_of_bl hm
  omega
 unfold ratR
 rw [if_neg hnN,if_neg hM]
 by_cases c1:2000-((bl N:Int)-bl M)<e
 ·rw [if_pos c1,if_neg hN,rat0_over]
  obtain⟨q1,q2⟩:=quo_bl hN hM hb
  refine rnd_big q1 ?_ d neg
  have:2000-((bl N:Int)-bl M)<holdZ e:=by unfold holdZ;omega
  omega
 ·rw [if_neg c1]
  by_cases c2:e < -2000-((bl N:Int)-bl M)
  ·exfalso
   unfold holdZ at ht
   omega
  ·rw [if_neg c2,rat0_fin d neg e hN]
   have hh:holdZ e=e:=by unfold holdZ;omega
   rw [hh]
   exact(same_frac e hM).gen hb d neg
theorem rat_tiny (d:Int)(neg:Bool){N M:Nat}{e:Int}(hN:N≠0)(hM:M≠0)(hn:bl N≤524288)(hm:bl M≤524288)(ht:(bl N:Int) - bl M+holdZ e < -1100) :
  rnd d neg (zd (2*1) (-1200-1))=ratR d neg N M e:=by
 have hnN:¬(16384<nw N∨16384<nw M):=by
  have h1:=nw_of_bl hn
  have h2:=nw_of_bl hm
  omega
 unfold ratR
 rw [if_neg hnN,if_neg hM]
 by_cases c1:2000-((bl N:Int)-bl M)<e
 ·exfalso
  unfold holdZ at ht
  omega
 ·rw [if_neg c1]
  by_cases c2:e < -2000-((bl N:Int)-bl M)
  ·rw [if_pos c2,if_neg hN,rat0_under,zd_tiny (by omega) (by rw [show bl 1=1 from rfl];omega)]
  ·rw [if_neg c2,rat0_fin d neg e hN]
   have hh:holdZ e=e:=by unfold holdZ;omega
   rw [hh]at ht
   exact(same_frac e hM).tiny hN ht d neg
theorem rat_zero (d:Int)(neg:Bool){M:Nat}{e:Int}(hM:M≠0)(hm:bl M≤524288):ratR d neg 0 M e=0:=by
 have h2:=nw_of_bl hm
 have h0:nw 0=0:=nw_zero
 have hf:∀m e,fracN 0 m e=0:=fun m e=>by unfold fracN;simp
 have hz:∀m e,rat0 d neg 0 m e=0:=fun m e=>by
  unfold rat0
  rw [hf,zr_zero,rnd_zero]
 unfold ratR
 rw [if_neg (by omega),if_neg hM]
 split
 ·exact hz _ _
 ·split
  ·exact hz _ _
  ·exact hz _ _
theorem rat_num (d:Int)(neg:Bool){N M:Nat}{e:Int}{Z:Nat}(h:rnd d neg Z=ratR d neg N M e):ratR d neg N M e<18446744073709551616∧cn (ratR d neg N M e)=ratR d neg N M e:=by
 rw [←h]
 exact⟨(rnd_ok _ _ _).1,cn_num (rnd_ok _ _ _).2⟩
theorem nw_of_big {V:Nat}(h:524288 < bl V):16384<nw V:=by
 have:=bl_le_nw V
 omega
theorem cn_inf (s:Bool):cn (infP s)=infP s:=cn_num (by cases s<;>decide)
theorem pratio_any (d:Int)(neg:Bool)(A:Option Addr)(n c:Nat)(xs:List Nat)(B:Option Addr)(m dd:Nat)(ys:List Nat)(exp:Int)(w:World)(h:Wds w A n c xs)(hn:n≤8796093022208)(k:Wds w B m dd ys)(hm:m≤8796093022208) :
  Calls Tryz.prog 68 #[.int .i64 d,.bool neg,.slice A n c,.slice B m dd,.int .i64 exp] w (RetFl (ratR d neg (nv xs) (nv ys) exp) w):=by
 have HL1:=Lib.hid (fun w h=>nlen_any A n c xs w h (by omega))
 have HL2:=Lib.hid (fun w h=>nlen_any B m dd ys w h (by omega))
 have HH:=Lib.hid (fun w=>hold_any exp w)
 have hSH:=fun s w h h0 hs=>nshl_any A n c xs s w h (by omega) h0 hs
 have hSL:=fun s w h h0 h1 hsb hs=>nshl_long A n c xs s w h (by omega) h0 h1 hsb hs
 have hQ:=fun(A1:Option Addr) (n1 c1:Nat) (s:Nat) (w:World) (h:Wds w A1 n1 c1 (nd s)) (k:Wds w B m dd ys) (hs:nw s≤16384) (hd:nw (nv ys)≤16384) (h0:nv ys≠0)=>nquo_any A1 n1 c1 (nd s) B m dd ys w h (by have:=h.len;rw [nd_length]at this;omega) k hm (by rw [nv_nd];exact hs) hd h0
 have hLG:=fun e w h k h1 h2 h3 h4 e1 e2=>rlong_any d neg A n c xs B m dd ys e w h hn k hm h1 h2 h3 h4 e1 e2
 simp only [nv_nd]at hQ
 obtain⟨V,hV⟩:∃V,V=nv xs:=⟨_,rfl⟩
 obtain⟨D,hD⟩:∃D,D=nv ys:=⟨_,rfl⟩
 rw [←hV]at HL1 hSH hSL hLG ⊢
 rw [←hD]at HL2 hQ hLG ⊢
 clear hV hD
 obtain⟨bV,hbV⟩:∃b,b=bl V:=⟨_,rfl⟩
 obtain⟨bD,hbD⟩:∃b,b=bl D:=⟨_,rfl⟩
 rw [←hbV]at HL1
 rw [←hbD]at HL2
 by_cases cV:524288<bV
 ·have HF:Hid (ratR d neg V D exp=NaNc):=Lib.hid (by unfold ratR;rw [if_pos (.inl (nw_of_big (by omega)))])
  have hca:decide ((524288:Int)<(bV:Int))=true:=decide_eq_true (by omega)
  clear hSH hSL hQ hLG hbV hbD cV
  go_enter Tryz.func68,Tryz.ntmps68
  go_wp2_with (first|(go_at_call 116;(first|(with_reducible refine(HL1.out _ h).mono ?_)|(with_reducible refine(HL2.out _ k).mono ?_));rintro e w' ⟨rfl,rfl⟩)|(go_at_call 64;refine(mnanc_any _).mono ?_;rintro e w' ⟨rfl,rfl⟩))
  go_ret
  exact⟨_,rfl,by rw [NaNc_val];omega,by rw [HF.out];rfl,Ext.refl _⟩
 have hca:decide ((524288:Int)<(bV:Int))=false:=decide_eq_false (by omega)
 by_cases cD:524288<bD
 ·have HF:Hid (ratR d neg V D exp=NaNc):=Lib.hid (by unfold ratR;rw [if_pos (.inr (nw_of_big (by omega)))])
  have hcb:decide ((524288:Int)<(bD:Int))=true:=decide_eq_true (by omega)
  clear hSH hSL hQ hLG hbV hbD cD cV
  go_enter Tryz.func68,Tryz.ntmps68
  go_wp2_with (first|(go_at_call 116;(first|(with_reducible refine(HL1.out _ h).mono ?_)|(with_reducible refine(HL2.out _ k).mono ?_));rintro e w' ⟨rfl,rfl⟩)|(go_at_call 64;refine(mnanc_any _).mono ?_;rintro e w' ⟨rfl,rfl⟩))
  go_ret
  exact⟨_,rfl,by rw [NaNc_val];omega,by rw [HF.out];rfl,Ext.refl _⟩
 have hcb:decide ((524288:Int)<(bD:Int))=false:=decide_eq_false (by omega)
 have hVn:nw V≤16384:=nw_of_bl (by omega)
 have hDn:nw D≤16384:=nw_of_bl (by omega)
 by_cases hD0:D=0
 ·have hbz:bD=0:=by rw [hbD,hD0];rfl
  subst hbz
  by_cases hV0:V=0
  ·have HF:Hid (ratR d neg V D exp=NaNc):=Lib.hid (by unfold ratR;rw [if_neg (by omega),if_pos hD0,if_pos hV0])
   have hbz:bV=0:=by rw [hbV,hV0];rfl
   subst hbz
   clear hSH hSL hQ hLG hbV hbD cD cV hca hcb hV0 hD0
   go_enter Tryz.func68,Tryz.ntmps68
   go_wp2_with (first|(go_at_call 116;(first|(with_reducible refine(HL1.out _ h).mono ?_)|(with_reducible refine(HL2.out _ k).mono ?_));rintro e w' ⟨rfl,rfl⟩)|(go_at_call 64;refine(mnanc_any _).mono ?_;rintro e w' ⟨rfl,rfl⟩))
   go_ret
   exact⟨_,rfl,by rw [NaNc_val];omega,by rw [HF.out];rfl,Ext.refl _⟩
  ·have HF:Hid (ratR d neg V D exp=infP neg):=Lib.hid (by unfold ratR;rw [if_neg (by omega),if_pos hD0,if_neg hV0])
   have hbp:1≤bV:=by rw [hbV];exact bl_pos hV0
   have hcz:((bV:Int)==0)=false:=by rw [beq_eq_false_iff_ne];omega
   clear hSH hSL hQ hLG hbV hbD cD cV hcb hV0 hD0
   cases neg
   ·go_enter Tryz.func68,Tryz.ntmps68
    go_wp2_with (first|(go_at_call 116;(first|(with_reducible refine(HL1.out _ h).mono ?_)|(with_reducible refine(HL2.out _ k).mono ?_));rintro e w' ⟨rfl,rfl⟩)|(go_at_call 31;refine(inf_p _).mono ?_;rintro e w' ⟨rfl,rfl⟩))
    go_ret
    exact⟨_,rfl,infR_lt,by rw [HF.out];exact cn_inf false,Ext.refl _⟩
   ·go_enter Tryz.func68,Tryz.ntmps68
    go_wp2_with (first|(go_at_call 116;(first|(with_reducible refine(HL1.out _ h).mono ?_)|(with_reducible refine(HL2.out _ k).mono ?_));rintro e w' ⟨rfl,rfl⟩)|(go_at_call 31;refine(inf_m _).mono ?_;rintro e w' ⟨rfl,rfl⟩))
    go_ret
    exact⟨_,rfl,minf_lt,by rw [HF.out];exact cn_inf true,Ext.refl _⟩
 have hbDp:1≤bD:=by rw [hbD];exact bl_pos hD0
 have hcz:((bD:Int)==0)=false:=by rw [beq_eq_false_iff_ne];omega
 by_cases hV0:V=0
 ·have hbz:bV=0:=by rw [hbV,hV0];rfl
  have HF:Hid (ratR d neg V D exp=0):=Lib.hid (by rw [hV0];exact rat_zero d neg hD0 (by omega))
  subst hbz
  clear hSH hSL hQ hLG hbV hbD cD cV hca hV0 hD0
  go_enter Tryz.func68,Tryz.ntmps68
  go_wp2_with (first|(go_at_call 116;(first|(with_reducible refine(HL1.out _ h).mono ?_)|(with_reducible refine(HL2.out _ k).mono ?_));rintro e w' ⟨rfl,rfl⟩))
  go_ret
  exact⟨_,rfl,by omega,by rw [HF.out];rfl,Ext.refl _⟩
 have hbVp:1≤bV:=by rw [hbV];exact bl_pos hV0
 have hcy:((bV:Int)==0)=false:=by rw [beq_eq_false_iff_ne];omega
 obtain⟨H,hH⟩:∃H,H=holdZ exp:=⟨_,rfl⟩
 have hH1:-1099511627776≤H∧H≤1099511627776:=by rw [hH];unfold holdZ;omega
 rw [←hH]at HH
 by_cases ht:(bV:Int)-bD+H < -1100
 ·have hRT:=rat_tiny d neg (e:=exp) hV0 hD0 (by omega) (by omega) (by rw [←hbV,←hbD,←hH];exact ht)
  have HNUM:=Lib.hid (rat_num d neg hRT)
  have hOF:=fun w=>of_any d neg (some ⟨w.heap.size,0,none⟩) 1 1 [1] (-1200) false (w.alloc (.cells #[.int .u32 1] 105)) (one_list w 0) (by omega) (by rw [show nv [1]=1 from rfl,show nw 1=1 from rfl];omega) (by omega) (by omega) (by intro h;cases h)
  simp only [Bool.toNat_false,Nat.add_zero,show nv [1]=1 from rfl]at hOF
  rw [hRT]at hOF
  have HOF:=Lib.hid hOF
  have HE0:Hid (Ext w (w.alloc (.cells #[.int .u32 1] 105))):=Lib.hid ((Ext.refl w).alloc _)
  generalize ratR d neg V D exp=R at HOF HNUM ⊢
  clear hSH hSL hQ hLG hbV hbD hV0 hD0 hRT hOF hH
  go_enter Tryz.func68,Tryz.ntmps68
  go_wp2_with (first|(go_at_call 116;(first|(with_reducible refine(HL1.out _ h).mono ?_)|(with_reducible refine(HL2.out _ k).mono ?_));rintro e w' ⟨rfl,rfl⟩)|(go_at_call 117;refine(HH.out _).mono ?_;rintro e w' ⟨rfl,rfl⟩))
  refine(HOF.out _).mono ?_
  rintro e w1 ⟨rfl,hE⟩
  go_wp2
  go_ret
  exact⟨_,rfl,HNUM.out.1,HNUM.out.2,HE0.out.trans hE⟩
 have hFIN:=fun(kk:Nat) hb=>rat_fin d neg (k:=kk) (e:=exp) hV0 hD0 (by omega) (by omega) (by rw [←hbV,←hbD,←hH];omega) hb
 rw [←hH]at hFIN
 have hLG1:=fun w h k=>hLG H w h k hV0 hD0 (by omega) (by omega) hH1.1 hH1.2
 clear hLG
 have HLG:Hid (∀w,Wds w A n c xs→Wds w B m dd ys→Calls Tryz.prog 120 #[.int .i64 d,.bool neg,.slice A n c,.slice B m dd,.int .i64 H] w (RetFl (ratR d neg V D exp) w)):=Lib.hid fun w h k=>(hLG1 w h k).mono (by
  rintro e w' ⟨kk,rfl,hb,hE⟩
  have hf:=hFIN kk hb
  have hnum:=rat_num d neg hf
  exact⟨_,rfl,by rw [hf];exact hnum.1,by rw [hf];exact hnum.2,hE⟩)
 clear hLG1
 by_cases c57:57+(bD:Int)-(bV:Int)≤0
 ·generalize ratR d neg V D exp=R at HLG ⊢
  clear hSH hSL hQ hbV hbD hV0 hD0 hFIN hH
  go_enter Tryz.func68,Tryz.ntmps68
  go_wp2_with (first|(go_at_call 116;(first|(with_reducible refine(HL1.out _ h).mono ?_)|(with_reducible refine(HL2.out _ k).mono ?_));rintro e w' ⟨rfl,rfl⟩)|(go_at_call 117;refine(HH.out _).mono ?_;rintro e w' ⟨rfl,rfl⟩))
  refine(HLG.out _ h k).mono ?_
  rintro e w1 ⟨r,rfl,hr,hc,hE⟩
  go_wp2
  go_ret
  exact⟨_,rfl,hr,hc,hE⟩
 obtain⟨kk,hkk⟩:∃kk,kk=57+bD-bV:=⟨_,rfl⟩
 have hke:57+(bD:Int)-(bV:Int)=(kk:Int):=by omega
 have hkp:1≤kk:=by omega
 by_cases cS:bV+kk≤524288
 ·have hmain:=((same_frac (N:=V) H hD0).main (k:=kk) (by rw [←hbV,←hbD];omega) hV0 d neg).2
  have hfin:=hFIN kk (fun _=>hmain)
  have HNUM:=Lib.hid (rat_num d neg hfin)
  have HSH:=Lib.hid (fun w h=>hSH kk w h hV0 (by rw [←hbV];omega))
  obtain⟨s,hs⟩:∃s,s=V*2^kk:=⟨_,rfl⟩
  rw [←hs]at hmain HSH hfin
  have hsb:bl s=bV+kk:=by rw [hs,bl_mul_pow kk hV0,←hbV]
  have hnws:nw s≤16384:=nw_of_bl (by rw [hsb];omega)
  have HQ:=Lib.hid (fun A1 n1 c1 w h k=>hQ A1 n1 c1 s w h k hnws hDn hD0)
  obtain⟨Q,hQe⟩:∃Q,Q=s/D:=⟨_,rfl⟩
  obtain⟨R,hR⟩:∃R,R=s%D:=⟨_,rfl⟩
  rw [←hQe,←hR]at HQ hfin
  rw [←hQe]at hmain
  have hnwQ:nw Q≤16384:=Nat.le_trans (nw_mono (by rw [hQe];exact Nat.div_le_self _ _)) hnws
  have HOF:=Lib.hid (fun(A1:Option Addr) (n1 c1:Nat) (w:World) (h:Wds w A1 n1 c1 (nd Q))=>of_any d neg A1 n1 c1 (nd Q) (H-kk) (decide (R≠0)) w h (by have:=h.len;rw [nd_length]at this;omega) (by rw [nv_nd];exact hnwQ) (by omega) (by omega) (fun _=>by rw [nv_nd];exact hmain))
  simp only [nv_nd]at HOF
  rw [hfin]at HOF
  generalize ratR d neg V D exp=Z at HOF HNUM ⊢
  clear hSH hSL hQ hFIN HLG hbV hbD hmain hs hsb hnws hQe hR hnwQ hV0 hD0 hkk cS hfin hH
  by_cases hR0:R=0
  ·subst hR0
   go_enter Tryz.func68,Tryz.ntmps68
   go_wp2_with (first|(go_at_call 116;(first|(with_reducible refine(HL1.out _ h).mono ?_)|(with_reducible refine(HL2.out _ k).mono ?_));rintro e w' ⟨rfl,rfl⟩)|(go_at_call 117;refine(HH.out _).mono ?_;rintro e w' ⟨rfl,rfl⟩))
   refine(HSH.out _ h).mono ?_
   rintro e w1 ⟨A1,n1,c1,rfl,hW1,hE1⟩
   go_wp2_with fail
   refine(HQ.out _ _ _ _ hW1 (k.ext hE1)).mono ?_
   rintro e w2 ⟨A2,n2,c2,A3,n3,c3,rfl,hW2,hW3,hE2⟩
   have hn3:n3=0:=by have:=hW3.len;rw [nd_length,nw_zero]at this;omega
   subst hn3
   go_wp2_with fail
   refine(HOF.out _ _ _ _ hW2).mono ?_
   rintro e w3 ⟨rfl,hE3⟩
   go_wp2
   go_ret
   exact⟨_,rfl,HNUM.out.1,HNUM.out.2,hE1.trans (hE2.trans hE3)⟩
  ·have hdR:decide (R≠0)=true:=decide_eq_true hR0
   rw [hdR]at HOF
   have HR0:=Lib.hid hR0
   clear hR0 hdR
   go_enter Tryz.func68,Tryz.ntmps68
   go_wp2_with (first|(go_at_call 116;(first|(with_reducible refine(HL1.out _ h).mono ?_)|(with_reducible refine(HL2.out _ k).mono ?_));rintro e w' ⟨rfl,rfl⟩)|(go_at_call 117;refine(HH.out _).mono ?_;rintro e w' ⟨rfl,rfl⟩))
   refine(HSH.out _ h).mono ?_
   rintro e w1 ⟨A1,n1,c1,rfl,hW1,hE1⟩
   go_wp2_with fail
   refine(HQ.out _ _ _ _ hW1 (k.ext hE1)).mono ?_
   rintro e w2 ⟨A2,n2,c2,A3,n3,c3,rfl,hW2,hW3,hE2⟩
   have hn3:0<n3:=by
    have:=hW3.len
    rw [nd_length]at this
    rcases Nat.eq_zero_or_pos n3 with e|e
    ·exact absurd (nw_eq_zero.1 (by omega)) HR0.out
    ·exact e
   go_wp2_with fail
   refine(HOF.out _ _ _ _ hW2).mono ?_
   rintro e w3 ⟨rfl,hE3⟩
   go_wp2
   go_ret
   exact⟨_,rfl,HNUM.out.1,HNUM.out.2,hE1.trans (hE2.trans hE3)⟩
 ·have HSL:=Lib.hid (fun w h=>hSL kk w h hV0 hVn (by omega) (by rw [←hbV];omega))
  generalize ratR d neg V D exp=R at HLG ⊢
  clear hSH hSL hQ hbV hbD hV0 hD0 hFIN hH cS hkk
  go_enter Tryz.func68,Tryz.ntmps68
  go_wp2_with (first|(go_at_call 116;(first|(with_reducible refine(HL1.out _ h).mono ?_)|(with_reducible refine(HL2.out _ k).mono ?_));rintro e w' ⟨rfl,rfl⟩)|(go_at_call 117;refine(HH.out _).mono ?_;rintro e w' ⟨rfl,rfl⟩))
  refine(HSL.out _ h).mono ?_
  rintro e w1 ⟨A1,n1,c1,rfl,hW1,hE1⟩
  go_wp2_with fail
  refine(HLG.out _ (h.ext hE1) (k.ext hE1)).mono ?_
  rintro e w1 ⟨r,rfl,hr,hc,hE⟩
  go_wp2
  go_ret
  exact⟨_,rfl,hr,hc,hE1.trans hE⟩
end Go.Proofs.YtngdldcgkaplbaaGreat
namespace Go.Proofs.YtngdldcgkaplbaaGreat
open Nm Rn
theorem ofR_zd (d:Int)(neg:Bool){V:Nat}{e:Int}(hb:bl V≤524288)(h1:-1099511627776≤e)(h2:e≤1099511627776):ofR d neg V e=rnd d neg (zd V e):=by
 have hh:holdZ e=e:=by unfold holdZ;omega
 by_cases h0:V=0
 ·have:=ofR_hold (d:=d) (neg:=neg) (V:=V) (e:=e) hb (.inl h0)
  rw [this,hh,zd_two]
 ·by_cases ht:(bl V:Int)+e < -1076
  ·rw [ofR_tiny h0 hb ht,←zd_two,zd_tiny h0 ht]
  ·have:=ofR_hold (d:=d) (neg:=neg) (V:=V) (e:=e) hb (.inr (by rw [hh];omega))
   rw [this,hh,zd_two]
theorem ratR_same (d:Int)(neg:Bool){N M N' M':Nat}{e:Int}(hN:N≠0)(hM:M≠0)(hn:bl N≤524288)(hm:bl M≤524288)(h1:-1099511627776≤e)(h2:e≤1099511627776)(h:Same75 N M e N' M'):ratR d neg N M e=rnd d neg (zq N' M'):=by
 have hh:holdZ e=e:=by unfold holdZ;omega
 by_cases ht:-1100≤(bl N:Int)-bl M+holdZ e
 ·obtain⟨k,hk⟩:∃k,k=bl M+60:=⟨_,rfl⟩
  have hb:decide (N*2^k%M≠0)=true→55≤bl (N*2^k/M):=fun _=>by
   have h3:2^55≤N*2^k/M:=by
    refine(Nat.le_div_iff_mul_le (show 0<M by omega)).2 ?_
    have h4:=lt_pow_bl M
    have h5:2^55*M≤2^55*2^bl M:=Nat.mul_le_mul_left _ (Nat.le_of_lt h4)
    rw [←Nat.pow_add]at h5
    have h6:2^(55+bl M)≤2^k:=Nat.pow_le_pow_right (by omega) (by omega)
    have h7:2^k≤N*2^k:=Nat.le_mul_of_pos_left _ (by omega)
    omega
   rcases Nat.lt_or_ge (bl (N*2^k/M)) 55 with g|g
   ·have:=lt_pow_bl (N*2^k/M)
    have h8:2^bl (N*2^k/M)≤2^55:=Nat.pow_le_pow_right (by omega) (by omega)
    omega
   ·exact g
  rw [←rat_fin d neg hN hM hn hm ht hb,hh]
  exact h.gen hb d neg
 ·have htt:(bl N:Int)-bl M+holdZ e < -1100:=by omega
  rw [←rat_tiny d neg hN hM hn hm htt]
  have e1:zd (2*1) (-1200-1)=1:=zd_tiny (V:=1) (e:=-1200) (by omega) (by decide)
  rw [e1]
  obtain⟨A,B,hAB,hM',hD,hv⟩:=h
  have e2:zq N' M'=1:=by
   have hlt:N'<M':=by
    have b1:=lt_pow_bl N
    have b2:2^(bl M-1)≤M:=by
     rcases Nat.lt_or_ge M (2^(bl M-1))with g|g
     ·have:=(bl_le_iff M (bl M-1)).2 g
      have:=bl_pos hM
      omega
     ·exact g
    have hpos:=bl_pos hM
    have c1:N*2^A<2^bl N*2^A:=Nat.mul_lt_mul_of_pos_right b1 (two_pow_pos A)
    have c2:2^(bl M-1)*2^B≤M*2^B:=Nat.mul_le_mul_right _ b2
    rw [←Nat.pow_add]at c1 c2
    have c3:2^(bl N+A)≤2^(bl M-1+B):=Nat.pow_le_pow_right (by omega) (by omega)
    have c4:N*2^A<M*2^B:=by omega
    have c5:N*2^A*M'<M*2^B*M':=Nat.mul_lt_mul_of_pos_right c4 hM'
    rw [hv,Nat.mul_comm (M*2^B)]at c5
    exact Nat.lt_of_mul_lt_mul_right c5
   unfold zq
   have hN':N'≠0:=fun e0=>by
    rw [e0,Nat.zero_mul]at hv
    have:=Nat.mul_pos (Nat.mul_pos (show 0<N by omega) (two_pow_pos A)) hM'
    omega
   rw [Nat.div_eq_of_lt hlt,Nat.mod_eq_of_lt hlt,if_neg hN']
  rw [e2]
end Go.Proofs.YtngdldcgkaplbaaGreat