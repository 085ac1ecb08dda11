import Derived.Test.YtngdldcgkaplbaaGreatK12
import Derived.Conc.WgGenN3
import Derived.Test.YtngdldcgkaplbaaGreatChecked
import Derived.Conc.Listed
import Derived.Conc.Own
set_option linter.unusedVariables false
set_option linter.unusedSimpArgs false
set_option maxHeartbeats 40000000
set_option maxRecDepth 100000
namespace Go.Proofs.YtngdldcgkaplbaaGreat
open Go.RowKit Nm Rn
def rtX (X:Nat):Nat:=if sqF X*sqF X=X then sqF X*2 else sqF X*2+1
def Sm.root (S:Sm)(d:Int):Nat:=if S.state=1 then infR else if S.state≠0 then NaNc else if S.T<0 then NaNc else ofR d false (rtX (S.T.natAbs*2^128)) (-1139)
theorem sqF_pos {X:Nat}(h:1≤X):1≤sqF X:=by
 obtain⟨h1,h2⟩:=sqF_spec X
 rcases Nat.eq_zero_or_pos (sqF X)with h0|h0
 ·rw [h0]at h2;omega
 ·exact h0
theorem sqF_nw {X k:Nat}(h:bl X≤k):bl (sqF X*2+1)≤k+2:=by
 have h1:=(sqF_spec X).1
 have h2:sqF X≤sqF X*sqF X:=by
  rcases Nat.eq_zero_or_pos (sqF X)with h0|h0
  ·rw [h0];omega
  ·exact Nat.le_mul_of_pos_left _ h0
 have h3:=(bl_le_iff (sqF X) k).1 (Nat.le_trans (bl_mono (Nat.le_trans h2 h1)) h)
 rw [bl_le_iff,Nat.pow_add]
 omega
theorem sgn_st {S:Sm}(h:S.state=0):S.sign=if S.T<0 then -1 else if S.T=0 then 0 else 1:=by
 unfold Sm.sign
 rw [h]
 rfl
section
variable {w0 w:World} {L:List Bx} {W:List Sw} {TY TO:TypeId} {g:Nat}
theorem troot_any (S:Sm)(d:Int)(hT:S.state=0→2*S.T.natAbs < MM)(hO:Own w0 (⟨g,TY,S.cs⟩::L) W w) :
  Calls Tryz.prog 21 #[.pointer (some ⟨g,0,none⟩),.int .i64 d] w (RetFl (S.root d) w):=by
 have HST:=Lib.hid (fun w h=>tstate_S (w0:=w0) (w:=w) (L:=L) (W:=W) (TY:=TY) (g:=g) S h)
 have HSG:=Lib.hid (fun w h=>tsign_any (w0:=w0) (w:=w) (L:=L) (W:=W) (TY:=TY) (g:=g) S hT h)
 have HO:=Lib.hid hO
 by_cases hs:S.state=0
 ·have hT:=hT hs
  rw [hs]at HST
  rw [sgn_st hs]at HSG
  by_cases hneg:S.T<0
  ·have HR:Hid (S.root d=NaNc):=Lib.hid (by unfold Sm.root;rw [hs,if_neg (by decide),if_neg (by decide),if_pos hneg])
   rw [if_pos hneg]at HSG
   clear hs hT hO hneg
   rw [HR.out]
   go_enter Tryz.func21,Tryz.ntmps21
   go_wp2_with (first|(go_at_call 65;(with_reducible refine(HST.out _ HO.out).mono ?_);rintro e w2 ⟨rfl,rfl⟩)|(go_at_call 70;(with_reducible refine(HSG.out _ HO.out).mono ?_);rintro e w2 ⟨rfl,rfl⟩)|(go_at_call 64;(with_reducible refine(mnanc_any _).mono ?_);rintro e w2 ⟨rfl,rfl⟩))
   go_ret
   exact⟨_,rfl,by decide,by decide,Ext.refl _⟩
  have HSZ:=Lib.hid (fun h=>tsize_any (w0:=w0) (w:=w) (L:=L) (W:=W) (TY:=TY) (g:=g) S hT h)
  rw [decide_eq_false hneg]at HSZ
  rw [if_neg hneg]at HSG
  have hnw:=nw_sum hT
  have hbl:=bl_sum hT
  obtain⟨V,hV⟩:∃V,V=S.T.natAbs:=⟨_,rfl⟩
  have HR:Hid (S.root d=ofR d false (rtX (V*2^128)) (-1139)):=Lib.hid (by unfold Sm.root;rw [hs,if_neg (by decide),if_neg (by decide),if_neg hneg,hV])
  have hV0:V=0↔S.T=0:=by rw [hV];omega
  rw [←hV]at hnw hbl HSZ
  rw [HR.out]
  by_cases h0:V=0
  ·rw [if_pos (hV0.1 h0)]at HSG
   have e:rtX (V*2^128)=0:=by rw [h0,Nat.zero_mul];decide
   rw [e]
   rw [h0]at HSZ
   have HS1:=Lib.hid (fun A n c s w (h:Wds w A n c (nd 0)) (hs:s≤35184372088832)=>nshl_zero A n c (nd 0) s w h (by have:=h.nwt;rw [nw_zero]at this;omega) hs (by rw [nv_nd]))
   have HRT:=Lib.hid (fun A n c w (h:Wds w A n c (nd 0))=>nroot_zero A n c w h)
   have HOF:=Lib.hid (fun A n c w (h:Wds w A n c (nd 0))=>rof_any d false A n c (nd 0) (-1139) w h (by have h1:=h.nwt;rw [nw_zero]at h1;omega))
   rw [nv_nd]at HOF
   clear hs hT hO hneg hnw hbl hV hV0 h0 e
   go_enter Tryz.func21,Tryz.ntmps21
   go_wp2_with (first|(go_at_call 65;(with_reducible refine(HST.out _ HO.out).mono ?_);rintro e w2 ⟨rfl,rfl⟩)|(go_at_call 70;(with_reducible refine(HSG.out _ HO.out).mono ?_);rintro e w2 ⟨rfl,rfl⟩))
   refine(HSZ.out HO.out).mono ?_
   rintro e w2 ⟨A,l,c,rfl,hW,hE⟩
   have HW:=Lib.hid hW
   clear hW
   go_wp2_with fail
   refine(HS1.out _ _ _ 128 _ HW.out (by omega)).mono ?_
   rintro e w3 ⟨A3,n3,c3,rfl,hW3,hE3⟩
   have hE:=hE.trans hE3
   clear hE3
   go_wp2_with fail
   refine(HRT.out _ _ _ _ hW3).mono ?_
   rintro e w4 ⟨A4,n4,c4,rfl,hW4,hE4⟩
   have hE:=hE.trans hE4
   clear hE4 hW3
   go_wp2_with fail
   refine(HS1.out _ _ _ 1 _ hW4 (by omega)).mono ?_
   rintro e w5 ⟨A5,n5,c5,rfl,hW5,hE5⟩
   have hE:=hE.trans hE5
   clear hE5 hW4
   go_wp2_with fail
   refine(HOF.out _ _ _ _ hW5).mono ?_
   rintro e w8 ⟨r,rfl,h1,h2,hE8⟩
   go_wp2_with fail
   go_ret
   exact⟨r,rfl,h1,h2,hE.trans hE8⟩
  ·rw [if_neg (fun e=>h0 (hV0.2 e))]at HSG
   have hX1:1≤V*2^128:=Nat.mul_pos (by omega) (two_pow_pos _)
   have hXb:bl (V*2^128)≤9000:=by rw [bl_mul_pow 128 (by omega)];omega
   have HS1:=Lib.hid (fun A n c w (h:Wds w A n c (nd V))=>nshl_any A n c (nd V) 128 w h (by have:=h.nwt;omega) (by rw [nv_nd];omega) (by rw [nv_nd];omega))
   rw [nv_nd]at HS1
   obtain⟨X,hX⟩:∃X,X=V*2^128:=⟨_,rfl⟩
   rw [←hX]at HS1 hX1 hXb ⊢
   clear hX
   have HRT:=Lib.hid (fun A n c w (h:Wds w A n c (nd X))=>nroot_any A n c X w h hX1 hXb)
   have hq:=sqF_pos hX1
   have hb1:=sqF_nw hXb
   have hn1:=nw_of_bl (V:=sqF X*2+1) (by omega)
   have hn2:=nw_mono (show sqF X*2≤sqF X*2+1 by omega)
   have hb2:=bl_mono (show sqF X≤sqF X*2+1 by omega)
   have hn3:=nw_mono (show sqF X≤sqF X*2+1 by omega)
   have HS2:=Lib.hid (fun A n c w (h:Wds w A n c (nd (sqF X)))=>nshl_any A n c (nd (sqF X)) 1 w h (by have:=h.nwt;omega) (by rw [nv_nd];omega) (by rw [nv_nd];omega))
   rw [nv_nd,Nat.pow_one]at HS2
   by_cases hX:sqF X*sqF X=X
   ·rw [show rtX X=sqF X*2 from if_pos hX]
    have HOF:=Lib.hid (fun A n c w (h:Wds w A n c (nd (sqF X*2)))=>rof_any d false A n c (nd (sqF X*2)) (-1139) w h (by have h1:=h.nwt;omega))
    rw [nv_nd]at HOF
    clear hs hT hO hneg hnw hbl hV hV0 h0 hX1 hXb hq hb1 hn1 hn2 hb2 hn3
    have hex:decide (sqF X*sqF X=X)=true:=decide_eq_true hX
    rw [hex]at HRT
    clear hex hX
    go_enter Tryz.func21,Tryz.ntmps21
    go_wp2_with (first|(go_at_call 65;(with_reducible refine(HST.out _ HO.out).mono ?_);rintro e w2 ⟨rfl,rfl⟩)|(go_at_call 70;(with_reducible refine(HSG.out _ HO.out).mono ?_);rintro e w2 ⟨rfl,rfl⟩))
    refine(HSZ.out HO.out).mono ?_
    rintro e w2 ⟨A,l,c,rfl,hW,hE⟩
    have HW:=Lib.hid hW
    clear hW
    go_wp2_with fail
    refine(HS1.out _ _ _ _ HW.out).mono ?_
    rintro e w3 ⟨A3,n3,c3,rfl,hW3,hE3⟩
    have hE:=hE.trans hE3
    clear hE3
    go_wp2_with fail
    refine(HRT.out _ _ _ _ hW3).mono ?_
    rintro e w4 ⟨A4,n4,c4,rfl,hW4,hE4⟩
    have hE:=hE.trans hE4
    clear hE4 hW3
    go_wp2_with fail
    refine(HS2.out _ _ _ _ hW4).mono ?_
    rintro e w5 ⟨A5,n5,c5,rfl,hW5,hE5⟩
    have hE:=hE.trans hE5
    clear hE5 hW4
    go_wp2_with fail
    refine(HOF.out _ _ _ _ hW5).mono ?_
    rintro e w8 ⟨r,rfl,h1,h2,hE8⟩
    go_wp2_with fail
    go_ret
    exact⟨r,rfl,h1,h2,hE.trans hE8⟩
   ·rw [show rtX X=sqF X*2+1 from if_neg hX]
    have HOF:=Lib.hid (fun A n c w (h:Wds w A n c (nd ((sqF X*2+1))))=>rof_any d false A n c (nd ((sqF X*2+1))) (-1139) w h (by have h1:=h.nwt;omega))
    rw [nv_nd]at HOF
    have HAD:=Lib.hid (fun(A:Option Addr) (n c:Nat) (B:Option Addr) (m d:Nat) (w:World) (h:Wds w A n c (nd (sqF X*2))) (g:Wds w B m d (nd 1))=>nadd_any A n c (nd (sqF X*2)) B m d (nd 1) w h (by have:=h.nwt;omega) g (by have:=g.nwt;rw [show nw 1=1 from rfl]at this;omega) (by rw [nv_nd];omega) (by rw [nv_nd,show nw 1=1 from rfl];omega) (by rw [nv_nd,nv_nd];omega))
    simp only [nv_nd]at HAD
    clear hs hT hO hneg hnw hbl hV hV0 h0 hX1 hXb hq hb1 hn1 hn2 hb2 hn3
    have hex:decide (sqF X*sqF X=X)=false:=decide_eq_false hX
    rw [hex]at HRT
    clear hex hX
    go_enter Tryz.func21,Tryz.ntmps21
    go_wp2_with (first|(go_at_call 65;(with_reducible refine(HST.out _ HO.out).mono ?_);rintro e w2 ⟨rfl,rfl⟩)|(go_at_call 70;(with_reducible refine(HSG.out _ HO.out).mono ?_);rintro e w2 ⟨rfl,rfl⟩))
    refine(HSZ.out HO.out).mono ?_
    rintro e w2 ⟨A,l,c,rfl,hW,hE⟩
    have HW:=Lib.hid hW
    clear hW
    go_wp2_with fail
    refine(HS1.out _ _ _ _ HW.out).mono ?_
    rintro e w3 ⟨A3,n3,c3,rfl,hW3,hE3⟩
    have hE:=hE.trans hE3
    clear hE3
    go_wp2_with fail
    refine(HRT.out _ _ _ _ hW3).mono ?_
    rintro e w4 ⟨A4,n4,c4,rfl,hW4,hE4⟩
    have hE:=hE.trans hE4
    clear hE4 hW3
    go_wp2_with fail
    refine(HS2.out _ _ _ _ hW4).mono ?_
    rintro e w5 ⟨A5,n5,c5,rfl,hW5,hE5⟩
    have hE:=hE.trans hE5
    clear hE5 hW4
    go_wp2_with fail
    have hU:=unit_listt w5
    have hE6:Ext w5 (w5.alloc (.cells #[.int .u32 1] 105)):=(Ext.refl w5).alloc _
    have hW5:=hW5.ext hE6
    have hE:=hE.trans hE6
    clear hE6
    generalize w5.heap.size=g6 at hU ⊢
    generalize w5.alloc _=w6 at hU hE hW5 ⊢
    refine(HAD.out _ _ _ _ _ _ _ hW5 hU).mono ?_
    rintro e w7 ⟨A5,n5,c5,rfl,hW5,hE7⟩
    have hE:=hE.trans hE7
    clear hE7 hU
    go_wp2_with fail
    refine(HOF.out _ _ _ _ hW5).mono ?_
    rintro e w8 ⟨r,rfl,h1,h2,hE8⟩
    go_wp2_with fail
    go_ret
    exact⟨r,rfl,h1,h2,hE.trans hE8⟩
 ·have hs0:=hs
  obtain⟨st,hst⟩:∃st,st=S.state:=⟨_,rfl⟩
  have q1:(!(st==0))=true:=by rw [Bool.not_eq_true',beq_eq_false_iff_ne,hst];exact hs
  have q0:(st==0)=false:=by rw [beq_eq_false_iff_ne,hst];exact hs
  by_cases h1:st=1
  ·have HR:Hid (S.root d=infR):=Lib.hid (by unfold Sm.root;rw [if_pos (by rw [←hst];exact h1)])
   rw [←hst,h1]at HST
   rw [HR.out]
   clear hs hs0 hst hT hO q1 q0 HSG h1
   go_enter Tryz.func21,Tryz.ntmps21
   go_wp2_with (first|(go_at_call 65;(with_reducible refine(HST.out _ HO.out).mono ?_);rintro e w2 ⟨rfl,rfl⟩)|(go_at_call 31;(with_reducible refine(inf_p _).mono ?_);rintro e w2 ⟨rfl,rfl⟩))
   go_ret
   exact⟨_,rfl,by decide,by decide,Ext.refl _⟩
  ·have HR:Hid (S.root d=NaNc):=Lib.hid (by unfold Sm.root;rw [if_neg (by rw [←hst];exact h1),if_pos hs])
   have q3:(st != 0)=true:=by rw [bne,q0];rfl
   have q4:st≠0:=by rw [hst];exact hs
   have q2:(st==1)=false:=by rw [beq_eq_false_iff_ne];exact h1
   rw [←hst]at HST
   rw [HR.out]
   clear hs hs0 hst hT hO HSG h1
   go_enter Tryz.func21,Tryz.ntmps21
   go_wp2_with (first|(go_at_call 65;(with_reducible refine(HST.out _ HO.out).mono ?_);rintro e w2 ⟨rfl,rfl⟩)|(go_at_call 64;(with_reducible refine(mnanc_any _).mono ?_);rintro e w2 ⟨rfl,rfl⟩))
   go_ret
   exact⟨_,rfl,by decide,by decide,Ext.refl _⟩
end
end Go.Proofs.YtngdldcgkaplbaaGreat
namespace Go.Proofs.YtngdldcgkaplbaaGreat.Fw
open Go Go.Conc Go.ConcN Go.RowKit Go.Conc.Lib Go.ConcR.Gen Go.ConcN.Gen
open Go.ConcR (KK wgBlock WgAt stA smA rd wr mk Payload Aside2 DC0)
variable {L:WgLink}
def RL (ty:TypeId)(Wg:Nat)(w w₁:World):Prop:=WgLive ty Wg w→WgLive ty Wg w₁
theorem rl {ty:TypeId}{Wg:Nat}{w w₁:World}(h:WgLive ty Wg w)(r:RL ty Wg w w₁):WgLive ty Wg w₁:=r h
section
variable (P:Program) (main:Bool) (ty:TypeId) (Wg:Nat) (Next:Goroutine→World→Prop)
def AKe (g:Goroutine)(w:World):Prop:=g.status=.running∧∃g',stepG P main g w=.go g' w #[mk .enable]∧∃m,Goes P main (RL ty Wg) DC0 Next m g' w
def ARd (g:Goroutine)(w:World):Prop:=g.status=.running∧∃g',stepG P main g w=.go g' w #[mk (.read (smA Wg))]∧∃m,Goes P main (RL ty Wg) DC0 (AKe P main ty Wg Next) m g' w
def ARdKe (g:Goroutine)(w:World):Prop:=ARd P main ty Wg Next g w∨AKe P main ty Wg Next g w
def AA1 (g:Goroutine)(w:World):Prop:=g.status=.running∧∀v:Nat,v<2147483647→WgAt ty Wg w (v*KK) 0 →
 ∃g',stepG P main g w=.go g' (w.setCell (stA Wg) (.int .u64 ((v+1)*KK))) #[rd (stA Wg),wr (stA Wg)]∧∃m,Goes P main (RL ty Wg) DC0 (ARdKe P main ty Wg Next) m g' (w.setCell (stA Wg) (.int .u64 ((v+1)*KK)))
def AKd (g:Goroutine)(w:World):Prop:=g.status=.running∧∃g',stepG P main g w=.go g' w #[mk .disable]∧∃m,Goes P main (RL ty Wg) DC0 (AA1 P main ty Wg Next) m g' w
end
section
variable {Wg:Nat} {Next:Goroutine→World→Prop} {b₀:Frame} {a₀:Act} {ops₀:Array Oper} {i₀:Nat} {rest₀:List Nat} {k₀:List Item} {cs:List Frame} {mT:Nat} {main:Bool}
theorem addPos {P:Program}(H:WgLib P L)
  (hT:∀w,WgLive L.tWg Wg w→Goes P main (RL L.tWg Wg) DC0 Next mT (G (b₀.at (a₀.put ((ops₀[i₀]?).bind (·.dst)) (.tuple #[])) (.inRegion ops₀ rest₀::k₀)) cs) w)
  (w:World) (hF:WgLive L.tWg Wg w):
  Goes P main (RL L.tWg Wg) DC0 (AKd P main L.tWg Wg Next) 12
   (G ((base L.add).at ⟨#[.pointer (some ⟨Wg,0,none⟩),.int .i64 1,undef,undef,undef,undef,undef,undef,undef,undef,undef,undef,undef,undef,undef,undef,undef,undef,undef,undef,undef,undef,undef,undef,undef,undef,undef,undef,undef,undef,undef,undef,undef,undef,undef,undef,undef,undef,undef,undef,undef,undef,undef,undef,undef,undef,undef,undef,undef,undef,undef,undef,undef,undef,undef,undef,undef,undef,undef,undef,undef,undef,undef,undef,undef,undef,undef,undef,undef,undef,undef,undef,undef,undef,undef,undef,undef,undef,undef,undef,undef,undef,undef,undef,undef,undef,undef,undef,undef,undef,undef,undef,undef,undef,undef,undef,undef,undef,undef,undef,undef,undef,undef,undef,undef,undef,undef,undef,undef,undef,undef,undef,undef,undef,undef,undef,undef],[]⟩ [.code (body_add L)]) (b₀.at a₀ (.inRegion ops₀ (i₀::rest₀)::k₀)::cs)) w:=by
 lib_facts
 simp only [body_add,addFn,Option.getD_some]
 u_c stepG_seq rl hF
 u_cond true rl hF
 u_c stepG_seq rl hF
 u_c stepG_seq rl hF
 u_reg rl hF
 u_op rl hF
 u_op rl hF
 u_c stepG_region_end rl hF
 u_cond false rl hF
 u_c stepG_skip rl hF
 u_c stepG_seq rl hF
 u_reg rl hF
 refine Goes.stop (fun w₁ h₁=>?_)
 replace hF:=rl hF h₁
 clear h₁
 refine⟨rfl,_,stepG_mark0 .disable (by simp) rfl rfl (by k_ne) rfl H.f_disable (x_disable_n L) (x_disable_b L) (x_disable_x L) (x_disable_f L),40,?_⟩
 walk_nrm
 u_c stepG_region_end rl hF
 u_reg rl hF
 u_defer rl hF
 u_c stepG_region_end rl hF
 u_c stepG_seq rl hF
 u_reg rl hF
 u_op rl hF
 u_c stepG_region_end rl hF
 u_c stepG_seq rl hF
 u_c stepG_seq rl hF
 u_reg rl hF
 u_bub rl hF
 u_c stepG_region_end rl hF
 u_cond false rl hF
 u_c stepG_skip rl hF
 u_c stepG_seq rl hF
 u_reg rl hF
 iterate 6 u_op rl hF
 u_call H.f_uAdd (nm_uAdd L) uAddFn rl hF
 u_c stepG_seq rl hF
 u_reg rl hF
 u_op rl hF
 u_c stepG_region_end rl hF
 u_c stepG_seq rl hF
 u_reg rl hF
 u_op rl hF
 u_op rl hF
 u_op rl hF
 u_op rl hF
 refine Goes.stop (fun w₂ h₂=>?_)
 replace hF:=rl hF h₂
 clear h₂
 refine⟨rfl,fun v hv hw=>?_⟩
 rcases Nat.eq_zero_or_pos v with rfl|hvp
 ·replace hw:WgAt L.tWg Wg w₂ 0 0:=by simpa using hw
  have z:(((0:Nat):Int)+1)*KK=KK:=by simp
  rw [z]
  have e0:IntKind.u64.wrap (0+4294967296)=KK:=by decide
  refine⟨_,(stepG_add_atomic rfl rfl (by k_ne) rfl H.f_addU64 (x_addU64_n L) (x_addU64_b L) (x_addU64_x L) .u64 (x_addU64_f L) rfl rfl hw.cellSt (hw.thaw 0)).trans (by rw [e0];rfl),110,?_⟩
  replace hF:WgLive L.tWg Wg (w₂.setCell (stA Wg) (.int .u64 KK)):=⟨_,_,hw.setSt _⟩
  clear hw
  simp only [KK]at hF ⊢
  walk_nrm
  u_op rl hF
  u_c stepG_region_end rl hF
  u_c stepG_ret' rl hF
  u_leave1 H.f_uAdd rl hF
  u_op rl hF
  u_c stepG_region_end rl hF
  u_c stepG_seq rl hF
  u_c stepG_seq rl hF
  u_reg rl hF
  iterate 4 u_op rl hF
  u_skip rl hF
  u_skip rl hF
  u_op rl hF
  u_c stepG_region_end rl hF
  u_cond false rl hF
  u_c stepG_skip rl hF
  iterate 2
   u_c stepG_seq rl hF
   u_reg rl hF
   u_op rl hF
   u_op rl hF
   u_op rl hF
   u_op rl hF
   u_c stepG_region_end rl hF
  u_c stepG_seq rl hF
  u_c stepG_seq rl hF
  u_reg rl hF
  iterate 10 u_op rl hF
  u_c stepG_region_end rl hF
  u_cond true rl hF
  u_reg rl hF
  u_op rl hF
  u_op rl hF
  u_op rl hF
  u_conv H.underlying_tPU32 H.room_tU32 (WgLive.cell1 hF).choose_spec rl hF
  refine Goes.stop (fun w₄ h₄=>?_)
  replace hF:=rl hF h₄
  clear h₄
  refine .inl ⟨rfl,_,stepG_markAt .read (by simp) rfl rfl (by k_ne) rfl H.f_raceRead (x_raceRead_n L) (x_raceRead_b L) (x_raceRead_x L) (x_raceRead_f L) (ad:=⟨Wg,1,none⟩) (by simp [Act.eval]),60,?_⟩
  walk_nrm
  u_c stepG_region_end rl hF
  u_c stepG_seq rl hF
  u_c stepG_seq rl hF
  u_reg rl hF
  u_op rl hF
  u_op rl hF
  u_c stepG_region_end rl hF
  u_cond false rl hF
  u_c stepG_skip rl hF
  u_c stepG_seq rl hF
  u_c stepG_seq rl hF
  u_reg rl hF
  u_op rl hF
  iterate 2
   u_op rl hF
   u_op rl hF
   u_skip rl hF
   u_skip rl hF
  u_skip rl hF
  u_skip rl hF
  u_op rl hF
  u_c stepG_region_end rl hF
  u_cond false rl hF
  u_c stepG_skip rl hF
  u_c stepG_seq rl hF
  u_c stepG_seq rl hF
  u_reg rl hF
  u_op rl hF
  u_op rl hF
  u_op rl hF
  u_skip rl hF
  u_skip rl hF
  u_op rl hF
  u_c stepG_region_end rl hF
  u_cond true rl hF
  u_c stepG_ret' rl hF
  refine Goes.stop (fun w₃ h₃=>?_)
  replace hF:=rl hF h₃
  clear h₃
  refine⟨rfl,_,stepG_unwind_entry (v:=.tuple #[]) (evs:=#[mk .enable]) rfl H.f_enable (x_enable_n L) (x_enable_b L) (x_enable_x L) (x_enable_f L) (by simp [Extern.Race.none_]) (by simp [mk]) (by simp [mk]),mT+1,?_⟩
  u_leave0 H.f_add rl hF
  exact hT _ hF
 ·obtain⟨V,hV⟩:∃V:Int,V=(v:Int)+1:=⟨_,rfl⟩
  obtain⟨S,hS⟩:∃S:Int,S=V*KK:=⟨_,rfl⟩
  have eS:IntKind.u64.wrap ((v:Int)*KK+4294967296)=S:=by rw [IntKind.wrap_u64,hS,hV];simp only [KK];omega
  rw [←hV,←hS]
  have a1:S/4294967296=V:=by rw [hS];simp only [KK];omega
  have b1:bits .and .u64 S 2147483648=0:=by rw [hS,hV];have:=st_flag (v+1) 0 (by omega) (by omega);simpa [KK]using this
  have b2:bits .and .u64 S 2147483647=0:=by rw [hS,hV];have:=st_waiters (v+1) 0 (by omega) (by omega);simpa [KK]using this
  have c1:IntKind.i32.wrap V=V:=by rw [IntKind.wrap_i32];omega
  have hV1:1<V:=by omega
  have hV2:V<2147483648:=by omega
  have q1:(V==1)=false:=by simp;omega
  have q2:decide (V=1)=false:=decide_eq_false (by omega)
  have q3:decide (V<0)=false:=decide_eq_false (by omega)
  have q4:decide (0<V)=true:=decide_eq_true (by omega)
  have q5:(V==0)=false:=by simp;omega
  have q6:decide (V=0)=false:=decide_eq_false (by omega)
  refine⟨_,(stepG_add_atomic rfl rfl (by k_ne) rfl H.f_addU64 (x_addU64_n L) (x_addU64_b L) (x_addU64_x L) .u64 (x_addU64_f L) rfl rfl hw.cellSt (hw.thaw 0)).trans (by rw [eS];rfl),110,?_⟩
  replace hF:WgLive L.tWg Wg (w₂.setCell (stA Wg) (.int .u64 S)):=⟨_,_,hw.setSt _⟩
  clear hw hS hV eS
  walk_nrm
  u_op rl hF
  u_c stepG_region_end rl hF
  u_c stepG_ret' rl hF
  u_leave1 H.f_uAdd rl hF
  u_op rl hF
  u_c stepG_region_end rl hF
  u_c stepG_seq rl hF
  u_c stepG_seq rl hF
  u_reg rl hF
  iterate 4 u_op rl hF
  u_skip rl hF
  u_skip rl hF
  u_op rl hF
  u_c stepG_region_end rl hF
  u_cnd false rl hF
  u_c stepG_skip rl hF
  iterate 2
   u_c stepG_seq rl hF
   u_reg rl hF
   u_op rl hF
   u_op rl hF
   u_op rl hF
   u_op rl hF
   u_c stepG_region_end rl hF
  u_c stepG_seq rl hF
  u_c stepG_seq rl hF
  u_reg rl hF
  iterate 10 u_op rl hF
  iterate 2
   u_c stepG_region_end rl hF
   u_cnd false rl hF
   u_c stepG_skip rl hF
   u_c stepG_seq rl hF
   u_c stepG_seq rl hF
   u_reg rl hF
   u_op rl hF
   u_op rl hF
  u_op rl hF
  u_skip rl hF
  u_skip rl hF
  u_op rl hF
  u_op rl hF
  u_skip rl hF
  u_skip rl hF
  u_skip rl hF
  u_skip rl hF
  u_op rl hF
  u_c stepG_region_end rl hF
  u_cnd false rl hF
  u_c stepG_skip rl hF
  u_c stepG_seq rl hF
  u_c stepG_seq rl hF
  u_reg rl hF
  u_op rl hF
  u_op rl hF
  u_op rl hF
  u_skip rl hF
  u_skip rl hF
  u_op rl hF
  u_c stepG_region_end rl hF
  u_cnd true rl hF
  u_c stepG_ret' rl hF
  refine Goes.stop (fun w₃ h₃=>?_)
  replace hF:=rl hF h₃
  clear h₃
  refine .inr ?_
  refine⟨rfl,_,stepG_unwind_entry (v:=.tuple #[]) (evs:=#[mk .enable]) rfl H.f_enable (x_enable_n L) (x_enable_b L) (x_enable_x L) (x_enable_f L) (by simp [Extern.Race.none_]) (by simp [mk]) (by simp [mk]),mT+1,?_⟩
  u_leave0 H.f_add rl hF
  exact hT _ hF
end
variable {L:WgLink}
section
variable (P:Program) (main:Bool) (ty:TypeId) (Wg:Nat) (Next Anch:Goroutine→World→Prop)
def AAq (g:Goroutine)(w:World):Prop:=g.status=.running∧∃g',stepG P main g w=.go g' w #[mk (.acquire (stA Wg))]∧∃m,Goes P main (RL ty Wg) DC0 Next m g' w
def AW4 (g:Goroutine)(w:World):Prop:=g.status=.running∧(WgAt ty Wg w 0 0→∃g',stepG P main g w=.go g' w #[rd (stA Wg)]∧∃m,Goes P main (RL ty Wg) DC0 (AKe P main ty Wg (AAq P main ty Wg Next)) m g' w)
def AW3 (g:Goroutine)(w:World):Prop:=g.status=.running∧g.offers=none∧((∃st,WgAt ty Wg w st 0)→stepG P main g w=.go { g with status:=.blocked } w #[]) ∧
 (WgAt ty Wg w 0 1→∃g',stepG P main g w=.go g' (w.setCell (smA Wg) (.int .u32 0)) (semEvents (smA Wg))∧∃m,Goes P main (RL ty Wg) DC0 (AW4 P main ty Wg Next) m g' (w.setCell (smA Wg) (.int .u32 0)))
def AWr (g:Goroutine)(w:World):Prop:=g.status=.running∧∃g',stepG P main g w=.go g' w #[mk (.write (smA Wg))]∧∃m,Goes P main (RL ty Wg) DC0 (AW3 P main ty Wg Next) m g' w
def AW2 (vs:Nat)(g:Goroutine)(w:World):Prop:=g.status=.running∧∀v:Nat,v<2147483648→WgAt ty Wg w (v*KK) 0 →
  (v=vs→∃g',stepG P main g w=.go g' (w.setCell (stA Wg) (.int .u64 (v*KK+1))) #[rd (stA Wg),wr (stA Wg)]∧∃m,Goes P main (RL ty Wg) DC0 (AWr P main ty Wg Next) m g' (w.setCell (stA Wg) (.int .u64 (v*KK+1)))) ∧
  (v≠vs→∃g',stepG P main g w=.go g' w #[rd (stA Wg)]∧∃m,Goes P main (RL ty Wg) DC0 Anch m g' w)
def AW1 (g:Goroutine)(w:World):Prop:=g.status=.running∧∀v:Nat,v<2147483648→WgAt ty Wg w (v*KK) 0→∃g',stepG P main g w=.go g' w #[rd (stA Wg)] ∧
  (v=0→∃m,Goes P main (RL ty Wg) DC0 (AKe P main ty Wg (AAq P main ty Wg Next)) m g' w)∧(v≠0→∃m,Goes P main (RL ty Wg) DC0 (AW2 P main ty Wg Next Anch v) m g' w)
def AKdW (g:Goroutine)(w:World):Prop:=g.status=.running∧∃g',stepG P main g w=.go g' w #[mk .disable]∧∃m,Goes P main (RL ty Wg) DC0 Anch m g' w
end
def Anc (L:WgLink)(Wg:Nat)(c:Frame)(cs:List Frame)(g:Goroutine)(w:World):Prop:=
 ∃T:Array Value,g=G ((base L.wait).at ⟨T,[]⟩ [.code (L7 L),.inLoop (L7 L),.inBlock 0]) (c::cs)∧T.size=84∧T[0]?=some (.pointer (some ⟨Wg,0,none⟩))∧WgLive L.tWg Wg w
section
variable {Wg:Nat} {Next:Goroutine→World→Prop} {b₀:Frame} {a₀:Act} {ops₀:Array Oper} {i₀:Nat} {rest₀:List Nat} {k₀:List Item} {cs:List Frame} {mT:Nat} {main:Bool}
theorem waitRound {P:Program}(H:WgLib P L)
  (hT:∀w,WgLive L.tWg Wg w→Goes P main (RL L.tWg Wg) DC0 Next mT (G (b₀.at (a₀.put ((ops₀[i₀]?).bind (·.dst)) (.tuple #[])) (.inRegion ops₀ rest₀::k₀)) cs) w)
  (g:Goroutine) (w:World) (h:Anc L Wg (b₀.at a₀ (.inRegion ops₀ (i₀::rest₀)::k₀)) cs g w):
  ∃m,Goes P main (RL L.tWg Wg) DC0 (AW1 P main L.tWg Wg Next (Anc L Wg (b₀.at a₀ (.inRegion ops₀ (i₀::rest₀)::k₀)) cs)) m g w:=by
 lib_facts
 obtain⟨T,rfl,hT84,t0,hF⟩:=h
 obtain⟨v0,v1,v2,v3,v4,v5,v6,v7,v8,v9,v10,v11,v12,v13,v14,v15,v16,v17,v18,v19,v20,v21,v22,v23,v24,v25,v26,v27,v28,v29,v30,v31,v32,v33,v34,v35,v36,v37,v38,v39,v40,v41,v42,v43,v44,v45,v46,v47,v48,v49,v50,v51,v52,v53,v54,v55,v56,v57,v58,v59,v60,v61,v62,v63,v64,v65,v66,v67,v68,v69,v70,v71,v72,v73,v74,v75,v76,v77,v78,v79,v80,v81,v82,v83,rfl⟩:=array84 T hT84
 simp only [List.getElem?_toArray,List.getElem?_cons_zero,Option.some.injEq]at t0
 subst t0
 refine⟨30,?_⟩
 simp only [L7,body_wait,waitFn,Option.getD_some]
 u_c stepG_block rl hF
 u_c stepG_seq rl hF
 u_reg rl hF
 u_op rl hF
 u_op rl hF
 u_op rl hF
 u_call H.f_uLoad (nm_uLoad L) uLoadFn rl hF
 u_c stepG_seq rl hF
 u_reg rl hF
 u_op rl hF
 u_c stepG_region_end rl hF
 u_c stepG_seq rl hF
 u_reg rl hF
 u_op rl hF
 u_op rl hF
 u_op rl hF
 refine Goes.stop (fun w₁ h₁=>?_)
 replace hF:=rl hF h₁
 clear h₁
 refine⟨rfl,fun v hv hw=>?_⟩
 rcases Nat.eq_zero_or_pos v with rfl|hvp
 ·replace hw:WgAt L.tWg Wg w₁ 0 0:=by simpa using hw
  refine⟨_,stepG_load_atomic (v:=0) rfl rfl (by k_ne) rfl H.f_loadU64 (x_loadU64_n L) (x_loadU64_b L) (x_loadU64_x L) .u64 (x_loadU64_f L) rfl hw.cellSt,fun _=>⟨50,?_⟩,fun h=>absurd rfl h⟩
  clear hw
  walk_nrm
  u_op rl hF
  u_c stepG_region_end rl hF
  u_c stepG_ret' rl hF
  u_leave1 H.f_uLoad rl hF
  iterate 2
   u_op rl hF
   u_c stepG_region_end rl hF
   u_c stepG_seq rl hF
   u_reg rl hF
   u_op rl hF
   u_op rl hF
   u_op rl hF
  u_op rl hF
  u_c stepG_region_end rl hF
  u_c stepG_seq rl hF
  u_c stepG_seq rl hF
  u_reg rl hF
  u_op rl hF
  u_op rl hF
  u_c stepG_region_end rl hF
  iterate 2
   u_cond true rl hF
   u_c stepG_seq rl hF
  u_reg rl hF
  refine Goes.stop (fun w₅ h₅=>?_)
  replace hF:=rl hF h₅
  clear h₅
  refine⟨rfl,_,stepG_mark0 .enable (by simp) rfl rfl (by k_ne) rfl H.f_enable (x_enable_n L) (x_enable_b L) (x_enable_x L) (x_enable_f L),12,?_⟩
  walk_nrm
  u_c stepG_region_end rl hF
  u_reg rl hF
  u_op rl hF
  u_conv H.underlying_tWgP H.room_tWg (WgLive.cell0 hF).choose_spec rl hF
  refine Goes.stop (fun w₆ h₆=>?_)
  replace hF:=rl hF h₆
  clear h₆
  refine⟨rfl,_,stepG_markAt .acquire (by simp) rfl rfl (by k_ne) rfl H.f_acquire (x_acquire_n L) (x_acquire_b L) (x_acquire_x L) (x_acquire_f L) (by simp [Act.eval,stA]),mT+20,?_⟩
  walk_nrm
  u_c stepG_region_end rl hF
  u_c stepG_seq rl hF
  u_c stepG_seq rl hF
  u_reg rl hF
  iterate 8 u_op rl hF
  u_skip rl hF
  u_skip rl hF
  u_op rl hF
  u_c stepG_region_end rl hF
  u_cond false rl hF
  u_c stepG_skip rl hF
  u_c stepG_ret' rl hF
  u_leave0 H.f_wait rl hF
  exact hT _ hF
 ·obtain⟨S,hS⟩:∃S:Int,(v:Int)*KK=S:=⟨_,rfl⟩
  have a1:S/4294967296=(v:Int):=by rw [←hS];simp only [KK];omega
  have b1:bits .and .u64 S 2147483648=0:=by rw [←hS];have:=st_flag v 0 (by omega) (by omega);simpa [KK]using this
  have b2:bits .and .u64 S 2147483647=0:=by rw [←hS];have:=st_waiters v 0 (by omega) (by omega);simpa [KK]using this
  have c1:IntKind.i32.wrap (v:Int)=(v:Int):=by rw [IntKind.wrap_i32];omega
  have w1:IntKind.u64.wrap (S+1)=S+1:=by rw [IntKind.wrap_u64,←hS];simp only [KK];omega
  have q3:decide ((v:Int)<0)=false:=decide_eq_false (by omega)
  have q4:decide (0<(v:Int))=true:=decide_eq_true (by omega)
  have q5:((v:Int)==0)=false:=by simp;omega
  have q6:decide ((v:Int)=0)=false:=decide_eq_false (by omega)
  rw [hS]at hw
  refine⟨_,stepG_load_atomic (v:=S) rfl rfl (by k_ne) rfl H.f_loadU64 (x_loadU64_n L) (x_loadU64_b L) (x_loadU64_x L) .u64 (x_loadU64_f L) rfl hw.cellSt,fun h0=>absurd h0 (by omega),fun _=>⟨60,?_⟩⟩
  clear hw
  walk_nrm
  u_op rl hF
  u_c stepG_region_end rl hF
  u_c stepG_ret' rl hF
  u_leave1 H.f_uLoad rl hF
  iterate 2
   u_op rl hF
   u_c stepG_region_end rl hF
   u_c stepG_seq rl hF
   u_reg rl hF
   u_op rl hF
   u_op rl hF
   u_op rl hF
  u_op rl hF
  u_c stepG_region_end rl hF
  u_c stepG_seq rl hF
  u_c stepG_seq rl hF
  u_reg rl hF
  u_op rl hF
  u_op rl hF
  u_c stepG_region_end rl hF
  u_cnd false rl hF
  u_c stepG_skip rl hF
  u_c stepG_seq rl hF
  u_reg rl hF
  iterate 6 u_op rl hF
  u_call H.f_uCas (nm_uCas L) uCasFn rl hF
  u_c stepG_seq rl hF
  u_reg rl hF
  u_op rl hF
  u_c stepG_region_end rl hF
  u_c stepG_seq rl hF
  u_reg rl hF
  iterate 5 u_op rl hF
  refine Goes.stop (fun w₂ h₂=>?_)
  replace hF:=rl hF h₂
  clear h₂
  refine⟨rfl,fun v' hv' hw=>⟨fun e=>?_,fun e=>?_⟩⟩
  ·subst e
   rw [hS]at hw ⊢
   refine⟨_,(stepG_cas_hit (v:=S) (n:=S+1) rfl rfl (by k_ne) rfl H.f_casU64 (x_casU64_n L) (x_casU64_b L) (x_casU64_x L) .u64 (x_casU64_f L) rfl rfl rfl hw.cellSt (hw.thaw 0)).trans (by rfl),70,?_⟩
   replace hF:WgLive L.tWg Wg (w₂.setCell (stA Wg) (.int .u64 (S+1))):=⟨_,_,hw.setSt _⟩
   clear hw
   walk_nrm
   u_op rl hF
   u_c stepG_region_end rl hF
   u_c stepG_ret' rl hF
   u_leave1 H.f_uCas rl hF
   u_c stepG_region_end rl hF
   u_cond true rl hF
   u_c stepG_seq rl hF
   u_c stepG_seq rl hF
   u_reg rl hF
   iterate 4 u_op rl hF
   u_c stepG_region_end rl hF
   u_cond true rl hF
   u_reg rl hF
   u_op rl hF
   u_op rl hF
   u_op rl hF
   u_conv H.underlying_tPU32 H.room_tU32 (WgLive.cell1 hF).choose_spec rl hF
   refine Goes.stop (fun w₇ h₇=>?_)
   replace hF:=rl hF h₇
   clear h₇
   refine⟨rfl,_,stepG_markAt .write (by simp) rfl rfl (by k_ne) rfl H.f_raceWrite (x_raceWrite_n L) (x_raceWrite_b L) (x_raceWrite_x L) (x_raceWrite_f L) (ad:=⟨Wg,1,none⟩) (by simp [Act.eval]),40,?_⟩
   walk_nrm
   u_c stepG_region_end rl hF
   u_c stepG_seq rl hF
   u_reg rl hF
   u_op rl hF
   u_c stepG_region_end rl hF
   u_c stepG_seq rl hF
   u_c stepG_seq rl hF
   u_reg rl hF
   iterate 4 u_op rl hF
   u_skip rl hF
   u_op rl hF
   u_c stepG_region_end rl hF
   u_cond false rl hF
   u_c stepG_skip rl hF
   u_c stepG_seq rl hF
   u_reg rl hF
   iterate 4 u_op rl hF
   refine Goes.stop (fun w₃ h₃=>?_)
   replace hF:=rl hF h₃
   clear h₃
   refine⟨rfl,rfl,fun⟨st,hw⟩=>stepG_semacquire_wait rfl rfl rfl H.f_semacquire (x_semacquire_n L) (x_semacquire_b L) (x_semacquire_x L) (x_semacquire_f L) (by simp [Act.eval,smA]) hw.cellSm,fun hf=>?_⟩
   refine⟨_,(stepG_semacquire (n:=1) rfl rfl (by k_ne) rfl H.f_semacquire (x_semacquire_n L) (x_semacquire_b L) (x_semacquire_x L) (x_semacquire_f L) (by simp [Act.eval,smA]) hf.cellSm (by k_ne) (hf.thaw 1)).trans (by rfl),30,?_⟩
   replace hF:WgLive L.tWg Wg (w₃.setCell (smA Wg) (.int .u32 0)):=⟨_,_,hf.setSm 0⟩
   clear hf
   walk_nrm
   u_c stepG_region_end rl hF
   u_c stepG_seq rl hF
   u_reg rl hF
   u_op rl hF
   u_op rl hF
   u_op rl hF
   u_call H.f_uLoad (nm_uLoad L) uLoadFn rl hF
   u_c stepG_seq rl hF
   u_reg rl hF
   u_op rl hF
   u_c stepG_region_end rl hF
   u_c stepG_seq rl hF
   u_reg rl hF
   u_op rl hF
   u_op rl hF
   u_op rl hF
   refine Goes.stop (fun w₄ h₄=>?_)
   replace hF:=rl hF h₄
   clear h₄
   refine⟨rfl,fun hw=>⟨_,stepG_load_atomic (v:=0) rfl rfl (by k_ne) rfl H.f_loadU64 (x_loadU64_n L) (x_loadU64_b L) (x_loadU64_x L) .u64 (x_loadU64_f L) rfl hw.cellSt,30,?_⟩⟩
   clear hw
   walk_nrm
   u_op rl hF
   u_c stepG_region_end rl hF
   u_c stepG_ret' rl hF
   u_leave1 H.f_uLoad rl hF
   u_op rl hF
   u_op rl hF
   u_c stepG_region_end rl hF
   u_c stepG_seq rl hF
   u_cond true rl hF
   u_c stepG_seq rl hF
   u_reg rl hF
   refine Goes.stop (fun w₅ h₅=>?_)
   replace hF:=rl hF h₅
   clear h₅
   refine⟨rfl,_,stepG_mark0 .enable (by simp) rfl rfl (by k_ne) rfl H.f_enable (x_enable_n L) (x_enable_b L) (x_enable_x L) (x_enable_f L),12,?_⟩
   walk_nrm
   u_c stepG_region_end rl hF
   u_reg rl hF
   u_op rl hF
   u_conv H.underlying_tWgP H.room_tWg (WgLive.cell0 hF).choose_spec rl hF
   refine Goes.stop (fun w₆ h₆=>?_)
   replace hF:=rl hF h₆
   clear h₆
   refine⟨rfl,_,stepG_markAt .acquire (by simp) rfl rfl (by k_ne) rfl H.f_acquire (x_acquire_n L) (x_acquire_b L) (x_acquire_x L) (x_acquire_f L) (by simp [Act.eval,stA]),mT+10,?_⟩
   walk_nrm
   u_c stepG_region_end rl hF
   u_c stepG_seq rl hF
   u_c stepG_seq rl hF
   u_reg rl hF
   u_op rl hF
   u_c stepG_region_end rl hF
   u_cond false rl hF
   u_c stepG_skip rl hF
   u_c stepG_ret' rl hF
   u_leave0 H.f_wait rl hF
   exact hT _ hF
  ·refine⟨_,stepG_cas_miss (v:=(v':Int)*KK) (old:=S) (n:=S+1) rfl rfl (by k_ne) rfl H.f_casU64 (x_casU64_n L) (x_casU64_b L) (x_casU64_x L) .u64 (x_casU64_f L) rfl rfl rfl hw.cellSt (hw.thaw 0) (by rw [←hS];simp only [KK];omega),20,?_⟩
   clear hw
   walk_nrm
   u_op rl hF
   u_c stepG_region_end rl hF
   u_c stepG_ret' rl hF
   u_leave1 H.f_uCas rl hF
   u_c stepG_region_end rl hF
   u_cond false rl hF
   u_c stepG_skip rl hF
   u_c stepG_inBlock rl hF
   u_c stepG_inLoop rl hF
   exact Goes.stop (fun w₃ h₃=>⟨_,rfl,by simp,by simp,rl hF h₃⟩)
theorem waitStart {P:Program}(H:WgLib P L)(w:World)(hF:WgLive L.tWg Wg w) :
  Goes P main (RL L.tWg Wg) DC0 (AKdW P main L.tWg Wg (Anc L Wg (b₀.at a₀ (.inRegion ops₀ (i₀::rest₀)::k₀)) cs)) 3
   (G ((base L.wait).at ⟨#[.pointer (some ⟨Wg,0,none⟩),undef,undef,undef,undef,undef,undef,undef,undef,undef,undef,undef,undef,undef,undef,undef,undef,undef,undef,undef,undef,undef,undef,undef,undef,undef,undef,undef,undef,undef,undef,undef,undef,undef,undef,undef,undef,undef,undef,undef,undef,undef,undef,undef,undef,undef,undef,undef,undef,undef,undef,undef,undef,undef,undef,undef,undef,undef,undef,undef,undef,undef,undef,undef,undef,undef,undef,undef,undef,undef,undef,undef,undef,undef,undef,undef,undef,undef,undef,undef,undef,undef,undef,undef],[]⟩ [.code (body_wait L)]) (b₀.at a₀ (.inRegion ops₀ (i₀::rest₀)::k₀)::cs)) w:=by
 lib_facts
 simp only [body_wait,waitFn,Option.getD_some]
 u_c stepG_seq rl hF
 u_cond true rl hF
 u_reg rl hF
 refine Goes.stop (fun w₁ h₁=>?_)
 replace hF:=rl hF h₁
 clear h₁
 refine⟨rfl,_,stepG_mark0 .disable (by simp) rfl rfl (by k_ne) rfl H.f_disable (x_disable_n L) (x_disable_b L) (x_disable_x L) (x_disable_f L),3,?_⟩
 walk_nrm
 u_c stepG_region_end rl hF
 u_c stepG_block rl hF
 u_c stepG_loop rl hF
 exact Goes.stop (fun w₂ h₂=>⟨_,rfl,by simp,by simp,rl hF h₂⟩)
end
end Go.Proofs.YtngdldcgkaplbaaGreat.Fw
namespace Go.Proofs.YtngdldcgkaplbaaGreat.Fw
open Go Go.Conc.Lib
abbrev lnk:WgLink:={ add:=142,done:=144,wait:=146,relMerge:=175,disable:=176,enable:=177,inBubble:=178,associate:=179,fatal:=180,uOr:=181,uAdd:=182,raceRead:=183,uLoad:=184,uStore:=185,disassociate:=186,semrelease:=187,acquire:=188,isAssociated:=189,uCas:=190,raceWrite:=191,semacquire:=192,orU64:=205,addU64:=206,loadU64:=207,storeU64:=208,casU64:=209,tWgP:=192,tUP:=194,tAssoc:=195,tWg:=169,tAU:=167,tU64:=29,tUint:=136,tU32:=105,tPU32:=198,tPAU:=211,tPU64:=213,tNoCopy:=163,tANoCopy:=164,tAlign64:=165 }
theorem wgLib:WgLib Tryz.prog lnk:=
 ⟨Tryz.func142,Tryz.func144,Tryz.func146,Tryz.func175,Tryz.func176,Tryz.func177,Tryz.func178,Tryz.func179,Tryz.func180,Tryz.func181,Tryz.func182,Tryz.func183,Tryz.func184,Tryz.func185,Tryz.func186,Tryz.func187,Tryz.func188,Tryz.func189,Tryz.func190,Tryz.func191,Tryz.func192,Tryz.func205,Tryz.func206,Tryz.func207,Tryz.func208,Tryz.func209,Tryz.underlying192,Tryz.runUnderlying192,Tryz.sizeOf192,Tryz.isAgg192,Tryz.zeroValue192,Tryz.underlying194,Tryz.runUnderlying194,Tryz.sizeOf194,Tryz.isAgg194,Tryz.zeroValue194,Tryz.underlying195,Tryz.runUnderlying195,Tryz.sizeOf195,Tryz.isAgg195,Tryz.zeroValue195,Tryz.underlying169,Tryz.runUnderlying169,Tryz.sizeOf169,Tryz.isAgg169,Tryz.zeroValue169,Tryz.underlying167,Tryz.runUnderlying167,Tryz.sizeOf167,Tryz.isAgg167,Tryz.zeroValue167,Tryz.underlying29,Tryz.runUnderlying29,Tryz.sizeOf29,Tryz.isAgg29,Tryz.zeroValue29,Tryz.underlying136,Tryz.runUnderlying136,Tryz.sizeOf136,Tryz.isAgg136,Tryz.zeroValue136,Tryz.underlying105,Tryz.runUnderlying105,Tryz.sizeOf105,Tryz.isAgg105,Tryz.zeroValue105,Tryz.underlying198,Tryz.runUnderlying198,Tryz.sizeOf198,Tryz.isAgg198,Tryz.zeroValue198,Tryz.underlying211,Tryz.runUnderlying211,Tryz.sizeOf211,Tryz.isAgg211,Tryz.zeroValue211,Tryz.underlying213,Tryz.runUnderlying213,Tryz.sizeOf213,Tryz.isAgg213,Tryz.zeroValue213,Tryz.underlying0,Tryz.runUnderlying0,Tryz.sizeOf0,Tryz.isAgg0,Tryz.zeroValue0,Tryz.underlying3,Tryz.runUnderlying3,Tryz.sizeOf3,Tryz.isAgg3,Tryz.zeroValue3,Tryz.underlying4,Tryz.runUnderlying4,Tryz.sizeOf4,Tryz.isAgg4,Tryz.zeroValue4,Tryz.underlying9,Tryz.runUnderlying9,Tryz.sizeOf9,Tryz.isAgg9,Tryz.zeroValue9,Tryz.underlying20,Tryz.runUnderlying20,Tryz.sizeOf20,Tryz.isAgg20,Tryz.zeroValue20,Tryz.underlying21,Tryz.runUnderlying21,Tryz.sizeOf21,Tryz.isAgg21,Tryz.zeroValue21,(by kernel_rfl),(by kernel_rfl)⟩
end Go.Proofs.YtngdldcgkaplbaaGreat.Fw
namespace Go.Proofs.YtngdldcgkaplbaaGreat.Lk
open Go
abbrev Map:=Nat→Option (Nat×Nat)
def Map.le (r s:Map):Prop:=∀b x,r b=some x→s b=some x
theorem Map.le_refl (r:Map):r.le r:=fun _ _ h=>h
theorem Map.le_trans {r s t:Map}(h:r.le s)(k:s.le t):r.le t:=fun b x hb=>k b x (h b x hb)
def AR (r:Map)(a a':Addr):Prop:=∃b o B s,a=⟨b,o,none⟩∧r b=some (B,s)∧a'=⟨B,o+s,none⟩
theorem AR.mono {r s:Map}(h:r.le s){a a':Addr}(k:AR r a a'):AR s a a':=by
 obtain⟨b,o,B,t,h1,h2,h3⟩:=k
 exact⟨b,o,B,t,h1,h _ _ h2,h3⟩
theorem AR.add {r:Map}{a a':Addr}(k:AR r a a')(n:Nat):AR r (a.add n) (a'.add n):=by
 obtain⟨b,o,B,t,rfl,h2,rfl⟩:=k
 unfold Addr.add
 split
 ·exact⟨b,o,B,t,rfl,h2,rfl⟩
 ·exact⟨b,o+n,B,t,rfl,h2,by simp;omega⟩
inductive VR (F:FuncId→Prop)(r:Map):Value→Value→Prop
 |bool (b:Bool):VR F r (.bool b) (.bool b)
 |int (k:IntKind) (n:Int):VR F r (.int k n) (.int k n)
 |float (k:FloatKind) (n:Nat):VR F r (.float k n) (.float k n)
 |string (s:ByteArray):VR F r (.string s) (.string s)
 |nilp:VR F r (.pointer none) (.pointer none)
 |ptr {a a':Addr} (h:AR r a a'):VR F r (.pointer (some a)) (.pointer (some a'))
 |nils (l c:Nat):VR F r (.slice none l c) (.slice none l c)
 |slice {a a':Addr} (l c:Nat) (h:AR r a a'):VR F r (.slice (some a) l c) (.slice (some a') l c)
 |nilf:VR F r .nilFunc .nilFunc
 |void {c:Fn} {xs us:Array Value}:VR F r .nilFunc (.func c xs us)
 |voidp {a:Addr}:VR F r .nilFunc (.pointer (some a))
 |func {f:FuncId} {xs ys us vs:Array Value} (hf:F f) (h1:xs.size=ys.size) (h2:∀(i:Nat) (v v':Value),xs[i]?=some v→ys[i]?=some v'→VR F r v v') (h3:us.size=vs.size) (h4:∀(i:Nat) (v v':Value),us[i]?=some v→vs[i]?=some v'→VR F r v v'):VR F r (.func (.func f) xs us) (.func (.func f) ys vs)
 |nili:VR F r .nilIface .nilIface
 |chan (c:Option Nat):VR F r (.chan c) (.chan c)
 |iface (t:TypeId) {v v':Value} (h:VR F r v v'):VR F r (.iface t v) (.iface t v')
 |agg {xs ys:Array Value} (h1:xs.size=ys.size) (h2:∀(i:Nat) (v v':Value),xs[i]?=some v→ys[i]?=some v'→VR F r v v'):VR F r (.agg xs) (.agg ys)
 |tuple {xs ys:Array Value} (h1:xs.size=ys.size) (h2:∀(i:Nat) (v v':Value),xs[i]?=some v→ys[i]?=some v'→VR F r v v'):VR F r (.tuple xs) (.tuple ys)
def VA (F:FuncId→Prop)(r:Map)(xs ys:Array Value):Prop:=xs.size=ys.size∧∀(i:Nat) (v v':Value),xs[i]?=some v→ys[i]?=some v'→VR F r v v'
section
variable {F:FuncId→Prop} {r s:Map}
theorem VR.mono (h:r.le s){v v':Value}(k:VR F r v v'):VR F s v v':=by
 induction k with
 |bool b=>exact .bool b
 |int k n=>exact .int k n
 |float k n=>exact .float k n
 |string x=>exact .string x
 |nilp=>exact .nilp
 |ptr k=>exact .ptr (k.mono h)
 |nils l c=>exact .nils l c
 |slice l c k=>exact .slice l c (k.mono h)
 |nilf=>exact .nilf
 |void=>exact .void
 |voidp=>exact .voidp
 |func hf h1 h2 h3 h4 i2 i4=>exact .func hf h1 i2 h3 i4
 |nili=>exact .nili
 |chan c=>exact .chan c
 |iface t _ ih=>exact .iface t ih
 |agg h1 _ ih=>exact .agg h1 ih
 |tuple h1 _ ih=>exact .tuple h1 ih
theorem VA.mono (h:r.le s){xs ys:Array Value}(k:VA F r xs ys):VA F s xs ys:=⟨k.1,fun i v v' h1 h2=>(k.2 i v v' h1 h2).mono h⟩
theorem VA.get {xs ys:Array Value}(h:VA F r xs ys){i:Nat}{v:Value}(hv:xs[i]?=some v):∃v',ys[i]?=some v'∧VR F r v v':=by
 have hi:i<ys.size:=by rw [←h.1];exact(Array.getElem?_eq_some_iff.1 hv).1
 exact⟨ys[i],Array.getElem?_eq_getElem hi,h.2 i v _ hv (Array.getElem?_eq_getElem hi)⟩
theorem VA.none {xs ys:Array Value}(h:VA F r xs ys){i:Nat}(hv:xs[i]?=none):ys[i]?=none:=by
 rw [Array.getElem?_eq_none_iff]at hv ⊢
 rw [←h.1];exact hv
theorem VR.agg' {xs ys:Array Value}(h:VA F r xs ys):VR F r (.agg xs) (.agg ys):=.agg h.1 h.2
theorem VR.tuple' {xs ys:Array Value}(h:VA F r xs ys):VR F r (.tuple xs) (.tuple ys):=.tuple h.1 h.2
theorem VA.empty:VA F r #[] #[]:=⟨rfl,fun i v v' h=>by simp at h⟩
theorem VA.push {xs ys:Array Value}(h:VA F r xs ys){v v':Value}(hv:VR F r v v'):VA F r (xs.push v) (ys.push v'):=by
 refine⟨by simp [h.1],fun i x y hx hy=>?_⟩
 rw [Array.getElem?_push]at hx hy
 rw [←h.1]at hy
 split at hx
 ·rename_i hi
  rw [if_pos hi]at hy
  cases hx;cases hy;exact hv
 ·rename_i hi
  rw [if_neg hi]at hy
  exact h.2 i x y hx hy
theorem VA.append {xs ys us vs:Array Value}(h:VA F r xs ys)(k:VA F r us vs):VA F r (xs++us) (ys++vs):=by
 refine⟨by simp [h.1,k.1],fun i x y hx hy=>?_⟩
 rw [Array.getElem?_append]at hx hy
 rw [←h.1]at hy
 split at hx
 ·rename_i hi
  rw [if_pos hi]at hy
  exact h.2 i x y hx hy
 ·rename_i hi
  rw [if_neg hi]at hy
  exact k.2 _ x y hx hy
theorem VA.extract {xs ys:Array Value}(h:VA F r xs ys)(i j:Nat):VA F r (xs.extract i j) (ys.extract i j):=by
 refine⟨by simp [h.1],fun k x y hx hy=>?_⟩
 rw [Array.getElem?_extract]at hx hy
 rw [h.1]at hx
 split at hx
 ·rename_i hk
  rw [if_pos hk]at hy
  exact h.2 _ x y hx hy
 ·cases hx
theorem VA.set {xs ys:Array Value}(h:VA F r xs ys){v v':Value}(hv:VR F r v v')(i:Nat):VA F r (xs.setIfInBounds i v) (ys.setIfInBounds i v'):=by
 refine⟨by simp [h.1],fun k x y hx hy=>?_⟩
 rw [Array.getElem?_setIfInBounds]at hx hy
 split at hx
 ·rename_i hk
  rw [if_pos hk]at hy
  rw [h.1]at hx
  split at hx
  ·rename_i hl
   rw [if_pos hl]at hy
   cases hx;cases hy;exact hv
  ·cases hx
 ·rename_i hk
  rw [if_neg hk]at hy
  exact h.2 _ x y hx hy
theorem VA.of_list {xs ys:List Value}(h:xs.length=ys.length)(k:∀ (i:Nat) (v v':Value),xs[i]?=some v→ys[i]?=some v'→VR F r v v'):VA F r xs.toArray ys.toArray:=⟨by simpa using h,fun i v v' h1 h2=>k i v v' (by simpa using h1) (by simpa using h2)⟩
theorem VR.undef:VR F r undef undef:=.tuple rfl fun i v v' h=>by simp at h
theorem VR.cells {v v':Value}(h:VR F r v v'):VA F r v.cells v'.cells:=by
 have one:∀{a b:Value},VR F r a b→VA F r #[a] #[b]:=fun k=>VA.empty.push k
 cases h with
 |agg h1 h2=>exact⟨h1,h2⟩
 |bool b=>exact one (.bool b)
 |int k n=>exact one (.int k n)
 |float k n=>exact one (.float k n)
 |string x=>exact one (.string x)
 |nilp=>exact one .nilp
 |ptr k=>exact one (.ptr k)
 |nils l c=>exact one (.nils l c)
 |slice l c k=>exact one (.slice l c k)
 |nilf=>exact one .nilf
 |void=>exact one .void
 |voidp=>exact one .voidp
 |func hf h1 h2 h3 h4=>exact one (.func hf h1 h2 h3 h4)
 |nili=>exact one .nili
 |chan c=>exact one (.chan c)
 |iface t k=>exact one (.iface t k)
 |tuple h1 h2=>exact one (.tuple h1 h2)
end
def vc (v:World)(b o:Nat):Prop:=∃x,v.cell? ⟨b,o,none⟩=some x
def free (v:World)(b o:Nat):Prop:=vc v b o∧v.frozen? ⟨b,o,none⟩=false
def Mine (r:Map)(v:World)(B o:Nat):Prop:=∃b s o0,r b=some (B,s)∧o=s+o0∧free v b o0
def BR (P:Program)(F:FuncId→Prop)(r:Map)(v w:World)(b B s:Nat):Prop:=
 (∃cs e lo hi cs' e' lo' hi',v.heap[b]?=some (.cells cs e (lo,hi))∧w.heap[B]?=some (.cells cs' e' (lo',hi'))∧s+cs.size≤cs'.size ∧
   (∀o x,cs[o]?=some x→∃x',cs'[s+o]?=some x'∧VR F r x x')∧(∀o,o<cs.size→¬(lo≤o∧o<hi)→¬(lo'≤s+o∧s+o<hi')) ∧
   ((e=e'∧cs.size=cs'.size∧s=0)∨P.info? e=none)) ∨
 (∃a a' lost,v.heap[b]?=some (.number a lost)∧w.heap[B]?=some (.number a' lost)∧s=0∧AR r a a')
structure WR (P:Program)(F:FuncId→Prop)(r:Map)(v w:World):Prop where
 low:∀b B s,r b=some (B,s)→P.globals.size≤b∧P.globals.size≤B
 gl:P.globals.size≤v.heap.size∧P.globals.size≤w.heap.size
 live:∀b B s,r b=some (B,s)→BR P F r v w b B s
 inj:∀b b' B s s' o o',r b=some (B,s)→r b'=some (B,s')→vc v b o→vc v b' o'→s+o=s'+o'→b=b'∧o=o'
def Tp (v w:World):Prop:=∀i q,v.tape (v.drawn+i) q=w.tape (w.drawn+i) q
def EvOk (r:Map)(v:World)(e:Event):Prop:=
 (∃b B s o wr,e=⟨.cell ⟨B,s+o,none⟩,wr,false⟩∧r b=some (B,s)∧vc v b o∧(wr=true→free v b o)) ∨
 (∃b B s,e=⟨.obj B,false,false⟩∧r b=some (B,s))∨(∃f,e=⟨.mark (.extern f),false,true⟩)∨e=⟨.mark .noRoom,false,true⟩
structure St (P:Program)(F:FuncId→Prop)(r r1:Map)(v v1 w w1:World)(u:List Event):Prop where
 le:r.le r1
 new:∀b x,r1 b=some x→r b=some x∨(v.heap.size≤b∧w.heap.size≤x.1)
 wr:WR P F r1 v1 w1
 tp:Tp v1 w1
 gsize:v.heap.size≤v1.heap.size
 gkeep:∀b,b<v.heap.size→∀o,(vc v1 b o↔vc v b o)∧v1.frozen? ⟨b,o,none⟩=v.frozen? ⟨b,o,none⟩
 rsize:w.heap.size≤w1.heap.size
 rkeep:∀B x,w.heap[B]?=some x→(∃cs e fz cs1,x=.cells cs e fz∧w1.heap[B]?=some (.cells cs1 e fz)∧cs1.size=cs.size∧∀o,¬Mine r v B o→cs1[o]?=cs[o]?)∨w1.heap[B]?=some x
 rest:w1.tape=w.tape∧w1.os=w.os∧w1.output=w.output∧w.drawn≤w1.drawn
 grest:v1.tape=v.tape∧v1.os=v.os∧v1.output=v.output
 evs:∀e∈u,EvOk r1 v1 e
section
variable {P:Program} {F:FuncId→Prop} {r r1 r2:Map} {v v1 v2 w w1 w2:World} {u u':List Event}
theorem WR.lt (h:WR P F r v w){b B s:Nat}(hb:r b=some (B,s)):b<v.heap.size∧B<w.heap.size:=by
 rcases h.live b B s hb with ⟨cs,e,lo,hi,cs',e',lo',hi',h1,h2,_⟩|⟨a,a',lost,h1,h2,_⟩<;>exact⟨(Array.getElem?_eq_some_iff.1 h1).1,(Array.getElem?_eq_some_iff.1 h2).1⟩
theorem St.refl (h:WR P F r v w)(ht:Tp v w):St P F r r v v w w []:=
 ⟨Map.le_refl r,fun b x hb=>.inl hb,h,ht,Nat.le_refl _,fun _ _ _=>⟨Iff.rfl,rfl⟩,Nat.le_refl _,fun _ _ hx=>.inr hx,⟨rfl,rfl,rfl,Nat.le_refl _⟩,⟨rfl,rfl,rfl⟩,fun e he=>by cases he⟩
theorem free_keep {b o:Nat}(h:∀ o,(vc v1 b o↔vc v b o)∧v1.frozen? ⟨b,o,none⟩=v.frozen? ⟨b,o,none⟩):free v1 b o↔free v b o:=by
 unfold free
 rw [(h o).1,(h o).2]
theorem EvOk.keep (h:WR P F r v w)(hle:r.le r1)(hk:∀ b,b < v.heap.size→∀ o,(vc v1 b o↔vc v b o)∧v1.frozen? ⟨b,o,none⟩=v.frozen? ⟨b,o,none⟩){e:Event}(he:EvOk r v e):EvOk r1 v1 e:=by
 rcases he with ⟨b,B,s,o,wr,h1,h2,h3,h4⟩|⟨b,B,s,h1,h2⟩|h5|h6
 ·have hb:=(h.lt h2).1
  exact .inl ⟨b,B,s,o,wr,h1,hle _ _ h2,((hk b hb o).1).2 h3,fun hw=>(free_keep (hk b hb)).2 (h4 hw)⟩
 ·exact .inr (.inl ⟨b,B,s,h1,hle _ _ h2⟩)
 ·exact .inr (.inr (.inl h5))
 ·exact .inr (.inr (.inr h6))
theorem Mine.back (h:St P F r r1 v v1 w w1 u)(hw:WR P F r v w){B o:Nat}(hB:B < w.heap.size)(hm:Mine r1 v1 B o):Mine r v B o:=by
 obtain⟨b,s,o0,h1,h2,h3⟩:=hm
 rcases h.new _ _ h1 with h4|⟨_,h5⟩
 ·exact⟨b,s,o0,h4,h2,(free_keep (h.gkeep b (hw.lt h4).1)).1 h3⟩
 ·exact absurd hB (Nat.not_lt.2 h5)
theorem St.trans (hw:WR P F r v w)(h:St P F r r1 v v1 w w1 u)(k:St P F r1 r2 v1 v2 w1 w2 u'):St P F r r2 v v2 w w2 (u++u'):=by
 refine⟨Map.le_trans h.le k.le,fun b x hb=>?_,k.wr,k.tp,Nat.le_trans h.gsize k.gsize,fun b hb o=>?_,Nat.le_trans h.rsize k.rsize,fun B x hx=>?_,?_,?_,fun e he=>?_⟩
 ·rcases k.new b x hb with h1|⟨h1,h2⟩
  ·exact h.new b x h1
  ·exact .inr ⟨Nat.le_trans h.gsize h1,Nat.le_trans h.rsize h2⟩
 ·have h1:=k.gkeep b (Nat.lt_of_lt_of_le hb h.gsize) o
  have h2:=h.gkeep b hb o
  exact⟨h1.1.trans h2.1,h1.2.trans h2.2⟩
 ·have hB:B<w.heap.size:=(Array.getElem?_eq_some_iff.1 hx).1
  rcases h.rkeep B x hx with ⟨cs,e,fz,cs1,rfl,h1,h2,h3⟩|h1
  ·rcases k.rkeep B _ h1 with ⟨cs',e',fz',cs2,h4,h5,h6,h7⟩|h4
   ·injection h4 with h4a h4b h4c
    subst h4a h4b h4c
    exact .inl ⟨cs,_,_,cs2,rfl,h5,h6.trans h2,fun o ho=>(h7 o fun hm=>ho (Mine.back h hw hB hm)).trans (h3 o ho)⟩
   ·exact .inl ⟨cs,e,fz,cs1,rfl,h4,h2,h3⟩
  ·rcases k.rkeep B x h1 with ⟨cs,e,fz,cs1,rfl,h4,h5,h6⟩|h4
   ·exact .inl ⟨cs,e,fz,cs1,rfl,h4,h5,fun o ho=>h6 o fun hm=>ho (Mine.back h hw hB hm)⟩
   ·exact .inr h4
 ·exact⟨k.rest.1.trans h.rest.1,k.rest.2.1.trans h.rest.2.1,k.rest.2.2.1.trans h.rest.2.2.1,Nat.le_trans h.rest.2.2.2 k.rest.2.2.2⟩
 ·exact⟨k.grest.1.trans h.grest.1,k.grest.2.1.trans h.grest.2.1,k.grest.2.2.trans h.grest.2.2⟩
 ·rcases List.mem_append.1 he with h1|h1
  ·exact(h.evs e h1).keep h.wr k.le k.gkeep
  ·exact k.evs e h1
end
def _root_.Go.Halt.soft:Halt→Prop
 | .panic _ | .stuck _=>True
 | .unsupported (.initOrder _)=>False
 | .unsupported _=>True
 |_=>False
def SR (P:Program)(F:FuncId→Prop){α β:Type}(r:Map)(A:Map→α→β→Prop)(s:Sem α)(s':Sem β):Prop:=
 ∀v w,WR P F r v w→Tp v w→∀es es',
  match s.runT P v es with
  |(.ok a v1,_)=>∃r1 b w1 u,s'.runT P w es'=(.ok b w1,es'++u.toArray)∧St P F r r1 v v1 w w1 u∧A r1 a b
  |(.halt h _,_)=>h.soft
section
variable {P:Program} {F:FuncId→Prop} {α β γ δ:Type} {r:Map} {A:Map→α→β→Prop} {C:Map→γ→δ→Prop}
theorem SR.pure {a:α}{b:β}(h:A r a b):SR P F r A (Sem.pure a) (Sem.pure b):=fun v w hw ht es es'=>
 ⟨r,b,w,[],by simp [Sem.runT,-Sem.runT_eq],St.refl hw ht,h⟩
theorem SR.halt {h:Halt}{s':Sem β}(hh:h.soft):SR P F r A (Sem.halt h) s':=fun v w hw ht es es'=>hh
theorem SR.bind {s:Sem α}{s':Sem β}{f:α→Sem γ}{f':β→Sem δ}(h:SR P F r A s s')(k:∀ r1,r.le r1→∀ a b,A r1 a b→SR P F r1 C (f a) (f' b)):SR P F r C (s.bind f) (s'.bind f'):=by
 intro v w hw ht es es'
 have h1:=h v w hw ht es es'
 rw [Sem.runT_bind']
 generalize s.runT P v es=x at h1
 obtain⟨x,es1⟩:=x
 cases x with
 |halt hh v1=>exact h1
 |ok a v1=>
  obtain⟨r1,b,w1,u,e1,hst,ha⟩:=h1
  have h2:=k r1 hst.le a b ha v1 w1 hst.wr hst.tp es1 (es'++u.toArray)
  simp only
  generalize (f a).runT P v1 es1=y at h2
  obtain⟨y,es2⟩:=y
  cases y with
  |halt hh v2=>exact h2
  |ok c v2=>
   obtain⟨r2,d,w2,u',e2,hst',hc⟩:=h2
   refine⟨r2,d,w2,u++u',?_,hst.trans hw hst',hc⟩
   rw [Sem.runT_bind',e1]
   simp only [e2]
   simp
theorem SR.mono {A':Map→α→β→Prop}{s:Sem α}{s':Sem β}(h:SR P F r A s s')(k:∀ r1,r.le r1→∀ a b,A r1 a b→A' r1 a b):SR P F r A' s s':=by
 intro v w hw ht es es'
 have h1:=h v w hw ht es es'
 generalize s.runT P v es=x at h1
 obtain⟨x,es1⟩:=x
 cases x with
 |halt hh v1=>exact h1
 |ok a v1=>
  obtain⟨r1,b,w1,u,e1,hst,ha⟩:=h1
  exact⟨r1,b,w1,u,e1,hst,k r1 hst.le a b ha⟩
end
section
variable {P:Program} {F:FuncId→Prop} {r:Map} {v v1 w w1:World}
theorem vc_heap (h:v1.heap=v.heap)(b o:Nat):vc v1 b o↔vc v b o:=by unfold vc World.cell?;rw [h]
theorem fr_heap (h:v1.heap=v.heap)(a:Addr):v1.frozen? a=v.frozen? a:=by unfold World.frozen?;rw [h]
theorem WR.of_heap (hw:WR P F r v w)(h:v1.heap=v.heap)(k:w1.heap=w.heap):WR P F r v1 w1:=by
 refine⟨hw.low,by rw [h,k];exact hw.gl,fun b B s hb=>?_,fun b b' B s s' o o' h1 h2 h3 h4 h5=>hw.inj b b' B s s' o o' h1 h2 ((vc_heap h b o).1 h3) ((vc_heap h b' o').1 h4) h5⟩
 have:=hw.live b B s hb
 unfold BR at *
 rw [h,k]
 exact this
theorem St.of_heap (hw:WR P F r v w)(h:v1.heap=v.heap)(k:w1.heap=w.heap)(ht:Tp v1 w1)(hr:w1.tape=w.tape∧w1.os=w.os∧w1.output=w.output∧w.drawn≤w1.drawn)(hg:v1.tape=v.tape∧v1.os=v.os∧v1.output=v.output){u:List Event}(hu:∀ e∈u,EvOk r v e):St P F r r v v1 w w1 u:=
 ⟨Map.le_refl r,fun b x hb=>.inl hb,hw.of_heap h k,ht,Nat.le_of_eq (by rw [h]),fun b _ o=>⟨vc_heap h b o,fr_heap h _⟩,Nat.le_of_eq (by rw [k]),fun B x hx=>.inr (by rw [k];exact hx),hr,hg,fun e he=>by
   refine(hu e he).keep hw (Map.le_refl r) fun b _ o=>⟨vc_heap h b o,fr_heap h _⟩⟩
theorem sr_choose (q:Question):SR P F r (fun _ a b=>a=b) (choose q) (choose q):=by
 intro v w hw ht es es'
 simp only [choose,Sem.runT]
 by_cases hf:q.forced=true
 ·simp only [hf,if_true]
  exact⟨r,0,w,[],by simp,St.refl hw ht,rfl⟩
 ·simp only [hf,Bool.false_eq_true,if_false]
  refine⟨r,q.cut (w.tape w.drawn q),{ w with drawn:=w.drawn+1 },[],by simp,?_,?_⟩
  ·refine St.of_heap (v1:={ v with drawn:=v.drawn+1 }) (w1:={ w with drawn:=w.drawn+1 }) hw rfl rfl (fun i q'=>?_) ⟨rfl,rfl,rfl,Nat.le_succ _⟩ ⟨rfl,rfl,rfl⟩ (fun e he=>by cases he)
   have:=ht (i+1) q'
   simpa only [Nat.add_assoc,Nat.add_comm 1 i]using this
  ·have:=ht 0 q
   simp only [Nat.add_zero]at this
   rw [this]
theorem sr_program:SR P F r (fun _ a b=>a=P∧b=P) program program:=fun v w hw ht es es'=>⟨r,P,w,[],by simp [program,Sem.runT,-Sem.runT_eq],St.refl hw ht,rfl,rfl⟩
theorem sr_mark {m:Mark}(hm:(∃ f,m=.extern f)∨m=.noRoom):SR P F r (fun _ _ _=>True) (mark m) (mark m):=fun v w hw ht es es'=>by
 refine⟨r,(),w,[⟨.mark m,false,true⟩],by simp [mark,Sem.runT,-Sem.runT_eq],St.of_heap hw rfl rfl ht ⟨rfl,rfl,rfl,Nat.le_refl _⟩ ⟨rfl,rfl,rfl⟩ (fun e he=>?_),trivial⟩
 rw [List.mem_singleton]at he
 subst he
 rcases hm with ⟨f,rfl⟩|rfl
 ·exact .inr (.inr (.inl ⟨f,rfl⟩))
 ·exact .inr (.inr (.inr rfl))
theorem cell_cells {v:World}{b o:Nat}{cs:Array Value}{e:TypeId}{fz:Nat×Nat}(h:v.heap[b]?=some (.cells cs e fz)):v.cell? ⟨b,o,none⟩=cs[o]?:=by simp [World.cell?,h]
theorem frozen_cells {v:World}{b o:Nat}{cs:Array Value}{e:TypeId}{lo hi:Nat}(h:v.heap[b]?=some (.cells cs e (lo,hi))):v.frozen? ⟨b,o,none⟩=(decide (lo≤o)&&decide (o<hi)):=by simp [World.frozen?,h]
theorem cell_number {v:World}{b o:Nat}{a:Addr}{l:Bool}(h:v.heap[b]?=some (.number a l)):v.cell? ⟨b,o,none⟩=none:=by simp [World.cell?,h]
theorem far_number {v : World} {b o : Nat} {a : Addr} {l at_ : Bool} (h : v.heap[b]? = some (.number a l)) : v.farLoad P ⟨b, o, none⟩ at_ = .error (.stuck "load: no such cell") := by simp [World.farLoad, World.noCell, h]
theorem far_cells {v : World} {b o : Nat} {cs : Array Value} {e : TypeId} {fz : Nat × Nat} {at_ : Bool} (h : v.heap[b]? = some (.cells cs e fz)) : v.farLoad P ⟨b, o, none⟩ at_ = .error (.stuck "load: no such cell") := by simp [World.farLoad, World.noCell, h]
theorem farS_number {v : World} {b o : Nat} {a : Addr} {l at_ : Bool} {x : Value} (h : v.heap[b]? = some (.number a l)) : v.farStore P ⟨b, o, none⟩ x at_ = .error (.stuck "store: no such cell") := by simp [World.farStore, World.noCell, h]
theorem farS_cells {v : World} {b o : Nat} {cs : Array Value} {e : TypeId} {fz : Nat × Nat} {at_ : Bool} {x : Value} (h : v.heap[b]? = some (.cells cs e fz)) : v.farStore P ⟨b, o, none⟩ x at_ = .error (.stuck "store: no such cell") := by simp [World.farStore, World.noCell, h]
theorem sr_load {a a':Addr}(ha:AR r a a'):SR P F r (fun r1 x y=>VR F r1 x y) (load a) (load a'):=by
 obtain⟨b,o,B,s,rfl,hb,rfl⟩:=ha
 intro v w hw ht es es'
 simp only [load,Sem.runT]
 rcases hw.live b B s hb with ⟨cs,e,lo,hi,cs',e',lo',hi',h1,h2,h3,h4,h5,h6⟩|⟨n,n',lost,h1,h2,h3,h4⟩
 ·rw [cell_cells h1,cell_cells h2,far_cells h1]
  cases hx:cs[o]? with
  |none=>exact trivial
  |some x=>
   obtain⟨x',hx',hv⟩:=h4 o x hx
   rw [show o+s=s+o by omega,hx']
   refine⟨r,x',w,[⟨.cell ⟨B,s+o,none⟩,false,false⟩],by simp;rfl,St.of_heap hw rfl rfl ht ⟨rfl,rfl,rfl,Nat.le_refl _⟩ ⟨rfl,rfl,rfl⟩ (fun ev he=>?_),hv⟩
   rw [List.mem_singleton]at he
   subst he
   exact .inl ⟨b,B,s,o,false,rfl,hb,⟨x,by rw [cell_cells h1,hx]⟩,fun h=>by cases h⟩
 ·rw [cell_number h1,far_number h1]
  exact trivial
theorem one_of {F:FuncId→Prop}{x x':Value}(h:VR F r x x')(h1:∀ cs,x≠.agg cs)(h2:∀ cs,x≠.tuple cs):(∀cs,x'≠.agg cs)∧(∀cs,x'≠.tuple cs):=by
 cases h with
 |agg _ _=>exact absurd rfl (h1 _)
 |tuple _ _=>exact absurd rfl (h2 _)
 |_=>exact⟨by simp,by simp⟩
theorem heap_set {v:World}{b o:Nat}{x:Value}{cs:Array Value}{e:TypeId}{fz:Nat×Nat}(h:v.heap[b]?=some (.cells cs e fz)):(v.setCell ⟨b,o,none⟩ x).heap[b]?=some (.cells (cs.setIfInBounds o x) e fz):=by
 simp [World.setCell,Array.getElem?_modify,h]
theorem heap_set_ne {v:World}{b b' o:Nat}{x:Value}(h:b'≠b):(v.setCell ⟨b,o,none⟩ x).heap[b']?=v.heap[b']?:=by
 simp [World.setCell,Array.getElem?_modify,Ne.symm h]
theorem heap_set_size {v:World}{a:Addr}{x:Value}:(v.setCell a x).heap.size=v.heap.size:=by simp [World.setCell]
theorem vc_set {v:World}{b b' o o':Nat}{x:Value}{cs:Array Value}{e:TypeId}{fz:Nat×Nat}(h:v.heap[b]?=some (.cells cs e fz)):vc (v.setCell ⟨b,o,none⟩ x) b' o'↔vc v b' o':=by
 unfold vc
 by_cases hb:b'=b
 ·subst hb
  rw [cell_cells (heap_set h),cell_cells h]
  simp only [Array.getElem?_setIfInBounds]
  by_cases ho:o=o'
  ·subst ho
   simp only [if_true]
   by_cases hl:o<cs.size
   ·simp [hl]
   ·simp [hl,Array.getElem?_eq_none (Nat.le_of_not_lt hl)]
  ·simp [ho]
 ·have e1:∀o',(v.setCell ⟨b,o,none⟩ x).cell? ⟨b',o',none⟩=v.cell? ⟨b',o',none⟩:=fun o'=>by simp only [World.cell?,heap_set_ne hb]
  simp only [e1]
theorem fr_set {v:World}{b b' o o':Nat}{x:Value}{cs:Array Value}{e:TypeId}{fz:Nat×Nat}(h:v.heap[b]?=some (.cells cs e fz)):(v.setCell ⟨b,o,none⟩ x).frozen? ⟨b',o',none⟩=v.frozen? ⟨b',o',none⟩:=by
 by_cases hb:b'=b
 ·subst hb
  obtain⟨lo,hi⟩:=fz
  rw [frozen_cells (heap_set h),frozen_cells h]
 ·simp only [World.frozen?,heap_set_ne hb]
theorem sr_store {a a':Addr}{x x':Value}(ha:AR r a a')(hx:VR F r x x'):SR P F r (fun _ _ _=>True) (store a x) (store a' x'):=by
 obtain⟨b,o,B,s,rfl,hb,rfl⟩:=ha
 intro v w hw ht es es'
 by_cases h1:∃cs,x=.agg cs
 ·obtain⟨cs,rfl⟩:=h1
  exact trivial
 by_cases h2:∃cs,x=.tuple cs
 ·obtain⟨cs,rfl⟩:=h2
  exact trivial
 have g1:∀cs,x≠.agg cs:=fun cs h=>h1 ⟨cs,h⟩
 have g2:∀cs,x≠.tuple cs:=fun cs h=>h2 ⟨cs,h⟩
 obtain⟨g3,g4⟩:=one_of hx g1 g2
 have run:∀(w:World) (a:Addr) (x:Value) (es:Array Event),(∀cs,x≠.agg cs)→(∀cs,x≠.tuple cs)→(store a x).runT P w es=match w.cell? a with
   | some _ => if w.frozen? a then (.halt (.unsupported (.unsafePointer "a write to bytes that a string shares")) w, es) else (.ok () (w.setCell a x), es.push ⟨.cell a, true, false⟩)
   |none=>match w.farStore P a x false with
    | .ok (w,touched)=>(.ok () w,es++touched.toArray.map (⟨.cell ·,true,false⟩))
    | .error h=>(.halt h w,es):=by
  intro w a x es h1 h2
  cases x<;>first
   |exact absurd rfl (h1 _)
   |exact absurd rfl (h2 _)
   |rfl
 rw [run v _ _ _ g1 g2,run w _ _ _ g3 g4]
 rcases hw.live b B s hb with ⟨cs,e,lo,hi,cs',e',lo',hi',k1,k2,k3,k4,k5,k6⟩|⟨n,n',lost,k1,k2,k3,k4⟩
 ·rw [cell_cells k1,cell_cells k2,farS_cells k1,frozen_cells k1,frozen_cells k2]
  cases hc:cs[o]? with
  |none=>exact trivial
  |some y=>
   obtain⟨y',hy',hv⟩:=k4 o y hc
   have ho:o<cs.size:=(Array.getElem?_eq_some_iff.1 hc).1
   rw [show o+s=s+o by omega,hy']
   by_cases hf:lo≤o∧o<hi
   ·simp only [hf.1,hf.2,decide_true,Bool.and_self,if_true]
    exact trivial
   ·have hf':=k5 o ho hf
    have e1:(decide (lo≤o)&&decide (o<hi))=false:=by simpa using hf
    have e2:(decide (lo'≤s+o)&&decide (s+o<hi'))=false:=by simpa using hf'
    rw [e1,e2]
    simp only [Bool.false_eq_true,if_false]
    have hvc:vc v b o:=⟨y,by rw [cell_cells k1,hc]⟩
    have hfree:free v b o:=⟨hvc,by rw [frozen_cells k1,e1]⟩
    refine⟨r,(),w.setCell ⟨B,s+o,none⟩ x',[⟨.cell ⟨B,s+o,none⟩,true,false⟩],by simp,?_,trivial⟩
    refine⟨Map.le_refl r,fun b x hb=>.inl hb,⟨hw.low,by rw [heap_set_size,heap_set_size];exact hw.gl,fun b1 B1 s1 hb1=>?_,fun b1 b2 B1 s1 s2 o1 o2 h1 h2 h3 h4 h5=>hw.inj b1 b2 B1 s1 s2 o1 o2 h1 h2 ((vc_set k1).1 h3) ((vc_set k1).1 h4) h5⟩,ht,Nat.le_of_eq heap_set_size.symm,fun b1 _ o1=>⟨vc_set k1,fr_set k1⟩,Nat.le_of_eq heap_set_size.symm,fun B1 z hz=>?_,⟨rfl,rfl,rfl,Nat.le_refl _⟩,⟨rfl,rfl,rfl⟩,fun ev he=>?_⟩
    ·-- the blocks behind the write
     rcases hw.live b1 B1 s1 hb1 with ⟨ds,d,lo1,hi1,ds',d',lo1',hi1',m1,m2,m3,m4,m5,m6⟩|⟨n,n',lost,m1,m2,m3,m4⟩
     ·-- what the two hold now
      obtain⟨ds2,q1,q2⟩:∃ds2:Array Value,(v.setCell ⟨b,o,none⟩ x).heap[b1]?=some (.cells ds2 d (lo1,hi1))∧ds2=if b1=b then ds.setIfInBounds o x else ds:=by
       by_cases hbb:b1=b
       ·subst hbb
        rw [k1]at m1
        injection m1 with m1
        injection m1 with e1 e2 e3
        subst e1 e2
        injection e3 with e3 e4
        subst e3 e4
        exact⟨_,heap_set k1,by simp⟩
       ·exact⟨ds,by rw [heap_set_ne hbb];exact m1,by simp [hbb]⟩
      obtain⟨ds3,q3,q4⟩:∃ds3:Array Value,(w.setCell ⟨B,s+o,none⟩ x').heap[B1]?=some (.cells ds3 d' (lo1',hi1'))∧ds3=if B1=B then ds'.setIfInBounds (s+o) x' else ds':=by
       by_cases hbb:B1=B
       ·subst hbb
        rw [k2]at m2
        injection m2 with m2
        injection m2 with e1 e2 e3
        subst e1 e2
        injection e3 with e3 e4
        subst e3 e4
        exact⟨_,heap_set k2,by simp⟩
       ·exact⟨ds',by rw [heap_set_ne hbb];exact m2,by simp [hbb]⟩
      have z1:ds2.size=ds.size:=by rw [q2];split<;>simp
      have z2:ds3.size=ds'.size:=by rw [q4];split<;>simp
      refine .inl ⟨ds2,d,lo1,hi1,ds3,d',lo1',hi1',q1,q3,by rw [z1,z2];exact m3,fun o1 y1 hy1=>?_,fun o1 ho1=>m5 o1 (by rw [←z1];exact ho1),?_⟩
      ·by_cases hbb:b1=b∧o1=o
       ·obtain⟨rfl,rfl⟩:=hbb
        rw [hb]at hb1
        injection hb1 with hb1
        injection hb1 with e1 e2
        subst e1 e2
        rw [q2,if_pos rfl]at hy1
        rw [k1]at m1
        injection m1 with m1
        injection m1 with e1 e2 e3
        subst e1
        rw [Array.getElem?_setIfInBounds_self_of_lt ho]at hy1
        injection hy1 with hy1
        subst hy1
        rw [k2]at m2
        injection m2 with m2
        injection m2 with e1 e2 e3
        subst e1
        refine⟨x',?_,hx⟩
        rw [q4,if_pos rfl,Array.getElem?_setIfInBounds_self_of_lt (by omega)]
       ·have hy2:ds[o1]?=some y1:=by
         rw [q2]at hy1
         by_cases hbb':b1=b
         ·rw [if_pos hbb',Array.getElem?_setIfInBounds_ne (fun h=>hbb ⟨hbb',h.symm⟩)]at hy1
          exact hy1
         ·rwa [if_neg hbb']at hy1
        obtain⟨y2,hy3,hv2⟩:=m4 o1 y1 hy2
        refine⟨y2,?_,hv2⟩
        rw [q4]
        by_cases hBB:B1=B
        ·subst hBB
         rw [if_pos rfl,Array.getElem?_setIfInBounds_ne]
         ·exact hy3
         ·intro heq
          have:=hw.inj b b1 B1 s s1 o o1 hb hb1 hvc ⟨y1,by rw [cell_cells m1];exact hy2⟩ heq
          exact hbb ⟨this.1.symm,this.2.symm⟩
        ·rw [if_neg hBB];exact hy3
      ·rcases m6 with ⟨e1,e2,e3⟩|e1
       ·exact .inl ⟨e1,by rw [z1,z2];exact e2,e3⟩
       ·exact .inr e1
     ·have n1:b1≠b:=fun h=>by subst h;rw [k1]at m1;cases m1
      have n2:B1≠B:=fun h=>by subst h;rw [k2]at m2;cases m2
      exact .inr ⟨n,n',lost,by rw [heap_set_ne n1];exact m1,by rw [heap_set_ne n2];exact m2,m3,m4⟩
    ·by_cases hBB:B1=B
     ·subst hBB
      rw [k2]at hz
      injection hz with hz
      subst hz
      refine .inl ⟨cs',e',(lo',hi'),_,rfl,heap_set k2,by simp,fun o1 ho1=>?_⟩
      rw [Array.getElem?_setIfInBounds_ne]
      intro heq
      exact ho1 ⟨b,s,o,hb,heq.symm,hfree⟩
     ·exact .inr (by rw [heap_set_ne hBB];exact hz)
    ·rw [List.mem_singleton]at he
     subst he
     exact .inl ⟨b,B,s,o,true,rfl,hb,(vc_set k1).2 hvc,fun _=>⟨(vc_set k1).2 hvc,by rw [fr_set k1];exact hfree.2⟩⟩
 ·rw [cell_number k1,farS_number k1]
  exact trivial
end
section
variable {P:Program} {F:FuncId→Prop} {α β γ δ:Type} {r:Map} {A:Map→α→β→Prop} {C:Map→γ→δ→Prop} {v v1 w w1:World}
theorem SR.bnd {s:Sem α}{s':Sem β}{f:α→Sem γ}{f':β→Sem δ}(h:SR P F r A s s')(k:∀ r1,r.le r1→∀ a b,A r1 a b→SR P F r1 C (f a) (f' b)):SR P F r C (s >>= f) (s' >>= f'):=SR.bind h k
theorem SR.pur {a:α}{b:β}(h:A r a b):SR P F r A (Pure.pure a:Sem α) (Pure.pure b:Sem β):=SR.pure h
def Map.new (r:Map)(v w:World):Map:=fun b=>if b=v.heap.size then some (w.heap.size,0)else r b
theorem Map.le_new (hw:WR P F r v w):r.le (r.new v w):=fun b x hb=>by
 have:=(hw.lt (b:=b) (B:=x.1) (s:=x.2) hb).1
 unfold Map.new
 rw [if_neg (by omega)]
 exact hb
theorem heap_push_old {v:World}{x:Obj}{b:Nat}(h:b < v.heap.size):({ v with heap:=v.heap.push x }:World).heap[b]?=v.heap[b]?:=by
 simp only [Array.getElem?_push]
 rw [if_neg (by omega)]
theorem heap_push_new {v:World}{x:Obj}:({ v with heap:=v.heap.push x }:World).heap[v.heap.size]?=some x:=by simp
theorem cell_push_old {v:World}{x:Obj}{b o:Nat}(h:b < v.heap.size):({ v with heap:=v.heap.push x }:World).cell? ⟨b,o,none⟩=v.cell? ⟨b,o,none⟩:=by
 simp only [World.cell?,Array.getElem?_push]
 rw [if_neg (by omega)]
theorem BR.push (hw:WR P F r v w){x y:Obj}{b B s:Nat}(hb:r b=some (B,s)):BR P F (r.new v w) { v with heap:=v.heap.push x } { w with heap:=w.heap.push y } b B s:=by
 obtain⟨l1,l2⟩:=hw.lt hb
 have h:=hw.live b B s hb
 unfold BR at *
 rw [heap_push_old l1,heap_push_old l2]
 rcases h with ⟨cs,e,lo,hi,cs',e',lo',hi',h1,h2,h3,h4,h5,h6⟩|⟨n,n',lost,h1,h2,h3,h4⟩
 ·refine .inl ⟨cs,e,lo,hi,cs',e',lo',hi',h1,h2,h3,fun o x hx=>?_,h5,h6⟩
  obtain⟨x',h7,h8⟩:=h4 o x hx
  exact⟨x',h7,h8.mono (Map.le_new hw)⟩
 ·exact .inr ⟨n,n',lost,h1,h2,h3,h4.mono (Map.le_new hw)⟩
theorem St.push (hw:WR P F r v w)(ht:Tp v w){x y:Obj}(hn:BR P F (r.new v w) { v with heap:=v.heap.push x } { w with heap:=w.heap.push y } v.heap.size w.heap.size 0) :
  St P F r (r.new v w) v { v with heap:=v.heap.push x } w { w with heap:=w.heap.push y } []:=by
 have old:∀b,r.new v w b=if b=v.heap.size then some (w.heap.size,0)else r b:=fun b=>rfl
 refine⟨Map.le_new hw,fun b z hz=>?_,⟨fun b B s hb=>?_,?_,fun b B s hb=>?_,fun b b' B s s' o o' h1 h2 h3 h4 h5=>?_⟩,ht,?_,fun b hb o=>?_,?_,fun B z hz=>?_,⟨rfl,rfl,rfl,Nat.le_refl _⟩,⟨rfl,rfl,rfl⟩,fun e he=>by cases he⟩
 ·rw [old]at hz
  split at hz
  ·rename_i h;injection hz with hz;subst hz;exact .inr ⟨by omega,Nat.le_refl _⟩
  ·exact .inl hz
 ·rw [old]at hb
  split at hb
  ·rename_i h;injection hb with hb;injection hb with h1 h2;subst h h1;exact hw.gl
  ·exact hw.low b B s hb
 ·simp only [Array.size_push];have:=hw.gl;omega
 ·rw [old]at hb
  split at hb
  ·rename_i h;injection hb with hb;injection hb with h1 h2;subst h h1 h2;exact hn
  ·exact BR.push hw hb
 ·rw [old]at h1 h2
  have vold:∀{b o},b<v.heap.size→vc ({ v with heap:=v.heap.push x }:World) b o→vc v b o:=fun hb ⟨z,hz⟩=>⟨z,by rw [←cell_push_old hb];exact hz⟩
  split at h1
  ·rename_i e1
   injection h1 with h1;injection h1 with h1a h1b
   split at h2
   ·rename_i e2
    injection h2 with h2;injection h2 with h2a h2b
    subst e1 e2 h1b h2b
    exact⟨rfl,by omega⟩
   ·have:=(hw.lt h2).2;omega
  ·split at h2
   ·injection h2 with h2;injection h2 with h2a h2b
    have:=(hw.lt h1).2;omega
   ·exact hw.inj b b' B s s' o o' h1 h2 (vold (hw.lt h1).1 h3) (vold (hw.lt h2).1 h4) h5
 ·simp
 ·refine⟨?_,?_⟩
  ·unfold vc;rw [cell_push_old hb]
  ·simp only [World.frozen?,Array.getElem?_push];rw [if_neg (by omega)]
 ·simp
 ·have:=(Array.getElem?_eq_some_iff.1 hz).1
  exact .inr (by rw [heap_push_old this];exact hz)
theorem new_at (r:Map)(v w:World):r.new v w v.heap.size=some (w.heap.size,0):=by unfold Map.new;rw [if_pos rfl]
theorem sr_newRow {cs cs':Array Value}(e:TypeId)(h:VA F r cs cs'):SR P F r (fun r1 a a'=>AR r1 a a') (newRow e cs) (newRow e cs'):=by
 intro v w hw ht es es'
 have r1:∀(w:World) (cs:Array Value) (es:Array Event),(newRow e cs).runT P w es=(.ok ⟨w.heap.size,0,none⟩ { w with heap:=w.heap.push (.cells cs e) },es):=fun w cs es=>rfl
 rw [r1,r1]
 refine⟨r.new v w,_,_,[],by simp,St.push hw ht (.inl ⟨cs,e,0,0,cs',e,0,0,heap_push_new,heap_push_new,by rw [h.1];omega,fun o x hx=>?_,fun o _ _=>by omega,.inl ⟨rfl,h.1,rfl⟩⟩),⟨v.heap.size,0,w.heap.size,0,rfl,new_at r v w,rfl⟩⟩
 obtain⟨x',h1,h2⟩:=h.get hx
 exact⟨x',by rw [Nat.zero_add];exact h1,h2.mono (Map.le_new hw)⟩
theorem sr_newNumber {a a':Addr}(l:Bool)(h:AR r a a'):SR P F r (fun r1 x y=>AR r1 ⟨x,0,none⟩ ⟨y,0,none⟩) (newObj (.number a l)) (newObj (.number a' l)):=by
 intro v w hw ht es es'
 have r1:∀(w:World) (o:Obj) (es:Array Event),(newObj o).runT P w es=(.ok w.heap.size { w with heap:=w.heap.push o },es):=fun w o es=>rfl
 rw [r1,r1]
 exact⟨r.new v w,_,_,[],by simp,St.push hw ht (.inr ⟨a,a',l,heap_push_new,heap_push_new,rfl,h.mono (Map.le_new hw)⟩),⟨v.heap.size,0,w.heap.size,0,rfl,new_at r v w,rfl⟩⟩
def ShR (P:Program)(r:Map)(b:Nat)(x y:Option (TypeId×Nat)):Prop:=
 (∃e n B,x=some (e,n)∧y=some (e,n)∧r b=some (B,0))∨(∃e n z,x=some (e,n)∧y=some z∧P.info? e=none)∨(x=none∧y=none)
theorem sr_shape {b B s:Nat}(hb:r b=some (B,s)):SR P F r (fun r1 x y=>ShR P r1 b x y) (shape b) (shape B):=by
 intro v w hw ht es es'
 have r1:∀(w:World) (b:Nat) (es:Array Event),(shape b).runT P w es=(.ok (w.shape? b) w,es):=fun w o es=>rfl
 rw [r1,r1]
 refine⟨r,w.shape? B,w,[],by simp,St.refl hw ht,?_⟩
 rcases hw.live b B s hb with ⟨cs,e,lo,hi,cs',e',lo',hi',h1,h2,h3,h4,h5,h6⟩|⟨n,n',lost,h1,h2,h3,h4⟩
 ·simp only [World.shape?,h1,h2]
  rcases h6 with ⟨rfl,h7,rfl⟩|h6
  ·exact .inl ⟨e,cs.size,B,rfl,by rw [h7],hb⟩
  ·exact .inr (.inl ⟨e,_,_,rfl,rfl,h6⟩)
 ·simp only [World.shape?,h1,h2]
  exact .inr (.inr ⟨rfl,rfl⟩)
theorem sr_getObj {b B s:Nat}(hb:r b=some (B,s)):SR P F r (fun r1 x y=>∃a a' l,x=.number a l∧y=.number a' l∧AR r1 a a') (getObj b) (getObj B):=by
 intro v w hw ht es es'
 have run:∀(w:World) (b:Nat) (es:Array Event),(getObj b).runT P w es=match w.heap[b]? with
   | some (.cells ..) => (.halt (.stuck "getObj: a row of cells") w, es)
   |some o=>(.ok o w,es.push ⟨.obj b,false,o.isChan⟩)
   | none => (.halt (.stuck "getObj: no such block") w, es) := fun w b es => by
  simp only [getObj,Sem.runT]
  cases w.heap[b]? with
  |none=>rfl
  |some o=>cases o<;>rfl
 rw [run v,run w]
 rcases hw.live b B s hb with ⟨cs,e,lo,hi,cs',e',lo',hi',h1,h2,h3,h4,h5,h6⟩|⟨n,n',lost,h1,h2,h3,h4⟩
 ·rw [h1];exact trivial
 ·rw [h1,h2]
  refine⟨r,_,_,[⟨.obj B,false,false⟩],by simp [Obj.isChan],St.of_heap hw rfl rfl ht ⟨rfl,rfl,rfl,Nat.le_refl _⟩ ⟨rfl,rfl,rfl⟩ (fun ev he=>?_),n,n',lost,rfl,rfl,h4⟩
  rw [List.mem_singleton]at he
  subst he
  exact .inr (.inl ⟨b,B,s,rfl,hb⟩)
end
inductive Mild {α:Type}:Sem α→Prop
 |pure (a:α):Mild (.pure a)
 |choose (q:Question) (k:Nat→Sem α) (h:∀n,Mild (k n)):Mild (.choose q k)
 |program (k:Program→Sem α) (h:∀p,Mild (k p)):Mild (.program k)
 |noRoom (k:Sem α) (h:Mild k):Mild (.mark .noRoom k)
 |halt (x:Halt) (h:x.soft):Mild (.halt x)
section
variable {P:Program} {F:FuncId→Prop} {α β:Type} {r:Map}
theorem Mild.bind {s:Sem α}{f:α→Sem β}(h:Mild s)(k:∀ a,Mild (f a)):Mild (s.bind f):=by
 induction h with
 |pure a=>exact k a
 |choose q g h ih=>exact .choose q _ ih
 |program g h ih=>exact .program _ ih
 |noRoom g h ih=>exact .noRoom _ ih
 |halt x h=>exact .halt x h
theorem Mild.bnd {s:Sem α}{f:α→Sem β}(h:Mild s)(k:∀ a,Mild (f a)):Mild (s >>= f):=Mild.bind h k
theorem Mild.pur (a:α):Mild (Pure.pure a:Sem α):=.pure a
theorem Mild.map {s:Sem α}{f:α→β}(h:Mild s):Mild (f <$> s):=Mild.bind h fun a=>.pure _
theorem Mild.stuck (why:String):Mild (stuck why:Sem α):=.halt _ trivial
theorem Mild.choose' (q:Question):Mild (Go.choose q):=.choose q _ fun n=>.pure n
theorem Mild.program':Mild Go.program:=.program _ fun n=>.pure n
theorem Mild.sr {s:Sem α}(h:Mild s):∀{r:Map},SR P F r (fun _ a b=>a=b) s s:=by
 induction h with
 |pure a=>exact .pure rfl
 |choose q k h ih=>exact SR.bind (s:=Go.choose q) (s':=Go.choose q) (sr_choose q) fun r1 _ a b e=>by subst e;exact ih a
 |program k h ih=>exact SR.bind (s:=Go.program) (s':=Go.program) sr_program fun r1 _ a b e=>by rw [e.1,e.2];exact ih P
 |noRoom k h ih=>exact SR.bind (s:=Go.mark .noRoom) (s':=Go.mark .noRoom) (sr_mark (.inr rfl)) fun r1 _ a b e=>ih
 |halt x h=>exact .halt h
end
inductive Grim {α:Type}:Sem α→Prop
 |choose (q:Question) (k:Nat→Sem α) (h:∀n,Grim (k n)):Grim (.choose q k)
 |program (k:Program→Sem α) (h:∀p,Grim (k p)):Grim (.program k)
 |noRoom (k:Sem α) (h:Grim k):Grim (.mark .noRoom k)
 |shape (b:Nat) (k:Option (TypeId×Nat)→Sem α) (h:∀p,Grim (k p)):Grim (.shape b k)
 |frozen (a:Addr) (k:Bool→Sem α) (h:∀p,Grim (k p)):Grim (.frozen a k)
 |sys (c:Sys) (k:SysRet→Sem α) (h:∀p,Grim (k p)):Grim (.sys c k)
 |new (o:Obj) (k:Nat→Sem α) (h:∀p,Grim (k p)):Grim (.new o k)
 |halt (x:Halt) (h:x.soft):Grim (.halt x)
inductive Look {α:Type}:Sem α→Prop
 |pure (a:α):Look (.pure a)
 |program (k:Program→Sem α) (h:∀p,Look (k p)):Look (.program k)
 |shape (b:Nat) (k:Option (TypeId×Nat)→Sem α) (h:∀p,Look (k p)):Look (.shape b k)
 |frozen (a:Addr) (k:Bool→Sem α) (h:∀p,Look (k p)):Look (.frozen a k)
 |noRoom (k:Sem α) (h:Look k):Look (.mark .noRoom k)
section
variable {P:Program} {F:FuncId→Prop} {α β γ:Type} {r:Map}
theorem Grim.left {s:Sem α}{f:α→Sem β}(h:Grim s):Grim (s.bind f):=by
 induction h with
 |choose q g h ih=>exact .choose q _ ih
 |program g h ih=>exact .program _ ih
 |noRoom g h ih=>exact .noRoom _ ih
 |shape b g h ih=>exact .shape b _ ih
 |frozen b g h ih=>exact .frozen b _ ih
 |sys c g h ih=>exact .sys c _ ih
 |new o g h ih=>exact .new o _ ih
 |halt x h=>exact .halt x h
theorem Look.grim {s:Sem α}{f:α→Sem β}(h:Look s)(k:∀ a,Grim (f a)):Grim (s >>= f):=by
 show Grim (s.bind f)
 induction h with
 |pure a=>exact k a
 |program g h ih=>exact .program _ ih
 |shape b g h ih=>exact .shape b _ ih
 |frozen b g h ih=>exact .frozen b _ ih
 |noRoom g h ih=>exact .noRoom _ ih
theorem Look.bnd {s:Sem α}{f:α→Sem β}(h:Look s)(k:∀ a,Look (f a)):Look (s >>= f):=by
 show Look (s.bind f)
 induction h with
 |pure a=>exact k a
 |program g h ih=>exact .program _ ih
 |shape b g h ih=>exact .shape b _ ih
 |frozen b g h ih=>exact .frozen b _ ih
 |noRoom g h ih=>exact .noRoom _ ih
theorem Grim.bind {s:Sem α}{f:α→Sem β}(h:Mild s)(k:∀ a,Grim (f a)):Grim (s.bind f):=by
 induction h with
 |pure a=>exact k a
 |choose q g h ih=>exact .choose q _ ih
 |program g h ih=>exact .program _ ih
 |noRoom g h ih=>exact .noRoom _ ih
 |halt x h=>exact .halt x h
theorem Grim.bnd {s:Sem α}{f:α→Sem β}(h:Mild s)(k:∀ a,Grim (f a)):Grim (s >>= f):=Grim.bind h k
theorem Grim.run {s:Sem α}(h:Grim s):∀(v:World) (es:Array Event),∃x v1 es1,s.runT P v es=(.halt x v1,es1)∧x.soft:=by
 induction h with
 |choose q k h ih=>
  intro v es
  simp only [Sem.runT]
  split
  ·exact ih 0 v es
  ·exact ih _ _ es
 |program k h ih=>intro v es;simp only [Sem.runT];exact ih P v es
 |noRoom k h ih=>intro v es;simp only [Sem.runT];exact ih v _
 |shape b k h ih=>intro v es;simp only [Sem.runT];exact ih _ v es
 |frozen b k h ih=>intro v es;simp only [Sem.runT];exact ih _ v es
 |sys c k h ih=>intro v es;simp only [Sem.runT];exact ih _ _ _
 |new o k h ih=>intro v es;simp only [Sem.runT];exact ih _ _ _
 |halt x h=>intro v es;exact⟨x,v,es,rfl,h⟩
theorem Grim.sr {A:Map→α→β→Prop}{s:Sem α}{s':Sem β}(h:Grim s):SR P F r A s s':=by
 intro v w hw ht es es'
 obtain⟨x,v1,es1,e,hx⟩:=h.run (P:=P) v es
 rw [e]
 exact hx
end
end Go.Proofs.YtngdldcgkaplbaaGreat.Lk