import Derived.Test.YtngdldcgkaplbaaGreatK11
set_option linter.unusedVariables false
set_option linter.unusedSimpArgs false
set_option maxHeartbeats 40000000
set_option maxRecDepth 100000
namespace Go.Proofs.YtngdldcgkaplbaaGreat
open Go.RowKit Nm Rn
def hv:List Nat→List Nat
 |[]=>[]
 |x::l=>x%4294967296::x/4294967296::hv l
theorem hv_len:∀l:List Nat,(hv l).length=2*l.length
 |[]=>rfl
 |x::l=>by simp [hv,hv_len l];omega
theorem hv_ws:∀{l:List Nat},W6 l→Ws (hv l)
 |[],_=>Ws.nil
 |x::l,h=>by
  have:=h.head
  exact Ws.cons (by omega) (Ws.cons (by omega) (hv_ws h.tail))
theorem hv_nv:∀l:List Nat,nv (hv l)=vl l
 |[]=>rfl
 |x::l=>by rw [hv,nv_cons,nv_cons,hv_nv l,vl];omega
theorem hv_app:∀l m:List Nat,hv (l++m)=hv l++hv m
 |[],_=>rfl
 |x::l,m=>by simp [hv,hv_app l m]
theorem hv_take {l:List Nat}{j:Nat}(h:j < l.length):hv (l.take (j+1))=hv (l.take j)++[l[j]%4294967296,l[j]/4294967296]:=by
 rw [List.take_succ_eq_append_getElem h,hv_app];rfl
theorem mm_half:MM=2*(18446744073709551616^67*9223372036854775808):=by unfold MM;rw [Nat.pow_succ]
theorem top_core {a P r M:Nat}{T:Int}(hP:0 < P)(hM:M=2*(P*9223372036854775808))(h:2*T.natAbs < M)(hv:((r+P*a:Nat):Int)=T % (M:Int))(hlt:r < P)(hw:a < 18446744073709551616):a/9223372036854775808=if T<0 then 1 else 0:=by
 obtain⟨H,hH⟩:∃H,H=P*9223372036854775808:=⟨_,rfl⟩
 rw [←hH]at hM
 split
 ·rename_i hneg
  have e:T%(M:Int)=T+(M:Int):=by
   rw [←Int.add_emod_right]
   exact Int.emod_eq_of_lt (by omega) (by omega)
  rw [e]at hv
  have hge:9223372036854775808≤a:=by
   refine Nat.le_of_not_lt fun hlt2=>?_
   have:P*a+P≤P*9223372036854775808:=by
    have:=Nat.mul_le_mul_left P (show a+1≤9223372036854775808 by omega)
    rwa [Nat.mul_add,Nat.mul_one]at this
   omega
  omega
 ·rename_i hnn
  have e:T%(M:Int)=T:=Int.emod_eq_of_lt (by omega) (by omega)
  rw [e]at hv
  have hlt2:a<9223372036854775808:=by
   refine Nat.lt_of_not_le fun hge=>?_
   have:=Nat.mul_le_mul_left P hge
   omega
  omega
theorem take67 {l:List Nat}(hl:l.length=68)(h6:W6 l):∃a r,l[67]?=some a∧vl (l.drop 67)=a∧vl l=r+18446744073709551616^67*a∧r<18446744073709551616^67∧a<18446744073709551616:=by
 have hs:=vl_take_succ (l:=l) (k:=67) (by omega)
 rw [List.take_of_length_le (by omega)]at hs
 refine⟨l[67],vl (l.take 67),List.getElem?_eq_getElem _,?_,hs,?_,h6.get _⟩
 ·rw [List.drop_eq_getElem_cons (by omega),List.drop_of_length_le (by omega),vl,vl,Nat.mul_zero,Nat.add_zero]
 ·have:=vl_lt (l:=l.take 67) (fun x hx=>h6 x (List.mem_of_mem_take hx))
  rwa [List.length_take,show min 67 l.length=67 by omega]at this
theorem top_bit {T:Int}(h:2*T.natAbs < MM):((sw T)[67]?=some (vl ((sw T).drop 67)))∧(vl ((sw T).drop 67)/9223372036854775808=if T<0 then 1 else 0)∧vl ((sw T).drop 67)<18446744073709551616:=by
 obtain⟨a,r,h1,h2,h3,h4,h5⟩:=take67 (sw_len T) (sw_w6 T)
 have hv:=vl_sw T
 rw [h3]at hv
 rw [h2]
 exact⟨h1,top_core (Nat.pow_pos (by decide)) mm_half h hv h4 h5,h5⟩
theorem vl_pos {T:Int}(h:2*T.natAbs < MM)(h0:0≤T):vl (sw T)=T.natAbs:=by
 have h1:=vl_sw T
 rw [Int.emod_eq_of_lt h0 (by omega)]at h1
 omega
theorem sw_zero {T:Int}(h:2*T.natAbs < MM):sw T=List.replicate 68 0↔T=0:=by
 have hz:=sw_nil
 constructor
 ·intro he
  have h1:=vl_sw T
  rw [he,←hz]at h1
  have h2:=vl_sw 0
  rw [h2]at h1
  have h3:=MM_pos
  have h4:=Int.emod_emod_of_dvd
  rw [Int.zero_emod]at h1
  have h5:=Int.dvd_of_emod_eq_zero h1.symm
  obtain⟨k,hk⟩:=h5
  rcases Int.lt_trichotomy k 0 with h6|h6|h6
  ·have:=Int.mul_le_mul_of_nonneg_left (show k≤-1 by omega) (show(0:Int)≤MM by omega)
   omega
  ·rw [hk,h6,Int.mul_zero]
  ·have:=Int.mul_le_mul_of_nonneg_left (show 1≤k by omega) (show(0:Int)≤MM by omega)
   omega
 ·rintro rfl;exact hz
section
variable {w0 w:World} {L:List Bx} {W:List Sw} {TY TO:TypeId} {g:Nat}
theorem tsize_any (S:Sm)(hT:2*S.T.natAbs < MM)(hOld:Own w0 (⟨g,TY,S.cs⟩::L) W w) :
  Calls Tryz.prog 67 #[.pointer (some ⟨g,0,none⟩)] w fun e w'=>∃A n c,e=.returned (.tuple #[.bool (decide (S.T<0)),.slice A n c])∧Wds w' A n c (nd S.T.natAbs)∧Ext w w':=by
 unfold Sm.cs at hOld
 obtain⟨T,p,m,b,t⟩:=S
 simp only at hOld hT ⊢
 have HLO:=Lib.hid (sw_len T)
 obtain⟨htop,hbit,hb64⟩:=top_bit hT
 have hc67:(sc (sw T) p m b t)[67]?=some (.int .u64 ((vl ((sw T).drop 67):Nat):Int)):=by
  obtain⟨h1,h2⟩:=List.getElem?_eq_some_iff.1 htop
  rw [sc_word h1,h2]
 generalize vl ((sw T).drop 67)=top at *
 have HC67:=Lib.hid hc67
 have HBIT:=Lib.hid hbit
 clear hc67 htop hbit
 have hO:=Own.start w
 by_cases hneg:T<0
 ·have e1:(top:Int)/9223372036854775808=1:=by have:=HBIT.out;rw [if_pos hneg]at this;omega
  have HNG:Hid (∀(g:Nat) (w1:World),Own w [⟨g,84,sc (sw T) p m b t⟩] [] w1→Calls Tryz.prog 114 #[.pointer (some ⟨g,0,none⟩)] w1 fun e w'=>e=.returned (.tuple #[])∧Own w [⟨g,84,sc (sw (-T)) m p b t⟩] [] w'):=Lib.hid (fun g w1 h=>tneg_any (w0:=w) (w:=w1) (L:=[]) (W:=[]) (g:=g) ⟨T,p,m,b,t⟩ h)
  have hA:vl (sw (-T))=T.natAbs:=by rw [vl_pos (T:=-T) (by omega) (by omega)];omega
  have HA:=Lib.hid hA
  have HLA:=Lib.hid (sw_len (-T))
  have HD:Hid (decide (T<0)=true):=Lib.hid (decide_eq_true hneg)
  clear hA hT hneg HBIT
  go_enter Tryz.func67,Tryz.ntmps67
  go_wp2_with (first|((with_reducible refine at_load (T:=84) ?_);refine own_load (T:=84) hOld 0 rfl rfl agg_sum size_sum (by rw [sc_len HLO.out];rfl) (vs:=sc (sw T) p m b t) (by rw [List.drop_zero,List.take_of_length_le (by rw [sc_len HLO.out];omega)]) ?_)|((with_reducible refine at_alloc (T:=84) ?_);refine own_alloc hO zero_sum rfl sc_noU ?_;clear hO;intro gt wa hO)|((with_reducible refine at_store (T:=84) ?_);refine own_store (vs:=sc (sw T) p m b t) (T:=84) hO 0 rfl rfl rfl (fun w=>by rw [sc_len HLO.out];exact size_sum w) (sc_one _ _ _ _ _) sc_noU (by rw [sc_len HLO.out];rfl) ?_;clear hO;intro wb hO;simp only [List.set_cons_zero,spl_zsum (sc_len HLO.out)]at hO;have hc67:=(hO.cell 0 rfl 67).trans HC67.out)|(go_at_call 114;(with_reducible refine(HNG.out _ _ hO).mono ?_);rintro e w1 ⟨rfl,hO1⟩;clear hO;have hO:=hO1;clear hO1)|((with_reducible refine at_load (T:=82) ?_);refine own_load (T:=82) hO 0 rfl rfl agg_a68 size_a68 (by rw [sc_len HLA.out];rfl) (vs:=u64s (sw (-T))) (sc_words HLA.out) ?_))
  obtain⟨i0,hi0,hz0,hz1,hz2⟩:=info_parts info_u32
  clear hi0 hz0 hz1 hz2
  have hb0:=hO.toExt
  go_loopw [6,21] (fun v kv wr=>∃j:Nat,kv=.int .i64 (j:Int)∧j≤68∧wr.ownsRow w.heap.size 105 1 v (2*j) (u32s (hv ((sw (-T)).take j)))∧Ext w wr) (fun _ kv _=>68-(intOf kv).toNat)
  case atStart=>exact⟨0,rfl,by omega,World.ownsRow_nil _ _ _ _,hb0⟩
  case round=>
   obtain⟨j,rfl,hj68,hown,hb⟩:=hrel
   clear hb0
   by_cases hlt:j<68
   ·have hjo:j<(sw (-T)).length:=by rw [HLA.out];exact hlt
    have hidx:=run_idx68 (ws:=sw (-T)) hlt (List.getElem?_eq_getElem hjo)
    have hx64:=(sw_w6 (-T)).get hjo
    have HT:=Lib.hid (hv_take hjo)
    obtain⟨x,hx⟩:∃x,x=(sw (-T))[j]:=⟨_,rfl⟩
    rw [←hx]at hidx hx64 HT
    obtain⟨lo,hlo⟩:∃lo,lo=x%4294967296:=⟨_,rfl⟩
    obtain⟨hi,hhi⟩:∃hi,hi=x/4294967296:=⟨_,rfl⟩
    rw [←hlo,←hhi]at HT
    have f1:(x:Int)%4294967296=(lo:Int):=by omega
    have f2:(x:Int)/4294967296=(hi:Int):=by omega
    have f3:(hi:Int)%4294967296=(hi:Int):=by omega
    have bp0:(0:Int)≤(j:Int):=by omega
    have bp1:(j:Int)<68:=by omega
    have d0:decide ((j:Int)<68)=true:=decide_eq_true (by omega)
    clear hx hlo hhi hjo
    go_wp2_with (at_builtin;refine wp_appRow rfl (.tmp 24) (.tmp 30) rfl rfl (hown.alloc _) (hb.alloc _) rfl (Row.new wr [lo,hi]) rfl (by omega) ?_;intro v' w1 hown' hE')
    go_roundw
    case rel=>exact⟨j+1,by go_num,by omega,by rw [HT.out];exact hown',hE'⟩
    case measure=>simp [intOf];omega
   ·have hje:j=68:=by omega
    subst hje
    rw [vl_take_all (sw_len (-T))]at hown
    obtain⟨A1,c1,rfl,hW⟩:=Wds.of_own hown (hv_ws (sw_w6 (-T)))
    have HNM:=Lib.hid (fun h=>nnorm_ret A1 (2*68) c1 (hv (sw (-T))) wr h (by omega))
    have HWD:=Lib.hid hW
    clear hown hlt hj68 hW
    go_wp2_with (go_at_call 115;refine(HNM.out HWD.out).mono ?_;rintro e w1 ⟨A2,n2,c2,rfl,hW2,hE2⟩)
    go_ret2
    rw [hv_nv,HA.out]at hW2
    rw [HD.out]
    exact⟨A2,n2,c2,rfl,hW2,hb.trans hE2⟩
 ·have e1:(top:Int)/9223372036854775808=0:=by have:=HBIT.out;rw [if_neg hneg]at this;omega
  have hA:vl (sw (T))=T.natAbs:=by exact vl_pos hT (by omega)
  have HA:=Lib.hid hA
  have HLA:=Lib.hid (sw_len (T))
  have HD:Hid (decide (T<0)=false):=Lib.hid (decide_eq_false hneg)
  clear hA hT hneg HBIT
  go_enter Tryz.func67,Tryz.ntmps67
  go_wp2_with (first|((with_reducible refine at_load (T:=84) ?_);refine own_load (T:=84) hOld 0 rfl rfl agg_sum size_sum (by rw [sc_len HLO.out];rfl) (vs:=sc (sw T) p m b t) (by rw [List.drop_zero,List.take_of_length_le (by rw [sc_len HLO.out];omega)]) ?_)|((with_reducible refine at_alloc (T:=84) ?_);refine own_alloc hO zero_sum rfl sc_noU ?_;clear hO;intro gt wa hO)|((with_reducible refine at_store (T:=84) ?_);refine own_store (vs:=sc (sw T) p m b t) (T:=84) hO 0 rfl rfl rfl (fun w=>by rw [sc_len HLO.out];exact size_sum w) (sc_one _ _ _ _ _) sc_noU (by rw [sc_len HLO.out];rfl) ?_;clear hO;intro wb hO;simp only [List.set_cons_zero,spl_zsum (sc_len HLO.out)]at hO;have hc67:=(hO.cell 0 rfl 67).trans HC67.out)|((with_reducible refine at_load (T:=82) ?_);refine own_load (T:=82) hO 0 rfl rfl agg_a68 size_a68 (by rw [sc_len HLO.out];rfl) (vs:=u64s (sw T)) (sc_words HLO.out) ?_))
  obtain⟨i0,hi0,hz0,hz1,hz2⟩:=info_parts info_u32
  clear hi0 hz0 hz1 hz2
  have hb0:=hO.toExt
  go_loopw [6,21] (fun v kv wr=>∃j:Nat,kv=.int .i64 (j:Int)∧j≤68∧wr.ownsRow w.heap.size 105 1 v (2*j) (u32s (hv ((sw (T)).take j)))∧Ext w wr) (fun _ kv _=>68-(intOf kv).toNat)
  case atStart=>exact⟨0,rfl,by omega,World.ownsRow_nil _ _ _ _,hb0⟩
  case round=>
   obtain⟨j,rfl,hj68,hown,hb⟩:=hrel
   clear hb0
   by_cases hlt:j<68
   ·have hjo:j<(sw (T)).length:=by rw [HLA.out];exact hlt
    have hidx:=run_idx68 (ws:=sw (T)) hlt (List.getElem?_eq_getElem hjo)
    have hx64:=(sw_w6 (T)).get hjo
    have HT:=Lib.hid (hv_take hjo)
    obtain⟨x,hx⟩:∃x,x=(sw (T))[j]:=⟨_,rfl⟩
    rw [←hx]at hidx hx64 HT
    obtain⟨lo,hlo⟩:∃lo,lo=x%4294967296:=⟨_,rfl⟩
    obtain⟨hi,hhi⟩:∃hi,hi=x/4294967296:=⟨_,rfl⟩
    rw [←hlo,←hhi]at HT
    have f1:(x:Int)%4294967296=(lo:Int):=by omega
    have f2:(x:Int)/4294967296=(hi:Int):=by omega
    have f3:(hi:Int)%4294967296=(hi:Int):=by omega
    have bp0:(0:Int)≤(j:Int):=by omega
    have bp1:(j:Int)<68:=by omega
    have d0:decide ((j:Int)<68)=true:=decide_eq_true (by omega)
    clear hx hlo hhi hjo
    go_wp2_with (at_builtin;refine wp_appRow rfl (.tmp 24) (.tmp 30) rfl rfl (hown.alloc _) (hb.alloc _) rfl (Row.new wr [lo,hi]) rfl (by omega) ?_;intro v' w1 hown' hE')
    go_roundw
    case rel=>exact⟨j+1,by go_num,by omega,by rw [HT.out];exact hown',hE'⟩
    case measure=>simp [intOf];omega
   ·have hje:j=68:=by omega
    subst hje
    rw [vl_take_all (sw_len (T))]at hown
    obtain⟨A1,c1,rfl,hW⟩:=Wds.of_own hown (hv_ws (sw_w6 (T)))
    have HNM:=Lib.hid (fun h=>nnorm_ret A1 (2*68) c1 (hv (sw (T))) wr h (by omega))
    have HWD:=Lib.hid hW
    clear hown hlt hj68 hW
    go_wp2_with (go_at_call 115;refine(HNM.out HWD.out).mono ?_;rintro e w1 ⟨A2,n2,c2,rfl,hW2,hE2⟩)
    go_ret2
    rw [hv_nv,HA.out]at hW2
    rw [HD.out]
    exact⟨A2,n2,c2,rfl,hW2,hb.trans hE2⟩
end
theorem eq_items (d:Nat)(xs ys:List Nat):∀(is:List Nat) (w:World),(∀i∈is,i<xs.length∧i<ys.length)→(Op.eqItems (d+1) 29 1 (u64s xs).toArray (u64s ys).toArray is).run Tryz.prog w=.ok (is.all fun i=>xs[i]?==ys[i]?) w
 |[],w,_=>by simp [Op.eqItems]
 |i::is,w,h=>by
  obtain⟨h1,h2⟩:=h i (by simp)
  have e1:(u64s xs).toArray[i*1]?=some (.int .u64 (xs[i]:Int)):=by rw [Nat.mul_one];simpa using u64s_get h1
  have e2:(u64s ys).toArray[i*1]?=some (.int .u64 (ys[i]:Int)):=by rw [Nat.mul_one];simpa using u64s_get h2
  have p1:=run_part_plain (P:=Tryz.prog) w (e:=29) (by kernel_rfl) e1
  have p2:=run_part_plain (P:=Tryz.prog) w (e:=29) (by kernel_rfl) e2
  have p3:=run_equalIn_int (P:=Tryz.prog) w d 29 .u64 .u64 (xs[i]:Int) (ys[i]:Int) Tryz.underlying29
  have ih:=eq_items d xs ys is w (fun j hj=>h j (by simp [hj]))
  simp only [Op.eqItems,Sem.run_bind,p1,p2,p3,Result.andThen_ok,List.all_cons,List.getElem?_eq_getElem h1,List.getElem?_eq_getElem h2]
  by_cases hq:xs[i]=ys[i]
  ·rw [hq]
   simp [ih]
  ·have hq2:((xs[i]:Int)==(ys[i]:Int))=false:=by rw [beq_eq_false_iff_ne];omega
   have hq3:(some xs[i]==some ys[i])=false:=by rw [beq_eq_false_iff_ne];intro h;exact hq (Option.some.inj h)
   simp [hq2,hq3]
theorem run_eq68 {xs ys:List Nat}(hx:xs.length=68)(hy:ys.length=68)(w:World):(Op.equalIn 10000 82 (.agg (u64s xs).toArray) (.agg (u64s ys).toArray)).run Tryz.prog w=.ok (decide (xs=ys)) w:=by
 obtain⟨i,hi⟩:∃i,Tryz.prog.info? 29=some i:=Option.isSome_iff_exists.1 (by kernel_rfl)
 have hc:Tryz.prog.cellsOf 29=1:=by kernel_rfl
 have h1:=run_equalIn_array (P:=Tryz.prog) w 9999 (u64s xs).toArray (u64s ys).toArray Tryz.underlying82 hi
 rw [hc,eq_items 9998 xs ys (List.range 68) w (fun i hi=>by rw [hx,hy];have:=List.mem_range.1 hi;omega)]at h1
 rw [h1]
 congr 1
 rw [Bool.eq_iff_iff,List.all_eq_true,decide_eq_true_iff]
 constructor
 ·intro h
  apply List.ext_getElem?
  intro k
  by_cases hk:k<68
  ·have:=h k (List.mem_range.2 hk)
   exact beq_iff_eq.1 this
  ·rw [List.getElem?_eq_none (by omega),List.getElem?_eq_none (by omega)]
 ·rintro rfl k _
  exact beq_iff_eq.2 rfl
theorem run_eqz {T:Int}(h:2*T.natAbs < MM)(w:World):(Op.equalIn 10000 82 (.agg (u64s (sw T)).toArray) (.agg Tryz.zeroCells82)).run Tryz.prog w=.ok (decide (T=0)) w:=by
 have h1:=run_eq68 (sw_len T) (ys:=List.replicate 68 0) (by simp) w
 rw [show decide (sw T=List.replicate 68 0)=decide (T=0)from decide_eq_decide.2 (sw_zero h)]at h1
 rw [show Tryz.zeroCells82=(u64s (List.replicate 68 0)).toArray from rfl]
 exact h1
def Sm.sign (S:Sm):Int:=if S.state=2 then 0 else if S.state≠0 then S.state else if S.T<0 then -1 else if S.T=0 then 0 else 1
def Sm.ends (S:Sm):Nat:=if S.state=1 then infR else if S.state=-1 then minf else NaNc
def Sm.round (S:Sm)(d:Int):Nat:=if S.state≠0 then S.ends else rT d S.T
theorem bl_sum {T:Int}(h:2*T.natAbs < MM):bl T.natAbs≤4352:=by
 obtain⟨c,hc⟩:∃c,c=68:=⟨_,rfl⟩
 have h1:T.natAbs<2^(64*c):=by
  rw [←pow64,hc]
  show _<MM
  omega
 have:=(bl_le_iff _ _).2 h1
 omega
theorem nw_sum {T:Int}(h:2*T.natAbs < MM):nw T.natAbs≤136:=by rw [nw_bl];have:=bl_sum h;omega
theorem sn_self (T:Int):sn (decide (T<0)) T.natAbs=T:=by
 unfold sn
 by_cases h:T<0
 ·rw [decide_eq_true h,if_pos rfl];omega
 ·rw [decide_eq_false h,if_neg (by simp)];omega
theorem ofR_sum {d T:Int}(h:2*T.natAbs < MM):ofR d (decide (T<0)) T.natAbs (-2148)=rT d T:=by
 rw [ofR_zd d _ (by have:=bl_sum h;omega) (by omega) (by omega),←zd_two]
 refine rT_dy (A:=0) (B:=0) (by omega) ?_
 rw [sn_self]
theorem stt_cases (p m n:Bool):stt p m n=0∨stt p m n=1∨stt p m n=-1∨stt p m n=2:=by cases p<;>cases m<;>cases n<;>simp [stt]
section
variable {w0 w:World} {L:List Bx} {W:List Sw} {TY TO:TypeId} {g:Nat}
theorem tsign_any (S:Sm)(hT:S.state=0→2*S.T.natAbs < MM)(hO:Own w0 (⟨g,TY,S.cs⟩::L) W w) :
  Calls Tryz.prog 70 #[.pointer (some ⟨g,0,none⟩)] w fun e w'=>e=.returned (.int .i64 S.sign)∧w=w':=by
 have HST:=Lib.hid (fun w h=>tstate_any (w0:=w0) (w:=w) (L:=L) (W:=W) (TY:=TY) (g:=g) (p:=S.p) (m:=S.m) (b:=S.n) (t:=S.t) (sw_len S.T) h)
 unfold Sm.sign
 unfold Sm.state at hT ⊢
 unfold Sm.cs at hO
 have hs:=stt_cases S.p S.m S.n
 generalize stt S.p S.m S.n=st at *
 have HLO:=Lib.hid (sw_len S.T)
 rcases hs with rfl|rfl|rfl|rfl
 ·have hT:=hT rfl
  obtain⟨htop,hbit,hb64⟩:=top_bit hT
  have hc67:(sc (sw S.T) S.p S.m S.n S.t)[67]?=some (.int .u64 ((vl ((sw S.T).drop 67):Nat):Int)):=by
   obtain⟨h1,h2⟩:=List.getElem?_eq_some_iff.1 htop
   rw [sc_word h1,h2]
  generalize vl ((sw S.T).drop 67)=top at *
  have hc:=(hO.cell 0 rfl 67).trans hc67
  have heq:=run_eqz hT
  by_cases hneg:S.T<0
  ·have e1:(top:Int)/9223372036854775808=1:=by rw [if_pos hneg]at hbit;omega
   have HR:Hid ((if(0:Int)=2 then(0:Int)else if(0:Int)≠0 then 0 else if S.T<0 then -1 else if S.T=0 then 0 else 1)=-1):=Lib.hid (by rw [if_pos hneg];rfl)
   clear hc67 htop hbit heq hT hneg
   rw [HR.out]
   go_enter Tryz.func70,Tryz.ntmps70
   go_wp2_with (go_at_call 65;(with_reducible refine(HST.out _ hO).mono ?_);rintro e w2 ⟨rfl,rfl⟩)
   go_ret
   exact⟨rfl,rfl⟩
  ·have e1:(top:Int)/9223372036854775808=0:=by rw [if_neg hneg]at hbit;omega
   by_cases hz:S.T=0
   ·have HR:Hid ((if(0:Int)=2 then(0:Int)else if(0:Int)≠0 then 0 else if S.T<0 then -1 else if S.T=0 then 0 else 1)=0):=Lib.hid (by rw [if_neg hneg,if_pos hz];rfl)
    rw [decide_eq_true hz]at heq
    clear hc67 htop hbit hT hneg hz
    rw [HR.out]
    go_enter Tryz.func70,Tryz.ntmps70
    go_wp2_with (first|(go_at_call 65;(with_reducible refine(HST.out _ hO).mono ?_);rintro e w2 ⟨rfl,rfl⟩)|((with_reducible refine at_load (T:=82) ?_);refine own_load (T:=82) hO 0 rfl rfl agg_a68 size_a68 (by rw [sc_len HLO.out];rfl) (vs:=u64s (sw S.T)) (sc_words HLO.out) ?_))
    go_ret
    exact⟨rfl,rfl⟩
   ·have HR:Hid ((if(0:Int)=2 then(0:Int)else if(0:Int)≠0 then 0 else if S.T<0 then -1 else if S.T=0 then 0 else 1)=1):=Lib.hid (by rw [if_neg hneg,if_neg hz];rfl)
    rw [decide_eq_false hz]at heq
    clear hc67 htop hbit hT hneg hz
    rw [HR.out]
    go_enter Tryz.func70,Tryz.ntmps70
    go_wp2_with (first|(go_at_call 65;(with_reducible refine(HST.out _ hO).mono ?_);rintro e w2 ⟨rfl,rfl⟩)|((with_reducible refine at_load (T:=82) ?_);refine own_load (T:=82) hO 0 rfl rfl agg_a68 size_a68 (by rw [sc_len HLO.out];rfl) (vs:=u64s (sw S.T)) (sc_words HLO.out) ?_))
    go_ret
    exact⟨rfl,rfl⟩
 all_goals
  clear hT
  go_enter Tryz.func70,Tryz.ntmps70
  go_wp2_with (go_at_call 65;(with_reducible refine(HST.out _ hO).mono ?_);rintro e w2 ⟨rfl,rfl⟩)
  go_ret
  exact⟨rfl,rfl⟩
theorem tend_any (S:Sm)(hne:S.state≠0)(hO:Own w0 (⟨g,TY,S.cs⟩::L) W w) :
  Calls Tryz.prog 66 #[.pointer (some ⟨g,0,none⟩)] w fun e w'=>e=.returned (.float .f64 S.ends)∧w=w':=by
 have HST:=Lib.hid (fun w h=>tstate_any (w0:=w0) (w:=w) (L:=L) (W:=W) (TY:=TY) (g:=g) (p:=S.p) (m:=S.m) (b:=S.n) (t:=S.t) (sw_len S.T) h)
 unfold Sm.ends
 unfold Sm.state at hne ⊢
 unfold Sm.cs at hO
 have hs:=stt_cases S.p S.m S.n
 generalize stt S.p S.m S.n=st at *
 rcases hs with rfl|rfl|rfl|rfl
 ·exact absurd rfl hne
 all_goals
  clear hne
  go_enter Tryz.func66,Tryz.ntmps66
  go_wp2_with (first|(go_at_call 65;(with_reducible refine(HST.out _ hO).mono ?_);rintro e w2 ⟨rfl,rfl⟩)|(go_at_call 31;(with_reducible refine(inf_p _).mono ?_);rintro e w2 ⟨rfl,rfl⟩)|(go_at_call 31;(with_reducible refine(inf_m _).mono ?_);rintro e w2 ⟨rfl,rfl⟩)|(go_at_call 64;(with_reducible refine(mnanc_any _).mono ?_);rintro e w2 ⟨rfl,rfl⟩))
  go_ret
  exact⟨rfl,rfl⟩
theorem ends_lt (S:Sm):S.ends<18446744073709551616∧cn S.ends=S.ends:=by
 unfold Sm.ends
 split
 ·exact⟨by decide,cn_num (by decide)⟩
 ·split
  ·exact⟨by decide,cn_num (by decide)⟩
  ·exact⟨by decide,by decide⟩
theorem tstate_S (S:Sm)(hO:Own w0 (⟨g,TY,S.cs⟩::L) W w):Calls Tryz.prog 65 #[.pointer (some ⟨g,0,none⟩)] w fun e w'=>e=.returned (.int .i64 S.state)∧w=w':=tstate_any (sw_len S.T) hO
theorem tround_any (S:Sm)(d:Int)(hT:S.state=0→2*S.T.natAbs < MM)(hO:Own w0 (⟨g,TY,S.cs⟩::L) W w) :
  Calls Tryz.prog 62 #[.pointer (some ⟨g,0,none⟩),.int .i64 d] w (RetFl (S.round d) w):=by
 have HST:=Lib.hid (fun w h=>tstate_S (w0:=w0) (w:=w) (L:=L) (W:=W) (TY:=TY) (g:=g) S h)
 by_cases hs:S.state=0
 ·have hT:=hT hs
  have HR:Hid (S.round d=ofR d (decide (S.T<0)) S.T.natAbs (-2148)):=Lib.hid (by unfold Sm.round;rw [if_neg (by simp [hs]),ofR_sum hT])
  have HSZ:=Lib.hid (fun h=>tsize_any (w0:=w0) (w:=w) (L:=L) (W:=W) (TY:=TY) (g:=g) S hT h)
  have HOF:=Lib.hid (fun A n c w (h:Wds w A n c (nd S.T.natAbs))=>rof_any d (decide (S.T<0)) A n c (nd S.T.natAbs) (-2148) w h (by have h1:=h.len;rw [nd_length]at h1;have h2:=nw_sum hT;omega))
  rw [nv_nd]at HOF
  rw [hs]at HST
  have HO:=Lib.hid hO
  clear hs hT hO
  rw [HR.out]
  go_enter Tryz.func62,Tryz.ntmps62
  go_wp2_with (go_at_call 65;(with_reducible refine(HST.out _ HO.out).mono ?_);rintro e w2 ⟨rfl,rfl⟩)
  refine(HSZ.out HO.out).mono ?_
  rintro e w2 ⟨A,n,c,rfl,hW,hE⟩
  have HW:=Lib.hid hW
  clear hW
  go_wp2_with fail
  refine(HOF.out _ _ _ _ HW.out).mono ?_
  rintro e w3 ⟨r,rfl,h1,h2,hE2⟩
  go_wp2_with fail
  go_ret
  exact⟨r,rfl,h1,h2,hE.trans hE2⟩
 ·have HR:Hid (S.round d=S.ends):=Lib.hid (by unfold Sm.round;rw [if_pos hs])
  have HE:=Lib.hid (fun w h=>tend_any (w0:=w0) (w:=w) (L:=L) (W:=W) (TY:=TY) (g:=g) S hs h)
  obtain⟨b1,b2⟩:=ends_lt S
  have HB:=Lib.hid (And.intro b1 b2)
  have HO:=Lib.hid hO
  generalize S.state=st at *
  have q1:(!(st==0))=true:=by rw [Bool.not_eq_true',beq_eq_false_iff_ne];exact hs
  have q2:(st==0)=false:=by rw [beq_eq_false_iff_ne];exact hs
  clear hs b1 b2 hO hT
  rw [HR.out]
  go_enter Tryz.func62,Tryz.ntmps62
  go_wp2_with (first|(go_at_call 65;(with_reducible refine(HST.out _ HO.out).mono ?_);rintro e w2 ⟨rfl,rfl⟩)|(go_at_call 66;(with_reducible refine(HE.out _ HO.out).mono ?_);rintro e w2 ⟨rfl,rfl⟩))
  go_ret
  exact⟨_,rfl,HB.out.1,HB.out.2,Ext.refl _⟩
end
def qT (d:Int)(T:Int)(n:Nat):Nat:=rnd d (decide (T<0)) (zr T.natAbs (n*(K74*K74)))
def Sm.over (S:Sm)(d:Int)(n:Int):Nat:=if n<1 then NaNc else if S.state≠0 then S.ends else qT d S.T n.toNat
theorem ratR_sum {d T:Int}{n:Nat}(h:2*T.natAbs < MM)(hn:0 < n)(hn2:n < 18446744073709551616):ratR d (decide (T<0)) T.natAbs n (-2148)=qT d T n:=by
 have hb:=bl_sum h
 have hbn:bl n≤64:=(bl_le_iff _ _).2 (by omega)
 have hK:=Nat.mul_pos K74_pos K74_pos
 unfold qT
 by_cases h0:T.natAbs=0
 ·rw [h0,rat_zero d _ (by omega) (by omega),zr_zero,rnd_zero]
 ·obtain⟨c,hc⟩:∃c:Nat,c=1074:=⟨_,rfl⟩
  obtain⟨q,hq⟩:∃q:Nat,q=1075:=⟨_,rfl⟩
  refine ratR_same d _ h0 (by omega) (by omega) (by omega) (by omega) (by omega) ⟨q,c+c,by omega,Nat.mul_pos hn hK,by omega,?_⟩
  rw [show K75=2^q by rw [hq];exact K75_def,K74_def,←hc,Nat.pow_add]
  try ac_rfl
section
variable {w0 w:World} {L:List Bx} {W:List Sw} {TY TO:TypeId} {g:Nat}
theorem tover_any (S:Sm)(d n:Int)(h63:n < 9223372036854775808)(hT:S.state=0→2*S.T.natAbs < MM)(hO:Own w0 (⟨g,TY,S.cs⟩::L) W w) :
  Calls Tryz.prog 20 #[.pointer (some ⟨g,0,none⟩),.int .i64 d,.int .i64 n] w (RetFl (S.over d n) w):=by
 by_cases hn:n<1
 ·have HR:Hid (S.over d n=NaNc):=Lib.hid (if_pos hn)
  have d0:decide (n<1)=true:=decide_eq_true hn
  clear hT hO h63 hn
  rw [HR.out]
  go_enter Tryz.func20,Tryz.ntmps20
  go_wp2_with (go_at_call 64;(with_reducible refine(mnanc_any _).mono ?_);rintro e w2 ⟨rfl,rfl⟩)
  go_ret
  exact⟨_,rfl,by decide,by decide,Ext.refl _⟩
 have d0:decide (n<1)=false:=decide_eq_false hn
 have HST:=Lib.hid (fun w h=>tstate_S (w0:=w0) (w:=w) (L:=L) (W:=W) (TY:=TY) (g:=g) S h)
 by_cases hs:S.state=0
 ·have hT:=hT hs
  obtain⟨N,rfl⟩:=Int.eq_ofNat_of_zero_le (show 0≤n by omega)
  have hRR:=ratR_sum (d:=d) hT (n:=N) (by omega) (by omega)
  have HR:Hid (S.over d N=ratR d (decide (S.T<0)) S.T.natAbs N (-2148)):=Lib.hid (by unfold Sm.over;rw [if_neg hn,if_neg (by simp [hs]),hRR];rfl)
  have HSZ:=Lib.hid (fun h=>tsize_any (w0:=w0) (w:=w) (L:=L) (W:=W) (TY:=TY) (g:=g) S hT h)
  have HSM:=Lib.hid (fun w=>nsmall_any N w (by omega))
  have HRA:=Lib.hid (fun A n c B m k w (h:Wds w A n c (nd S.T.natAbs)) (h':Wds w B m k (nd N))=>pratio_any d (decide (S.T<0)) A n c (nd S.T.natAbs) B m k (nd N) (-2148) w h (by have h1:=h.len;rw [nd_length]at h1;have h2:=nw_sum hT;omega) h' (by have h1:=h'.len;rw [nd_length]at h1;have h2:nw N≤2:=(nw_le_iff _ 2).2 (by omega);omega))
  simp only [nv_nd]at HRA
  rw [hs]at HST
  have HO:=Lib.hid hO
  have hN:(N:Int)<9223372036854775808:=h63
  have hcv:(N:Int)%18446744073709551616=(N:Int):=by omega
  clear hs hT hO hRR hn
  rw [HR.out]
  go_enter Tryz.func20,Tryz.ntmps20
  go_wp2_with (go_at_call 65;(with_reducible refine(HST.out _ HO.out).mono ?_);rintro e w2 ⟨rfl,rfl⟩)
  refine(HSZ.out HO.out).mono ?_
  rintro e w2 ⟨A,l,c,rfl,hW,hE⟩
  have HW:=Lib.hid hW
  clear hW
  go_wp2_with fail
  refine(HSM.out _).mono ?_
  rintro e w3 ⟨B,l2,c2,rfl,hW2,hE2⟩
  have HW2:=Lib.hid hW2
  have HW1:=Lib.hid (HW.out.ext hE2)
  clear hW2
  go_wp2_with fail
  refine(HRA.out _ _ _ _ _ _ _ HW1.out HW2.out).mono ?_
  rintro e w4 ⟨r,rfl,h1,h2,hE3⟩
  go_wp2_with fail
  go_ret
  exact⟨r,rfl,h1,h2,(hE.trans hE2).trans hE3⟩
 ·have HR:Hid (S.over d n=S.ends):=Lib.hid (by unfold Sm.over;rw [if_neg hn,if_pos hs])
  have HE:=Lib.hid (fun w h=>tend_any (w0:=w0) (w:=w) (L:=L) (W:=W) (TY:=TY) (g:=g) S hs h)
  obtain⟨b1,b2⟩:=ends_lt S
  have HB:=Lib.hid (And.intro b1 b2)
  have HO:=Lib.hid hO
  generalize S.state=st at *
  have q1:(!(st==0))=true:=by rw [Bool.not_eq_true',beq_eq_false_iff_ne];exact hs
  have q2:(st==0)=false:=by rw [beq_eq_false_iff_ne];exact hs
  clear hs b1 b2 hO hT hn
  rw [HR.out]
  go_enter Tryz.func20,Tryz.ntmps20
  go_wp2_with (first|(go_at_call 65;(with_reducible refine(HST.out _ HO.out).mono ?_);rintro e w2 ⟨rfl,rfl⟩)|(go_at_call 66;(with_reducible refine(HE.out _ HO.out).mono ?_);rintro e w2 ⟨rfl,rfl⟩))
  go_ret
  exact⟨_,rfl,HB.out.1,HB.out.2,Ext.refl _⟩
end
end Go.Proofs.YtngdldcgkaplbaaGreat
namespace Go.Proofs.YtngdldcgkaplbaaGreat.Rn
open Nm
def RootAt (N D n:Nat)(k:Int)(r:Nat)(o:Bool):Prop:=
 ∃A B:Nat,(A:Int)-B=n*k∧r^n*(D*2^B)≤N*2^A∧N*2^A<(r+1)^n*(D*2^B)∧o=decide (r^n*(D*2^B)≠N*2^A)
theorem RootAt.congr {N D N' D' n:Nat}{k:Int}{r:Nat}{o:Bool}(hD:0 < D)(hD':0 < D')(he:N*D'=N'*D)(h:RootAt N D n k r o):RootAt N' D' n k r o:=by
 obtain⟨A,B,hAB,h1,h2,h3⟩:=h
 have e1:∀R:Nat,R*(D*2^B)*D'=R*(D'*2^B)*D:=fun R=>by simp only [Nat.mul_assoc,Nat.mul_comm,Nat.mul_left_comm]
 have e2:N*2^A*D'=N'*2^A*D:=by rw [Nat.mul_right_comm,he,Nat.mul_right_comm]
 refine⟨A,B,hAB,?_,?_,?_⟩
 ·refine Nat.le_of_mul_le_mul_right (c:=D) ?_ hD
  rw [←e1,←e2]
  exact Nat.mul_le_mul_right _ h1
 ·refine Nat.lt_of_mul_lt_mul_right (a:=D) ?_
  rw [←e1,←e2]
  exact Nat.mul_lt_mul_of_pos_right h2 hD'
 ·rw [h3]
  refine decide_eq_decide.2 (not_congr ?_)
  constructor
  ·intro h
   refine Nat.eq_of_mul_eq_mul_right hD ?_
   rw [←e1,←e2,h]
  ·intro h
   refine Nat.eq_of_mul_eq_mul_right hD' ?_
   rw [e1,e2,h]
structure KS (f:Int)(n:Nat)(q0 k1 q1 k2 q2 m1 m2:Int):Prop where
 e0:(f+n*60).tdiv n=q0
 p1:n*k1=m1
 e1:(f+m1).tdiv n=q1
 p2:n*k2=m2
 e2:(f+m2).tdiv n=q2
 c1:(61<q0∧k1=60-(q0-60))∨(¬61<q0∧k1=60)
 n1:¬61<q1
 c2:(q1<59∧k2=k1+(60-q1))∨(¬q1<59∧k2=k1)
 n2:¬q2<59
 lo:59*(n:Int)≤f+m2
 hi:f+m2<62*(n:Int)
 b0:-70000≤q0∧q0≤70000
 b1:-70000≤q1∧q1≤70000
 b2:-70000≤q2∧q2≤70000
 d1:-140000≤k1∧k1≤140000
 d2:-300000≤k2∧k2≤300000
 r1:-70000≤m1∧m1≤70000
 r2:-70000≤m2∧m2≤70000
structure RtRel (n big j r:Nat):Prop where
 low:r%2^j=0
 lt:r+2^j≤9223372036854775808
 le:r^n≤big
 gt:big<(r+2^j)^n
theorem RtRel.no {n big i r:Nat}(h:RtRel n big (i+1) r)(hgt:big < (r+2^i)^n):RtRel n big i r:=by
 have hl:=h.lt
 have hlow:=h.low
 rw [Nat.pow_succ]at hl hlow
 refine⟨?_,by omega,h.le,hgt⟩
 have:=Nat.dvd_of_mod_eq_zero hlow
 exact Nat.mod_eq_zero_of_dvd (Nat.dvd_trans (Nat.dvd_mul_right _ _) this)
theorem swap_le (x z X Z:Nat)(h:(x≤z∧X≤Z)∨(z≤x∧Z≤X)):x*Z+z*X≤z*Z+x*X:=by
 rcases h with ⟨h1,h2⟩|⟨h1,h2⟩
 ·obtain⟨a,rfl⟩:∃a,z=x+a:=⟨z-x,by omega⟩
  obtain⟨b,rfl⟩:∃b,Z=X+b:=⟨Z-X,by omega⟩
  simp only [Nat.mul_add,Nat.add_mul]
  omega
 ·obtain⟨a,rfl⟩:∃a,x=z+a:=⟨x-z,by omega⟩
  obtain⟨b,rfl⟩:∃b,X=Z+b:=⟨X-Z,by omega⟩
  simp only [Nat.mul_add,Nat.add_mul]
  omega
theorem means (x z:Nat):∀n:Nat,(n+1)*(z*x^n)≤z^(n+1)+n*x^(n+1)
 |0=>by simp
 |n+1=>by
  have ih:=means x z n
  have h1:x*((n+1)*(z*x^n))≤x*(z^(n+1)+n*x^(n+1)):=Nat.mul_le_mul_left x ih
  have e1:x*((n+1)*(z*x^n))=(n+1)*(z*x^(n+1)):=by
   rw [Nat.pow_succ];simp only [Nat.mul_assoc,Nat.mul_comm,Nat.mul_left_comm]
  have e2:x*(z^(n+1)+n*x^(n+1))=x*z^(n+1)+n*x^(n+1+1):=by
   rw [Nat.mul_add,Nat.pow_succ x (n+1)];congr 1;simp only [Nat.mul_assoc,Nat.mul_comm,Nat.mul_left_comm]
  have e3:(n+1+1)*(z*x^(n+1))=(n+1)*(z*x^(n+1))+z*x^(n+1):=by rw [Nat.add_mul (n+1) 1,Nat.one_mul]
  have e4:(n+1)*x^(n+1+1)=n*x^(n+1+1)+x*x^(n+1):=by rw [Nat.add_mul,Nat.one_mul,Nat.pow_succ' (n:=n+1)]
  have h2:=swap_le x z (x^(n+1)) (z^(n+1)) (by
   rcases Nat.le_total x z with h|h
   ·exact .inl ⟨h,Nat.pow_le_pow_left h _⟩
   ·exact .inr ⟨h,Nat.pow_le_pow_left h _⟩)
  rw [e3,e4,Nat.pow_succ' (n:=n+1) (m:=z)] 
  rw [e1,e2]at h1
  omega
structure WhRel (V n X x:Nat):Prop where
 top:∀z,z^n≤V→z≤x
 x1:1≤x
 xX:x≤X
def newt (V n x:Nat):Nat:=(x*(n-1)+V/x^(n-1))/n
theorem newt_top {V n x z:Nat}(hn:1≤n)(hx:1≤x)(hz:z^n≤V):z≤newt V n x:=by
 obtain⟨m,rfl⟩:∃m,n=m+1:=⟨n-1,by omega⟩
 unfold newt
 rw [Nat.add_sub_cancel,Nat.le_div_iff_mul_le (by omega)]
 have hP:0<x^m:=Nat.pow_pos (by omega)
 have hm:=means x z m
 rcases Nat.lt_or_ge (x*m) (z*(m+1))with h|h
 ·obtain⟨d,hd⟩:∃d,z*(m+1)=x*m+d:=⟨z*(m+1)-x*m,by omega⟩
  have e1:(m+1)*(z*x^m)=x*m*x^m+d*x^m:=by
   rw [←Nat.mul_assoc,Nat.mul_comm (m+1) z,hd,Nat.add_mul]
  have e2:m*x^(m+1)=x*m*x^m:=by rw [Nat.pow_succ'];simp only [Nat.mul_assoc,Nat.mul_comm,Nat.mul_left_comm]
  rw [e1,e2]at hm
  have h3:d*x^m≤V:=by omega
  have h4:d≤V/x^m:=(Nat.le_div_iff_mul_le hP).2 h3
  omega
 ·exact Nat.le_trans h (Nat.le_add_right _ _)
theorem WhRel.next {V n X x:Nat}(h:WhRel V n X x)(hn:1≤n)(hV:1≤V)(hlt:newt V n x < x):WhRel V n X (newt V n x):=
 ⟨fun z hz=>newt_top hn h.x1 hz,newt_top hn h.x1 (by rw [Nat.one_pow];exact hV),by have:=h.xX;omega⟩
theorem WhRel.done {V n X x:Nat}(h:WhRel V n X x)(hn:1≤n)(hle:x≤newt V n x):x^n≤V∧V<(x+1)^n:=by
 refine⟨?_,?_⟩
 ·obtain⟨m,rfl⟩:∃m,n=m+1:=⟨n-1,by omega⟩
  unfold newt at hle
  rw [Nat.add_sub_cancel,Nat.le_div_iff_mul_le (by omega)]at hle
  have hP:0<x^m:=Nat.pow_pos (by have:=h.x1;omega)
  have h1:x≤V/x^m:=by rw [Nat.mul_add,Nat.mul_one]at hle;omega
  rw [Nat.le_div_iff_mul_le hP]at h1
  rw [Nat.pow_succ']
  exact h1
 ·rcases Nat.lt_or_ge V ((x+1)^n)with h1|h1
  ·exact h1
  ·have:=h.top _ h1
   omega
theorem WhRel.of {V n x:Nat}(hn:n≠0)(hV:1≤V)(h:V < (x+1)^n):WhRel V n x x:=by
 have ht:∀z,z^n≤V→z≤x:=fun z hz=>by
  rcases Nat.lt_or_ge x z with h1|h1
  ·have:=Nat.pow_le_pow_left (show x+1≤z by omega) n
   omega
  ·exact h1
 exact⟨ht,ht 1 (by rw [Nat.one_pow];exact hV),Nat.le_refl _⟩
theorem rootFrom_spec (n:Nat):∀todo r:Nat,r*r≤n→n<(r+2^todo)*(r+2^todo) →
  Ieee.Datum.rootFrom n todo r*Ieee.Datum.rootFrom n todo r≤n∧n<(Ieee.Datum.rootFrom n todo r+1)*(Ieee.Datum.rootFrom n todo r+1)
 |0,r,h1,h2=>by
  unfold Ieee.Datum.rootFrom
  rw [Nat.pow_zero]at h2
  exact⟨h1,h2⟩
 |todo+1,r,h1,h2=>by
  unfold Ieee.Datum.rootFrom
  simp only [Nat.one_shiftLeft]
  have e:r+2^(todo+1)=r+2^todo+2^todo:=by rw [Nat.pow_succ];omega
  split
  ·rename_i h
   exact rootFrom_spec n todo _ h (by rw [←e];exact h2)
  ·rename_i h
   exact rootFrom_spec n todo _ h1 (by omega)
theorem isqrt_spec {n:Nat}(hn:n≠0):Ieee.Datum.rootFrom n (n.log2/2+1) 0*Ieee.Datum.rootFrom n (n.log2/2+1) 0≤n∧n<(Ieee.Datum.rootFrom n (n.log2/2+1) 0+1)*(Ieee.Datum.rootFrom n (n.log2/2+1) 0+1):=by
 refine rootFrom_spec n _ 0 (by omega) ?_
 rw [Nat.zero_add,←Nat.pow_add]
 have h:=(log2_bounds hn).2
 exact Nat.lt_of_lt_of_le h (Nat.pow_le_pow_right (by omega) (by omega))
end Go.Proofs.YtngdldcgkaplbaaGreat.Rn
namespace Go.Proofs.YtngdldcgkaplbaaGreat
open Go.RowKit Nm Rn
noncomputable def rdNt (v:Value)(w:World):Nat:=
 open Classical in
 if h:∃x A n c,v=.slice A n c∧Wds w A n c (nd x)then Classical.choose h else 0
theorem Wds.uniqt {w:World}{A:Option Addr}{n c:Nat}{xs ys:List Nat}(h:Wds w A n c xs)(k:Wds w A n c ys):xs=ys:=by
 have hl:=h.len
 have kl:=k.len
 refine List.ext_getElem? fun i=>?_
 by_cases hi:i<n
 ·obtain⟨-,-,-,-,h5⟩:=h
  obtain⟨-,-,-,-,k5⟩:=k
  obtain⟨a,ha,-,hc⟩:=h5 (by omega)
  obtain⟨b,hb,-,kc⟩:=k5 (by omega)
  rw [ha]at hb
  injection hb with hb
  subst hb
  have e1:=hc i (xs[i]'(by omega)) (List.getElem?_eq_getElem (by omega))
  have e2:=kc i (ys[i]'(by omega)) (List.getElem?_eq_getElem (by omega))
  rw [e1]at e2
  injection e2 with e2
  injection e2 with _ e2
  rw [List.getElem?_eq_getElem (by omega),List.getElem?_eq_getElem (by omega)]
  congr 1
  omega
 ·rw [List.getElem?_eq_none (by omega),List.getElem?_eq_none (by omega)]
theorem rdNt_of {w:World}{A:Option Addr}{n c x:Nat}(h:Wds w A n c (nd x)):rdNt (.slice A n c) w=x:=by
 have hex:∃x' A' n' c',Value.slice A n c=.slice A' n' c'∧Wds w A' n' c' (nd x'):=⟨x,A,n,c,rfl,h⟩
 unfold rdNt
 rw [dif_pos hex]
 obtain⟨A',n',c',he,hW⟩:=Classical.choose_spec hex
 injection he with e1 e2 e3
 subst e1
 subst e2
 subst e3
 have:=hW.uniqt h
 have e:=congrArg nv this
 rwa [nv_nd,nv_nd]at e
theorem Wds.nwt {w:World}{A:Option Addr}{n c X:Nat}(h:Wds w A n c (nd X)):n=nw X:=by have:=h.len;rw [nd_length]at this;omega
theorem unit_listt (w:World):Wds (w.alloc (.cells #[.int .u32 1] 105)) (some ⟨w.heap.size,0,none⟩) 1 1 (nd 1):=by
 rw [show nd 1=[1] by rw [nd_pos (by omega)];simp [nd_zero]]
 refine⟨rfl,by omega,by unfold maxLen;omega,by intro x hx;simp at hx;omega,fun _=>⟨_,rfl,by simp,fun k x hk=>?_⟩⟩
 match k,hk with
 |0,hk=>simp at hk;subst hk;simp [Addr.add]
 |k+1,hk=>simp at hk
def sqF (V:Nat):Nat:=Ieee.Datum.rootFrom V (V.log2/2+1) 0
theorem sqF_spec (V:Nat):sqF V*sqF V≤V∧V<(sqF V+1)*(sqF V+1):=by
 by_cases h:V=0
 ·subst h;decide
 ·exact isqrt_spec h
theorem sqF_of {V r:Nat}(h1:r*r≤V)(h2:V < (r+1)*(r+1)):r=sqF V:=by
 obtain⟨g1,g2⟩:=sqF_spec V
 rcases Nat.lt_trichotomy r (sqF V)with h|h|h
 ·have:=Nat.mul_le_mul (show r+1≤sqF V by omega) (show r+1≤sqF V by omega);omega
 ·exact h
 ·have:=Nat.mul_le_mul (show sqF V+1≤r by omega) (show sqF V+1≤r by omega);omega
theorem newt2 (V x:Nat):newt V 2 x=(V/x+x)/2:=by
 unfold newt
 rw [Nat.pow_one,show 2-1=1 from rfl,Nat.mul_one,Nat.add_comm]
theorem half_up (V:Nat):V<(1*2^((bl V+1)/2)+1)^2:=by
 have h1:=lt_pow_bl V
 have h2:2^bl V≤2^((bl V+1)/2*2):=Nat.pow_le_pow_right (by omega) (by omega)
 rw [Nat.pow_mul]at h2
 have h3:=Nat.pow_le_pow_left (show 2^((bl V+1)/2)≤1*2^((bl V+1)/2)+1 by omega) 2
 omega
theorem bl_twr {k m:Nat}(h:k < m):bl (2^k)≤m:=by rw [bl_le_iff];exact Nat.pow_lt_pow_right (by omega) h
theorem bl_sumr {a b m:Nat}(ha:bl a≤m)(hb:bl b≤m):bl (a+b)≤m+1:=by
 rw [bl_le_iff]at ha hb ⊢
 rw [Nat.pow_succ];omega
theorem nroot_any (A:Option Addr)(n c V:Nat)(w:World)(h:Wds w A n c (nd V))(hV:1≤V)(hb:bl V≤9000) :
  Calls Tryz.prog 72 #[.slice A n c] w (fun e w'=>∃B m d,e=.returned (.tuple #[.slice B m d,.bool (decide (sqF V*sqF V=V)),.int .i64 0])∧Wds w' B m d (nd (sqF V))∧Ext w w'):=by
 have hn:=h.nwt
 have hnl:nw V≤16384:=nw_of_bl (by omega)
 have hnp:0<nw V:=by rcases Nat.eq_zero_or_pos (nw V)with e|e;exact absurd (nw_eq_zero.1 e) (by omega);exact e
 have HG:=Lib.hid (fun g w hc hw=>(nlong_one g 1 A n c V w hc hw (by omega)).mono fun e w' h=>(⟨by rw [h.1,decide_eq_false (by omega)],h.2⟩:e=.returned (.bool false)∧_))
 have HN:=Lib.hid (fun w h=>nnorm_ret A n c (nd V) w h (by omega))
 rw [nv_nd]at HN
 have HL:=Lib.hid (fun A n c w (h:Wds w A n c (nd V))=>nlen_any A n c (nd V) w h (by have:=h.nwt;omega))
 simp only [nv_nd]at HL
 obtain⟨k,hk⟩:∃k,k=(bl V+1)/2:=⟨_,rfl⟩
 have hkk:((bl V:Int)+1).tdiv 2=(k:Int):=by rw [hk,Int.tdiv_eq_ediv_of_nonneg (by omega)];omega
 have hkw:IntKind.i64.wrap ((bl V:Int)+1)=(bl V:Int)+1:=by rw [IntKind.wrap_i64];omega
 have hwk:IntKind.i64.wrap (k:Int)=(k:Int):=by rw [IntKind.wrap_i64];omega
 have hwk2:wrap64 (k:Int)=(k:Int):=by unfold wrap64;omega
 have HU:=Lib.hid (fun B m d w (h:Wds w B m d (nd 1))=>nup_any B m d (nd 1) k w h (by have:=h.nwt;rw [show nw 1=1 from rfl]at this;omega) (by omega))
 simp only [nv_nd]at HU
 have hR0:=WhRel.of (V:=V) (n:=2) (x:=1*2^k) (by omega) hV (by rw [hk];exact half_up V)
 have hXb:bl (1*2^k)≤4502:=by rw [Nat.one_mul];exact bl_twr (by omega)
 obtain⟨XX,hXX⟩:∃XX,XX=1*2^k:=⟨_,rfl⟩
 rw [←hXX]at HU hR0 hXb
 have HR0:=Lib.hid hR0
 have HQ:=Lib.hid (fun(A:Option Addr) (n c:Nat) (B:Option Addr) (m d x:Nat) (w:World) (h:Wds w A n c (nd V)) (g:Wds w B m d (nd x)) (hx:x≤XX) (h0:1≤x)=>nquo_any A n c (nd V) B m d (nd x) w h (by have:=h.nwt;omega) g (by have:=g.nwt;have:=nw_mono hx;have:=nw_of_bl (V:=XX) (by omega);omega) (by rw [nv_nd];exact hnl) (by rw [nv_nd];have:=nw_mono hx;have:=nw_of_bl (V:=XX) (by omega);omega) (by rw [nv_nd];omega))
 simp only [nv_nd]at HQ
 have hsz:∀x,x≤XX→V/x+x≤V+XX:=fun x hx=>by have:=Nat.div_le_self V x;omega
 have hsn:nw (V+XX)≤1000:=by
  have e3:bl (V+XX)≤9001:=bl_sumr hb (by omega)
  rw [nw_bl];omega
 have HA:=Lib.hid (fun(A:Option Addr) (n c:Nat) (B:Option Addr) (m d x:Nat) (w:World) (h:Wds w A n c (nd (V/x))) (g:Wds w B m d (nd x)) (hx:x≤XX)=>nadd_any A n c (nd (V/x)) B m d (nd x) w h (by have:=h.nwt;have:=nw_mono (Nat.le_trans (Nat.le_add_right (V/x) x) (hsz x hx));omega) g (by have:=g.nwt;have:=nw_mono hx;have:=nw_of_bl (V:=XX) (by omega);omega) (by rw [nv_nd];have:=nw_mono (Nat.le_trans (Nat.le_add_right (V/x) x) (hsz x hx));omega) (by rw [nv_nd];have:=nw_mono hx;have:=nw_of_bl (V:=XX) (by omega);omega) (by rw [nv_nd,nv_nd];have:=nw_mono (hsz x hx);omega))
 simp only [nv_nd]at HA
 have HD:=Lib.hid (fun(A:Option Addr) (n c x:Nat) (w:World) (h:Wds w A n c (nd (V/x+x))) (hx:x≤XX)=>ndown_any A n c (nd (V/x+x)) 1 w h (by have:=h.nwt;have:=nw_mono (hsz x hx);omega) (by omega))
 simp only [nv_nd,Nat.pow_one,←newt2,Int.natCast_one]at HD
 have HC:=Lib.hid (fun(A:Option Addr) (n c:Nat) (B:Option Addr) (m d x y:Nat) (w:World) (h:Wds w A n c (nd y)) (g:Wds w B m d (nd x)) (hy:nw y≤16384) (hx:nw x≤16384)=>ncmp_any A n c (nd y) B m d (nd x) w h (by have:=h.nwt;omega) g (by have:=g.nwt;omega))
 simp only [nv_nd]at HC
 have HM:=Lib.hid (fun(B:Option Addr) (m d x:Nat) (w:World) (g:Wds w B m d (nd x)) (hx:nw x≤16384)=>nmul_raw B m d (nd x) B m d (nd x) w g (by have:=g.nwt;omega) g (by have:=g.nwt;omega))
 simp only [nv_nd]at HM
 have HXX:Hid (nw XX≤200):=Lib.hid (by rw [nw_bl];omega)
 have HYY:Hid (∀x,x≤XX→nw (newt V 2 x)≤1000):=Lib.hid (fun x hx=>by
  rw [newt2]
  exact Nat.le_trans (nw_mono (Nat.le_trans (Nat.div_le_self _ _) (hsz x hx))) hsn)
 have HVV:=Lib.hid hV
 have HNL:=Lib.hid hnl
 obtain⟨bb,hbb⟩:∃bb:Int,bb=(bl V:Int):=⟨_,rfl⟩
 rw [←hbb]at HL hkk hkw
 have hp1:=h.alloc (.cells #[.slice A n c] 65)
 have hlec:=h.lec
 have hn0:0<n:=by omega
 have hE0:Ext w (w.alloc (.cells #[.slice A n c] 65)):=(Ext.refl w).alloc _
 have hcell0:(w.alloc (.cells #[.slice A n c] 65)).cell? ⟨w.heap.size,0,none⟩=some (.slice A n c):=by simp
 have hnp':nw V≠0:=by omega
 clear hn hnl hnp hk hR0 hXb hXX hsz hsn hbb hV hb h
 go_enter Tryz.func72,Tryz.ntmps72
 go_wp2_with fail
 generalize w.heap.size=g0 at hcell0 ⊢
 generalize w.alloc _=w1 at hp1 hE0 hcell0 ⊢
 refine(HG.out _ _ hcell0 hp1).mono ?_
 rintro e w' ⟨rfl,rfl⟩
 go_wp2_with fail
 refine(HN.out _ hp1).mono ?_
 rintro e w2 ⟨A2,n2,c2,rfl,hW2,hE2⟩
 have hn2:=hW2.nwt
 have hne:((n2:Int)==0)=false:=by rw [beq_eq_false_iff_ne];omega
 have hE02:=hE0.trans hE2
 clear hE0 hE2 hp1 hcell0 HG HN hn2
 go_wp2_with fail
 have hU2:=unit_listt w2
 have hE3:Ext w2 (w2.alloc (.cells #[.int .u32 1] 105)):=(Ext.refl w2).alloc _
 have hW3:=hW2.ext hE3
 have hE03:=hE02.trans hE3
 clear hE3 hE02 hW2
 generalize w2.heap.size=g3 at hU2 ⊢
 generalize w2.alloc _=w3 at hU2 hE03 hW3 ⊢
 refine(HL.out _ _ _ _ hW3).mono ?_
 rintro e w4 ⟨rfl,rfl⟩
 go_wp2_with fail
 refine(HU.out _ _ _ _ hU2).mono ?_
 rintro e w5 ⟨A5,n5,c5,rfl,hW5,hE5⟩
 have hWa:=hW3.ext hE5
 have hE1:=hE03.trans hE5
 clear hE03 hE5 hW3 hU2 HL HU hkk hkw hne hwk hwk2
 go_wp2_with fail
 go_loopw [5] (fun xv wr=>∃(x:Nat) (A1:Option Addr) (n1 c1:Nat),xv=.slice A1 n1 c1∧Wds wr A1 n1 c1 (nd x)∧Hid (WhRel V 2 XX x)∧Wds wr A2 n2 c2 (nd V)∧Ext w wr) (fun xv wr=>rdNt xv wr)
 case atStart=>exact⟨_,_,_,_,rfl,hW5,HR0,hWa,hE1⟩
 case round=>
  obtain⟨x,A3,n3,c3,rfl,hWx,hrel,hWr,hEr⟩:=hrel
  clear hE1 hW5 HR0 hWa
  have hxX:=hrel.out.xX
  have hx1:=hrel.out.x1
  have hnx:nw x≤16384:=by have:=nw_mono hxX;have:=HXX.out;omega
  have hny:nw (newt V 2 x)≤16384:=by have:=HYY.out x hxX;omega
  have HN':=Lib.hid (fun h=>hrel.out.next (by omega) HVV.out h)
  have HD':=Lib.hid (fun h=>hrel.out.done (by omega) h)
  have hM2:=rdNt_of hWx
  go_wp2_with fail
  refine(HQ.out _ _ _ _ _ _ x _ hWr hWx hxX hx1).mono ?_
  rintro e w2 ⟨A4,n4,c4,A4',n4',c4',rfl,hW4,-,hE4⟩
  have hWx2:=hWx.ext hE4
  have hWr2:=hWr.ext hE4
  have hEr2:=hEr.trans hE4
  clear hE4 hWx hWr hEr
  go_wp2_with fail
  refine(HA.out _ _ _ _ _ _ x _ hW4 hWx2 hxX).mono ?_
  rintro e w3 ⟨A5,n5,c5,rfl,hW5,hE5⟩
  have hWx3:=hWx2.ext hE5
  have hWr3:=hWr2.ext hE5
  have hEr3:=hEr2.trans hE5
  clear hE5 hWx2 hWr2 hEr2 hW4
  go_wp2_with fail
  refine(HD.out _ _ _ x _ hW5 hxX).mono ?_
  rintro e w4 ⟨A6,n6,c6,rfl,hW6,hE6⟩
  have hWx4:=hWx3.ext hE6
  have hWr4:=hWr3.ext hE6
  have hEr4:=hEr3.trans hE6
  clear hE6 hWx3 hWr3 hEr3 hW5
  go_wp2_with fail
  refine(HC.out _ _ _ _ _ _ x _ _ hW6 hWx4 hny hnx).mono ?_
  rintro e w12 ⟨rfl,z,rfl⟩
  have hWx:=hWx4.drewN z
  have hW6:=hW6.drewN z
  have hWr:=hWr4.drewN z
  have hEr:=hEr4.drewN z
  clear hWx4 hWr4 hEr4
  generalize w4.drewN z=w12 at hWx hW6 hWr hEr ⊢
  generalize newt V 2 x=y at *
  by_cases hlt:y<x
  ·have hcc:cmpN y x=-1:=by unfold cmpN;rw [if_pos hlt]
   rw [hcc]
   have HR2:=Lib.hid (HN'.out hlt)
   have hM1:=rdNt_of hW6
   go_wp2
   go_roundw
   case rel=>exact⟨_,_,_,_,rfl,hW6,HR2,hWr,hEr⟩
   case measure=>
    show rdNt (.slice A6 n6 c6) w12<rdNt (.slice A3 n3 c3) wr
    rw [hM1,hM2]
    exact hlt
  ·have hge:(0:Int)≤cmpN y x:=by unfold cmpN;rw [if_neg hlt];split<;>omega
   have hcc:decide (0≤cmpN y x)=true:=decide_eq_true hge
   have hF:=HD'.out (by omega)
   have HRX:Hid (x=sqF V):=Lib.hid (sqF_of (by rw [←Nat.pow_two];exact hF.1) (by rw [←Nat.pow_two];exact hF.2))
   generalize cmpN y x=cc at *
   clear hlt hF HD' HN' hge hM2 hW6 hny
   go_wp2_with fail
   refine(HM.out _ _ _ x _ hWx hnx).mono ?_
   rintro e w6 ⟨g7,L,rfl,hR,hL,hl,hv,-,hE7⟩
   have hWx6:=hWx.ext hE7
   have hWr6:=hWr.ext hE7
   have hEr6:=hEr.trans hE7
   clear hWx hWr hEr hE7
   go_wp2_with fail
   have hn3:=hWx6.nwt
   refine(ncut_any _ _ _ _ _ (hR.wds hL hl (Nat.le_refl _) (by unfold maxLen;omega)) (by omega)).mono ?_
   rintro e w7 ⟨A8,n8,c8,rfl,hW8,hE8⟩
   rw [hv]at hW8
   have hWx7:=hWx6.ext hE8
   have hWr7:=hWr6.ext hE8
   have hEr7:=hEr6.trans hE8
   clear hWx6 hWr6 hEr6 hE8 hR hL hl hv hn3
   have hxx:x*x≤V:=by rw [HRX.out];exact(sqF_spec V).1
   have hnxx:nw (x*x)≤16384:=Nat.le_trans (nw_mono hxx) HNL.out
   go_wp2_with fail
   refine(HC.out _ _ _ _ _ _ V (x*x) _ hW8 hWr7 hnxx HNL.out).mono ?_
   rintro e w9 ⟨rfl,q,rfl⟩
   have hcz:(cmpN (x*x) V==0)=decide (sqF V*sqF V=V):=by
    rw [←HRX.out,Bool.eq_iff_iff,beq_iff_eq,decide_eq_true_iff]
    unfold cmpN
    split
    ·omega
    ·split<;>omega
   go_wp2_with fail
   go_ret3
   refine⟨_,_,_,rfl,?_,hEr7.drewN q⟩
   rw [←HRX.out]
   exact hWx7.drewN q
theorem nroot_zero (A:Option Addr)(n c:Nat)(w:World)(h:Wds w A n c (nd 0)) :
  Calls Tryz.prog 72 #[.slice A n c] w (fun e w'=>∃B m d,e=.returned (.tuple #[.slice B m d,.bool true,.int .i64 0])∧Wds w' B m d (nd 0)∧Ext w w'):=by
 have hn:=h.nwt
 rw [nw_zero]at hn
 have HG:=Lib.hid (fun g w hc hw=>(nlong_one g 1 A n c 0 w hc hw (by omega)).mono fun e w' h=>(⟨by rw [h.1,decide_eq_false (by rw [nw_zero];omega)],h.2⟩:e=.returned (.bool false)∧_))
 have HN:=Lib.hid (fun w h=>nnorm_ret A n c (nd 0) w h (by omega))
 rw [nv_nd]at HN
 have hp1:=h.alloc (.cells #[.slice A n c] 65)
 have hE0:Ext w (w.alloc (.cells #[.slice A n c] 65)):=(Ext.refl w).alloc _
 have hcell0:(w.alloc (.cells #[.slice A n c] 65)).cell? ⟨w.heap.size,0,none⟩=some (.slice A n c):=by simp
 clear h hn
 go_enter Tryz.func72,Tryz.ntmps72
 go_wp2_with fail
 generalize w.heap.size=g0 at hcell0 ⊢
 generalize w.alloc _=w1 at hp1 hE0 hcell0 ⊢
 refine(HG.out _ _ hcell0 hp1).mono ?_
 rintro e w' ⟨rfl,rfl⟩
 go_wp2_with fail
 refine(HN.out _ hp1).mono ?_
 rintro e w2 ⟨A2,n2,c2,rfl,hW2,hE2⟩
 have hn2:=hW2.nwt
 rw [nw_zero]at hn2
 subst hn2
 have hE02:=hE0.trans hE2
 clear hE0 hE2 hp1 hcell0 HG HN
 go_wp2_with fail
 go_ret3
 refine⟨none,0,0,rfl,?_,hE02⟩
 rw [nd_zero]
 exact Wds.nil_ (by unfold maxLen;omega)
end Go.Proofs.YtngdldcgkaplbaaGreat