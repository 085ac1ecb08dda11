import Derived.Test.YtngdldcgkaplbaaGreatK21
set_option linter.unusedVariables false
set_option linter.unusedSimpArgs false
set_option maxHeartbeats 40000000
set_option maxRecDepth 100000
namespace Go.Proofs.YtngdldcgkaplbaaGreat.Fd
open Go Go.RowKit Go.Conc Nm Rn
open Gt hiding Sm
def _root_.Go.Proofs.YtngdldcgkaplbaaGreat.Sm.put (S:Sm)(t:Tm):Sm:=if t.b then S.mul t.x t.y else S.add t.x
def _root_.Go.Proofs.YtngdldcgkaplbaaGreat.Tm.Ok (t:Tm):Prop:=t.x<18446744073709551616∧t.y<18446744073709551616
theorem put_ok {S:Sm}{t:Tm}(h:S.Ok)(ht:t.Ok):(S.put t).Ok:=by
 unfold Sm.put
 split
 ·exact h.mul ht.1 ht.2
 ·exact h.add ht.1
def prodT (x y:Nat):Tm:=if eqB x 0||eqB y 0 then⟨0,0,false⟩else if isInf x||isInf y then⟨mulR 0 x y,0,false⟩else⟨x,y,true⟩
def lessT (t u:Tm):Bool:=if !t.b&&!u.b then ltB t.x u.x else decide ((((Sm.nil.put u).neg).put t).sign<0)
theorem prodT_ok {x y:Nat}(hx:x < 18446744073709551616)(hy:y < 18446744073709551616):(prodT x y).Ok:=by
 unfold prodT Tm.Ok
 split
 ·exact⟨by decide,by decide⟩
 ·split
  ·rename_i h
   exact⟨mulR_odd_lt hx hy (by unfold oddP;revert h;cases isInf x<;>cases isInf y<;>simp),Nat.zero_lt_succ _⟩
  ·exact⟨hx,hy⟩
section
variable {w0 w:World} {L:List Bx} {W:List Sw} {B k:Nat} {T:TypeId} {A C:List Value}
theorem put_eq (S:Sm)(x y:Nat)(c:Bool)(hg:gz≤w0.heap.size)(hA:A.length=k)(ht:S.t≤4611686018427387904)(hx:x < 18446744073709551616)(hy:y < 18446744073709551616)(hO:Own w0 (⟨B,T,A++S.cs++C⟩::L) W w) :
  Calls Tryz.prog 145 #[.agg #[.float .f64 x,.float .f64 y,.bool c],.pointer (some ⟨B,k,none⟩)] w fun e w'=>e=.returned (.tuple #[])∧Own w0 (⟨B,T,A++(S.put ⟨x,y,c⟩).cs++C⟩::L) W w':=by
 have HMU:=Lib.hid (fun w L h=>imul (w0:=w0) (w:=w) (L:=L) (W:=W) (B:=B) (T:=T) (A:=A) (C:=C) S x y hg hA ht hx hy h)
 have HAD:=Lib.hid (fun w L h=>iadd (w0:=w0) (w:=w) (L:=L) (W:=W) (B:=B) (T:=T) (A:=A) (C:=C) S x hg hA ht hx h)
 clear ht hx hy hg hA
 have hf:True:=trivial
 unfold Sm.put
 simp only
 obtain⟨cs,hcs⟩:∃cs,cs=A++S.cs++C:=⟨_,rfl⟩
 cases c
 ·rw [if_neg (by simp)]
  obtain⟨ds,hds⟩:∃ds,ds=A++(S.add x).cs++C:=⟨_,rfl⟩
  rw [←hcs]at HAD HMU hO
  rw [←hds]at HAD ⊢
  clear HMU
  go_enter Tryz.func145,Tryz.ntmps145
  go_wp2_with (first|((with_reducible refine at_box ?_);refine own_box (cs:=[.float .f64 x,.float .f64 y,.bool false]) hO rfl rfl ?_;clear hO;intro g3 wa hO;clear hf;have hf:=hO.cells;simp only [BC,CC,and_true]at hf)|(go_at_call 14;(with_reducible refine(HAD.out _ _ hO.swap).mono ?_);rintro e w1 ⟨rfl,hO1⟩;clear hO hf;have hO:=hO1.drop2;clear hO1))
  go_end0
  exact⟨rfl,hO⟩
 ·rw [if_pos rfl]
  obtain⟨ds,hds⟩:∃ds,ds=A++(S.mul x y).cs++C:=⟨_,rfl⟩
  rw [←hcs]at HAD HMU hO
  rw [←hds]at HMU ⊢
  clear HAD
  go_enter Tryz.func145,Tryz.ntmps145
  go_wp2_with (first|((with_reducible refine at_box ?_);refine own_box (cs:=[.float .f64 x,.float .f64 y,.bool true]) hO rfl rfl ?_;clear hO;intro g3 wa hO;clear hf;have hf:=hO.cells;simp only [BC,CC,and_true]at hf)|(go_at_call 15;(with_reducible refine(HMU.out _ _ hO.swap).mono ?_);rintro e w1 ⟨rfl,hO1⟩;clear hO hf;have hO:=hO1.drop2;clear hO1))
  go_end0
  exact⟨rfl,hO⟩
theorem put_any (S:Sm)(t:Tm)(hg:gz≤w0.heap.size)(hA:A.length=k)(ht:S.t≤4611686018427387904)(h:t.Ok)(hO:Own w0 (⟨B,T,A++S.cs++C⟩::L) W w) :
  Calls Tryz.prog 145 #[t.v,.pointer (some ⟨B,k,none⟩)] w fun e w'=>e=.returned (.tuple #[])∧Own w0 (⟨B,T,A++(S.put t).cs++C⟩::L) W w':=put_eq S t.x t.y t.b hg hA ht h.1 h.2 hO
end
theorem product_a (x y r:Nat)(w:World)(qx:(FloatKind.f64.format.order x 0 == some .eq)=true) :
  Calls Tryz.prog 148 #[.float .f64 x,.float .f64 y] w fun e w'=>e=.returned (.agg #[.float .f64 0,.float .f64 0,.bool false])∧Ext w w':=by
 have hO:=Own.start w
 have hf:True:=trivial
 go_enter Tryz.func148,Tryz.ntmps148
 go_wp2_with (first|((with_reducible refine at_alloc ?_);refine own_alloc hO zero_tm rfl rfl ?_;clear hO;intro g w1 hO;clear hf;have hf:=hO.cells;simp only [BC,CC,and_true]at hf)|((with_reducible refine at_store (T:=124) ?_);refine own_put0 (vs:=[.float .f64 0,.float .f64 0,.bool false]) (T:=124) hO rfl rfl size_tm rfl rfl rfl ?_;clear hO;intro w2 hO;clear hf;have hf:=hO.cells;simp only [BC,CC,and_true]at hf))
 exact own_ret hO 0 rfl rfl rfl agg_tm size_tm rfl ⟨rfl,hO.toExt⟩
theorem product_b (x y r:Nat)(w:World)(qx:(FloatKind.f64.format.order x 0 == some .eq)=false)(qy:(FloatKind.f64.format.order y 0 == some .eq)=true) :
  Calls Tryz.prog 148 #[.float .f64 x,.float .f64 y] w fun e w'=>e=.returned (.agg #[.float .f64 0,.float .f64 0,.bool false])∧Ext w w':=by
 have hO:=Own.start w
 have hf:True:=trivial
 go_enter Tryz.func148,Tryz.ntmps148
 go_wp2_with (first|((with_reducible refine at_alloc ?_);refine own_alloc hO zero_tm rfl rfl ?_;clear hO;intro g w1 hO;clear hf;have hf:=hO.cells;simp only [BC,CC,and_true]at hf)|((with_reducible refine at_store (T:=124) ?_);refine own_put0 (vs:=[.float .f64 0,.float .f64 0,.bool false]) (T:=124) hO rfl rfl size_tm rfl rfl rfl ?_;clear hO;intro w2 hO;clear hf;have hf:=hO.cells;simp only [BC,CC,and_true]at hf))
 exact own_ret hO 0 rfl rfl rfl agg_tm size_tm rfl ⟨rfl,hO.toExt⟩
theorem product_c (x y r:Nat)(w:World)(qx:(FloatKind.f64.format.order x 0 == some .eq)=false)(qy:(FloatKind.f64.format.order y 0 == some .eq)=false)(Hx:Hid (∀ w,Calls Tryz.prog 58 #[.float .f64 x,.int .i64 0] w fun e w'=>e=.returned (.bool true)∧w=w'))(hm:∀ w,(binOp .mul 27 (.float .f64 x) (.float .f64 y)).run Tryz.prog w=.ok (.float .f64 r) w) :
  Calls Tryz.prog 148 #[.float .f64 x,.float .f64 y] w fun e w'=>e=.returned (.agg #[.float .f64 r,.float .f64 0,.bool false])∧Ext w w':=by
 have hO:=Own.start w
 have hf:True:=trivial
 go_enter Tryz.func148,Tryz.ntmps148
 go_wp2_with (first|((with_reducible refine at_alloc ?_);refine own_alloc hO zero_tm rfl rfl ?_;clear hO;intro g w1 hO;clear hf;have hf:=hO.cells;simp only [BC,CC,and_true]at hf)|((with_reducible refine at_store (T:=124) ?_);refine own_put0 (vs:=[.float .f64 r,.float .f64 0,.bool false]) (T:=124) hO rfl rfl size_tm rfl rfl rfl ?_;clear hO;intro w2 hO;clear hf;have hf:=hO.cells;simp only [BC,CC,and_true]at hf)|(go_at_call 58;(with_reducible refine(Hx.out _).mono ?_);rintro e w5 ⟨rfl,rfl⟩))
 exact own_ret hO 0 rfl rfl rfl agg_tm size_tm rfl ⟨rfl,hO.toExt⟩
theorem product_d (x y r:Nat)(w:World)(qx:(FloatKind.f64.format.order x 0 == some .eq)=false)(qy:(FloatKind.f64.format.order y 0 == some .eq)=false)(Hx:Hid (∀ w,Calls Tryz.prog 58 #[.float .f64 x,.int .i64 0] w fun e w'=>e=.returned (.bool false)∧w=w'))(Hy:Hid (∀ w,Calls Tryz.prog 58 #[.float .f64 y,.int .i64 0] w fun e w'=>e=.returned (.bool true)∧w=w'))(hm:∀ w,(binOp .mul 27 (.float .f64 x) (.float .f64 y)).run Tryz.prog w=.ok (.float .f64 r) w) :
  Calls Tryz.prog 148 #[.float .f64 x,.float .f64 y] w fun e w'=>e=.returned (.agg #[.float .f64 r,.float .f64 0,.bool false])∧Ext w w':=by
 have hO:=Own.start w
 have hf:True:=trivial
 go_enter Tryz.func148,Tryz.ntmps148
 go_wp2_with (first|((with_reducible refine at_alloc ?_);refine own_alloc hO zero_tm rfl rfl ?_;clear hO;intro g w1 hO;clear hf;have hf:=hO.cells;simp only [BC,CC,and_true]at hf)|((with_reducible refine at_store (T:=124) ?_);refine own_put0 (vs:=[.float .f64 r,.float .f64 0,.bool false]) (T:=124) hO rfl rfl size_tm rfl rfl rfl ?_;clear hO;intro w2 hO;clear hf;have hf:=hO.cells;simp only [BC,CC,and_true]at hf)|(go_at_call 58;(with_reducible refine(Hx.out _).mono ?_);rintro e w5 ⟨rfl,rfl⟩)|(go_at_call 58;(with_reducible refine(Hy.out _).mono ?_);rintro e w5 ⟨rfl,rfl⟩))
 exact own_ret hO 0 rfl rfl rfl agg_tm size_tm rfl ⟨rfl,hO.toExt⟩
theorem product_e (x y r:Nat)(w:World)(qx:(FloatKind.f64.format.order x 0 == some .eq)=false)(qy:(FloatKind.f64.format.order y 0 == some .eq)=false)(Hx:Hid (∀ w,Calls Tryz.prog 58 #[.float .f64 x,.int .i64 0] w fun e w'=>e=.returned (.bool false)∧w=w'))(Hy:Hid (∀ w,Calls Tryz.prog 58 #[.float .f64 y,.int .i64 0] w fun e w'=>e=.returned (.bool false)∧w=w')) :
  Calls Tryz.prog 148 #[.float .f64 x,.float .f64 y] w fun e w'=>e=.returned (.agg #[.float .f64 x,.float .f64 y,.bool true])∧Ext w w':=by
 have hO:=Own.start w
 have hf:True:=trivial
 go_enter Tryz.func148,Tryz.ntmps148
 go_wp2_with (first|((with_reducible refine at_alloc ?_);refine own_alloc hO zero_tm rfl rfl ?_;clear hO;intro g w1 hO;clear hf;have hf:=hO.cells;simp only [BC,CC,and_true]at hf)|((with_reducible refine at_store (T:=124) ?_);refine own_put0 (vs:=[.float .f64 x,.float .f64 y,.bool true]) (T:=124) hO rfl rfl size_tm rfl rfl rfl ?_;clear hO;intro w2 hO;clear hf;have hf:=hO.cells;simp only [BC,CC,and_true]at hf)|(go_at_call 58;(with_reducible refine(Hx.out _).mono ?_);rintro e w5 ⟨rfl,rfl⟩)|(go_at_call 58;(with_reducible refine(Hy.out _).mono ?_);rintro e w5 ⟨rfl,rfl⟩))
 exact own_ret hO 0 rfl rfl rfl agg_tm size_tm rfl ⟨rfl,hO.toExt⟩
theorem eqB_zero {y:Nat}(h:eqB y 0=false)(hn:isNaN y=false):mg y≠0:=by
 intro h0
 unfold eqB key mg at *
 rw [hn]at h
 revert h
 simp [h0,isNaN,mg]
 done
theorem mul_inf {x y:Nat}(hx:x < 18446744073709551616)(hy:y < 18446744073709551616)(nx:isNaN x=false)(ny:isNaN y=false)(zx:eqB x 0=false)(zy:eqB y 0=false)(hi:(isInf x || isInf y)=true)(w:World) :
  (binOp .mul 27 (.float .f64 x) (.float .f64 y)).run Tryz.prog w=.ok (.float .f64 (mulR 0 x y)) w:=by
 have h1:=eqB_zero zx nx
 have h2:=eqB_zero zy ny
 have e:mulR 0 x y=infP (sg x != sg y):=by
  unfold mulR
  rw [nx,ny,hi,if_neg (by simp),if_pos rfl,if_neg (by omega)]
 rcases mul_odd hx hy (by rw [nx,ny];revert hi;cases isInf x<;>cases isInf y<;>simp)with ⟨_,h3⟩|⟨s,h3,h4⟩
 ·have:=h3 0
  rw [e]at this
  exact absurd this (by unfold infP;cases (sg x != sg y)<;>decide)
 ·rw [h4 0]
  exact run_some h3 w
theorem product_any (x y:Nat)(w:World)(hx:x < 18446744073709551616)(hy:y < 18446744073709551616)(nx:isNaN x=false)(ny:isNaN y=false) :
  Calls Tryz.prog 148 #[.float .f64 x,.float .f64 y] w fun e w'=>e=.returned (prodT x y).v∧Ext w w':=by
 have q1:=fo_eq hx (show 0<18446744073709551616 by omega)
 have q2:=fo_eq hy (show 0<18446744073709551616 by omega)
 have HX:=fun w=>misinf_any x w hx
 have HY:=fun w=>misinf_any y w hy
 unfold prodT
 cases zx:eqB x 0
 ·rw [zx]at q1
  cases zy:eqB y 0
  ·rw [zy]at q2
   rw [if_neg (by simp)]
   have hm:=mul_inf hx hy nx ny zx zy
   cases ix:isInf x
   ·rw [ix]at HX hm
    cases iy:isInf y
    ·rw [iy]at HY
     rw [if_neg (by simp)]
     exact product_e x y 0 w q1 q2 (Lib.hid HX) (Lib.hid HY)
    ·rw [iy]at HY hm
     rw [if_pos (by simp)]
     exact product_d x y _ w q1 q2 (Lib.hid HX) (Lib.hid HY) (hm rfl)
   ·rw [ix]at HX hm
    rw [if_pos (by simp)]
    exact product_c x y _ w q1 q2 (Lib.hid HX) (hm rfl)
  ·rw [zy]at q2
   rw [if_pos (by simp)]
   exact product_b x y 0 w q1 q2
 ·rw [zx]at q1
  rw [if_pos (by simp)]
  exact product_a x y 0 w q1
section
variable {w0 w:World} {L:List Bx} {W:List Sw} {B:Nat} {T:TypeId}
theorem put0 (S:Sm)(t:Tm)(hg:gz≤w0.heap.size)(ht:S.t≤4611686018427387904)(h:t.Ok)(hO:Own w0 (⟨B,T,S.cs⟩::L) W w) :
  Calls Tryz.prog 145 #[t.v,.pointer (some ⟨B,0,none⟩)] w fun e w'=>e=.returned (.tuple #[])∧Own w0 (⟨B,T,(S.put t).cs⟩::L) W w':=by
 have:=put_any (A:=[]) (C:=[]) (k:=0) S t hg rfl ht h (by rw [List.nil_append,List.append_nil];exact hO)
 rw [List.nil_append,List.append_nil]at this
 exact this
theorem put0e (S:Sm)(x y:Nat)(c:Bool)(hg:gz≤w0.heap.size)(ht:S.t≤4611686018427387904)(h1:x < 18446744073709551616)(h2:y < 18446744073709551616)(hO:Own w0 (⟨B,T,S.cs⟩::L) W w) :
  Calls Tryz.prog 145 #[.agg #[.float .f64 x,.float .f64 y,.bool c],.pointer (some ⟨B,0,none⟩)] w fun e w'=>e=.returned (.tuple #[])∧Own w0 (⟨B,T,(S.put ⟨x,y,c⟩).cs⟩::L) W w':=put0 S ⟨x,y,c⟩ hg ht ⟨h1,h2⟩ hO
end
theorem less_a (tx ty ux uy:Nat)(w:World)(hx:tx < 18446744073709551616)(hy:ux < 18446744073709551616) :
  Calls Tryz.prog 149 #[.agg #[.float .f64 tx,.float .f64 ty,.bool false],.agg #[.float .f64 ux,.float .f64 uy,.bool false]] w fun e w'=>e=.returned (.bool (ltB tx ux))∧Ext w w':=by
 have hO:=Own.start w
 have hf:True:=trivial
 have q:=fo_lt hx hy
 clear hx hy
 go_enter Tryz.func149,Tryz.ntmps149
 go_wp2_with (first|((with_reducible refine at_box ?_);refine own_box (cs:=[.float .f64 tx,.float .f64 ty,.bool false]) hO rfl rfl ?_;clear hO;intro g2 wa hO;clear hf;have hf:=hO.cells;simp only [BC,CC,and_true]at hf)|((with_reducible refine at_box ?_);refine own_box (cs:=[.float .f64 ux,.float .f64 uy,.bool false]) hO rfl rfl ?_;clear hO;intro g3 wb hO;clear hf;have hf:=hO.cells;simp only [BC,CC,and_true]at hf))
 go_ret
 exact⟨rfl,hO.toExt⟩
theorem less_b (tx ty ux uy:Nat)(w:World)(ub:Bool)(hg:gz≤w.heap.size)(h1:tx < 18446744073709551616)(h2:ty < 18446744073709551616)(h3:ux < 18446744073709551616)(h4:uy < 18446744073709551616) :
  Calls Tryz.prog 149 #[.agg #[.float .f64 tx,.float .f64 ty,.bool true],.agg #[.float .f64 ux,.float .f64 uy,.bool ub]] w fun e w'=>e=.returned (.bool (decide ((((Sm.nil.put ⟨ux,uy,ub⟩).neg).put ⟨tx,ty,true⟩).sign<0)))∧Ext w w':=by
 have hO:=Own.start w
 have hf:True:=trivial
 have k1:(Sm.nil.put ⟨ux,uy,ub⟩).Ok:=put_ok Sm.Ok.nil ⟨h3,h4⟩
 have k2:(Sm.nil.put ⟨ux,uy,ub⟩).neg.Ok:=k1.neg
 have k3:((Sm.nil.put ⟨ux,uy,ub⟩).neg.put ⟨tx,ty,true⟩).Ok:=put_ok k2 ⟨h1,h2⟩
 have HP1:=Lib.hid (fun g w1 L h=>put0e (w0:=w) (w:=w1) (L:=L) (W:=[]) (B:=g) (T:=84) Sm.nil ux uy ub hg Sm.Ok.nil.1 h3 h4 h)
 have HN:=Lib.hid (fun g w1 L h=>tneg_any (w0:=w) (w:=w1) (L:=L) (W:=[]) (TY:=84) (g:=g) (Sm.nil.put ⟨ux,uy,ub⟩) h)
 have HP2:=Lib.hid (fun g w1 L h=>put0e (w0:=w) (w:=w1) (L:=L) (W:=[]) (B:=g) (T:=84) (Sm.nil.put ⟨ux,uy,ub⟩).neg tx ty true hg k2.1 h1 h2 h)
 have HS:=Lib.hid (fun g w1 L h=>tsign_any (w0:=w) (w:=w1) (L:=L) (W:=[]) (TY:=84) (g:=g) ((Sm.nil.put ⟨ux,uy,ub⟩).neg.put ⟨tx,ty,true⟩) k3.fit h)
 clear k1 k2 k3 h1 h2 h3 h4 hg
 generalize (Sm.nil.put ⟨ux,uy,ub⟩).neg.put ⟨tx,ty,true⟩=S3 at *
 generalize (Sm.nil.put ⟨ux,uy,ub⟩).neg=S2 at *
 generalize Sm.nil.put ⟨ux,uy,ub⟩=S1 at *
 obtain⟨sgn,hsg⟩:∃s,s=S3.sign:=⟨_,rfl⟩
 rw [←hsg]at HS ⊢
 clear hsg
 go_enter Tryz.func149,Tryz.ntmps149
 go_wp2_with (first|((with_reducible refine at_box ?_);refine own_box (cs:=[.float .f64 tx,.float .f64 ty,.bool true]) hO rfl rfl ?_;clear hO;intro g2 wa hO;clear hf;have hf:=hO.cells;simp only [BC,CC,and_true]at hf)|((with_reducible refine at_box ?_);refine own_box (cs:=[.float .f64 ux,.float .f64 uy,.bool ub]) hO rfl rfl ?_;clear hO;intro g3 wb hO;clear hf;have hf:=hO.cells;simp only [BC,CC,and_true]at hf)|((with_reducible refine at_alloc (T:=84) ?_);refine own_alloc hO zero_sum rfl sc_noU ?_;clear hO;intro g wc hO;rw [←Sm.nil_cs]at hO;clear hf;have hf:=hO.cells;simp only [BC,CC,and_true]at hf)|(go_at_call 145;(with_reducible refine(HP1.out _ _ _ hO).mono ?_);rintro e w1 ⟨rfl,hO1⟩;clear hO hf;have hO:=hO1;clear hO1;have hf:=hO.cells;simp only [BC,CC,and_true]at hf)|(go_at_call 114;(with_reducible refine(HN.out _ _ _ hO).mono ?_);rintro e w1 ⟨rfl,hO1⟩;clear hO hf;have hO:=hO1;clear hO1;have hf:=hO.cells;simp only [BC,CC,and_true]at hf)|(go_at_call 145;(with_reducible refine(HP2.out _ _ _ hO).mono ?_);rintro e w1 ⟨rfl,hO1⟩;clear hO hf;have hO:=hO1;clear hO1;have hf:=hO.cells;simp only [BC,CC,and_true]at hf)|(go_at_call 70;(with_reducible refine(HS.out _ _ _ hO).mono ?_);rintro e w1 ⟨rfl,rfl⟩))
 go_ret
 exact⟨rfl,hO.toExt⟩
theorem less_c (tx ty ux uy:Nat)(w:World)(hg:gz≤w.heap.size)(h1:tx < 18446744073709551616)(h2:ty < 18446744073709551616)(h3:ux < 18446744073709551616)(h4:uy < 18446744073709551616) :
  Calls Tryz.prog 149 #[.agg #[.float .f64 tx,.float .f64 ty,.bool false],.agg #[.float .f64 ux,.float .f64 uy,.bool true]] w fun e w'=>e=.returned (.bool (decide ((((Sm.nil.put ⟨ux,uy,true⟩).neg).put ⟨tx,ty,false⟩).sign<0)))∧Ext w w':=by
 have hO:=Own.start w
 have hf:True:=trivial
 have k1:(Sm.nil.put ⟨ux,uy,true⟩).Ok:=put_ok Sm.Ok.nil ⟨h3,h4⟩
 have k2:(Sm.nil.put ⟨ux,uy,true⟩).neg.Ok:=k1.neg
 have k3:((Sm.nil.put ⟨ux,uy,true⟩).neg.put ⟨tx,ty,false⟩).Ok:=put_ok k2 ⟨h1,h2⟩
 have HP1:=Lib.hid (fun g w1 L h=>put0e (w0:=w) (w:=w1) (L:=L) (W:=[]) (B:=g) (T:=84) Sm.nil ux uy true hg Sm.Ok.nil.1 h3 h4 h)
 have HN:=Lib.hid (fun g w1 L h=>tneg_any (w0:=w) (w:=w1) (L:=L) (W:=[]) (TY:=84) (g:=g) (Sm.nil.put ⟨ux,uy,true⟩) h)
 have HP2:=Lib.hid (fun g w1 L h=>put0e (w0:=w) (w:=w1) (L:=L) (W:=[]) (B:=g) (T:=84) (Sm.nil.put ⟨ux,uy,true⟩).neg tx ty false hg k2.1 h1 h2 h)
 have HS:=Lib.hid (fun g w1 L h=>tsign_any (w0:=w) (w:=w1) (L:=L) (W:=[]) (TY:=84) (g:=g) ((Sm.nil.put ⟨ux,uy,true⟩).neg.put ⟨tx,ty,false⟩) k3.fit h)
 clear k1 k2 k3 h1 h2 h3 h4 hg
 generalize (Sm.nil.put ⟨ux,uy,true⟩).neg.put ⟨tx,ty,false⟩=S3 at *
 generalize (Sm.nil.put ⟨ux,uy,true⟩).neg=S2 at *
 generalize Sm.nil.put ⟨ux,uy,true⟩=S1 at *
 obtain⟨sgn,hsg⟩:∃s,s=S3.sign:=⟨_,rfl⟩
 rw [←hsg]at HS ⊢
 clear hsg
 go_enter Tryz.func149,Tryz.ntmps149
 go_wp2_with (first|((with_reducible refine at_box ?_);refine own_box (cs:=[.float .f64 tx,.float .f64 ty,.bool false]) hO rfl rfl ?_;clear hO;intro g2 wa hO;clear hf;have hf:=hO.cells;simp only [BC,CC,and_true]at hf)|((with_reducible refine at_box ?_);refine own_box (cs:=[.float .f64 ux,.float .f64 uy,.bool true]) hO rfl rfl ?_;clear hO;intro g3 wb hO;clear hf;have hf:=hO.cells;simp only [BC,CC,and_true]at hf)|((with_reducible refine at_alloc (T:=84) ?_);refine own_alloc hO zero_sum rfl sc_noU ?_;clear hO;intro g wc hO;rw [←Sm.nil_cs]at hO;clear hf;have hf:=hO.cells;simp only [BC,CC,and_true]at hf)|(go_at_call 145;(with_reducible refine(HP1.out _ _ _ hO).mono ?_);rintro e w1 ⟨rfl,hO1⟩;clear hO hf;have hO:=hO1;clear hO1;have hf:=hO.cells;simp only [BC,CC,and_true]at hf)|(go_at_call 114;(with_reducible refine(HN.out _ _ _ hO).mono ?_);rintro e w1 ⟨rfl,hO1⟩;clear hO hf;have hO:=hO1;clear hO1;have hf:=hO.cells;simp only [BC,CC,and_true]at hf)|(go_at_call 145;(with_reducible refine(HP2.out _ _ _ hO).mono ?_);rintro e w1 ⟨rfl,hO1⟩;clear hO hf;have hO:=hO1;clear hO1;have hf:=hO.cells;simp only [BC,CC,and_true]at hf)|(go_at_call 70;(with_reducible refine(HS.out _ _ _ hO).mono ?_);rintro e w1 ⟨rfl,rfl⟩))
 go_ret
 exact⟨rfl,hO.toExt⟩
theorem less_any (t u:Tm)(w:World)(hg:gz≤w.heap.size)(ht:t.Ok)(hu:u.Ok) :
  Calls Tryz.prog 149 #[t.v,u.v] w fun e w'=>e=.returned (.bool (lessT t u))∧Ext w w':=by
 obtain⟨tx,ty,tb⟩:=t
 obtain⟨ux,uy,ub⟩:=u
 cases tb
 ·cases ub
  ·exact less_a tx ty ux uy w ht.1 hu.1
  ·exact less_c tx ty ux uy w hg ht.1 ht.2 hu.1 hu.2
 ·exact less_b tx ty ux uy w ub hg ht.1 ht.2 hu.1 hu.2
theorem less_e (tx ty ux uy:Nat)(tb ub:Bool)(w:World)(hg:gz≤w.heap.size)(ht:(⟨tx,ty,tb⟩:Tm).Ok)(hu:(⟨ux,uy,ub⟩:Tm).Ok) :
  Calls Tryz.prog 149 #[.agg #[.float .f64 tx,.float .f64 ty,.bool tb],.agg #[.float .f64 ux,.float .f64 uy,.bool ub]] w fun e w'=>e=.returned (.bool (lessT ⟨tx,ty,tb⟩ ⟨ux,uy,ub⟩))∧Ext w w':=less_any _ _ w hg ht hu
def loT (t:Tm)(ts:List Tm):Tm:=ts.foldl (fun l u=>if lessT u l then u else l) t
def hiT (t:Tm)(ts:List Tm):Tm:=ts.foldl (fun h u=>if lessT h u then u else h) t
def prodsT (a b c d:Nat):Tm×Tm×Bool:=
 if(eqB a infR&&eqB b minf)||(eqB c infR&&eqB d minf)then(⟨0,0,false⟩,⟨0,0,false⟩,true)
 else(loT (prodT a c) [prodT a d,prodT b c,prodT b d],hiT (prodT a c) [prodT a d,prodT b c,prodT b d],false)
theorem idx3 (x0 y0 x1 y1 x2 y2:Nat)(b0 b1 b2:Bool)(w:World) :
  (Instr.index 174 (.agg #[.float .f64 x0,.float .f64 y0,.bool b0,.float .f64 x1,.float .f64 y1,.bool b1,.float .f64 x2,.float .f64 y2,.bool b2]) (.int .i64 0)).run Tryz.prog w=.ok (.agg #[.float .f64 x0,.float .f64 y0,.bool b0]) w ∧
  (Instr.index 174 (.agg #[.float .f64 x0,.float .f64 y0,.bool b0,.float .f64 x1,.float .f64 y1,.bool b1,.float .f64 x2,.float .f64 y2,.bool b2]) (.int .i64 1)).run Tryz.prog w=.ok (.agg #[.float .f64 x1,.float .f64 y1,.bool b1]) w ∧
  (Instr.index 174 (.agg #[.float .f64 x0,.float .f64 y0,.bool b0,.float .f64 x1,.float .f64 y1,.bool b1,.float .f64 x2,.float .f64 y2,.bool b2]) (.int .i64 2)).run Tryz.prog w=.ok (.agg #[.float .f64 x2,.float .f64 y2,.bool b2]) w:=by
 refine⟨?_,?_,?_⟩<;>kernel_rfl
theorem prods_x (a b c d:Nat)(w:World)(q1:∀ w,(binOp .eql 32 (.agg #[.float .f64 a,.float .f64 b]) (.agg #[.float .f64 infR,.float .f64 minf])).run Tryz.prog w=.ok (.bool true) w) :
  Calls Tryz.prog 94 #[.agg #[.float .f64 a,.float .f64 b],.agg #[.float .f64 c,.float .f64 d]] w (RetT ⟨0,0,false⟩ ⟨0,0,false⟩ true w):=by
 have hO:=Own.start w
 have hf:True:=trivial
 go_enter Tryz.func94,Tryz.ntmps94
 go_upto_region 1 with (first|((with_reducible refine at_box ?_);refine own_box (cs:=[.float .f64 a,.float .f64 b]) hO rfl rfl ?_;clear hO;intro g1 wa hO;clear hf;have hf:=hO.cells;simp only [BC,CC,and_true]at hf)|((with_reducible refine at_box ?_);refine own_box (cs:=[.float .f64 c,.float .f64 d]) hO rfl rfl ?_;clear hO;intro g2 wb hO;clear hf;have hf:=hO.cells;simp only [BC,CC,and_true]at hf)|((with_reducible refine at_alloc ?_);refine own_alloc (L:=[_,_]) hO zero_tm rfl rfl ?_;clear hO;intro g3 wc hO;clear hf;have hf:=hO.cells;simp only [BC,CC,and_true]at hf)|((with_reducible refine at_alloc ?_);refine own_alloc (L:=[_,_,_]) hO zero_tm rfl rfl ?_;clear hO;intro g4 wd hO;clear hf;have hf:=hO.cells;simp only [BC,CC,and_true]at hf))
 refine wp_loose_own 7 [det (.agg #[.float .f64 a,.float .f64 b]),det (.agg #[.float .f64 infR,.float .f64 minf]),det (.bool true),det (.bool true),det undef,det undef,det undef] hO (by kernel_rfl) (by kernel_rfl) fun S sp HS HSP=>?_
 clear hO hf
 simp only [List.take_succ_cons,List.take_zero,List.drop_succ_cons,List.drop_zero]
 iterate 7
  refine wpX_step (fun K hK=>?_)
  go_simp
  first
  |refine⟨by rw [HSP.out];rfl,?_⟩
  |refine StepY.det (by rw [HSP.out];rfl) ?_ ?_
   ·intro wz hz hF
    rw [HS.out]at hz
    have hf:=hz.cells
    simp only [BC,CC,and_true]at hf
    clear hz hF
    go_simp
    exact⟨rfl,Ext.refl _⟩
  |refine StepY.det (by rw [HSP.out];rfl) ?_ ?_
   ·intro wz hz hF
    clear hz hF
    go_simp
    refine(iempty_any _).mono ?_
    rintro e w2 ⟨rfl,hE1⟩
    exact⟨_,rfl,rfl,hE1⟩
  refine hK _ _ ?_
  clear hK K
 refine wpX_nil ?_
 intro wq hO hF
 clear hF HS HSP
 have hf:=hO.cells
 simp only [BC,CC,and_true]at hf
 go_upto_region 2 with fail
 refine wp_wild_own 4 [det (.agg #[.float .f64 0,.float .f64 0,.bool false]),det (.agg #[.float .f64 0,.float .f64 0,.bool false]),det undef,det undef] hO (by kernel_rfl) (by kernel_rfl) fun S sp HS HSP HX=>?_
 clear hO hf
 simp only [List.take_succ_cons,List.take_zero,List.drop_succ_cons,List.drop_zero]
 iterate 4
  refine Wi.wpX_step (fun K hK=>?_)
  go_simp
  first
  |refine Wi.StepY.det (by rw [HSP.out];rfl) ?_ ?_
   ·intro wz hz hF
    refine Wi.GivesW.of HX.out hz ?_
    rw [HS.out]at hz
    have hf:=hz.cells
    simp only [BC,CC,and_true]at hf
    clear hz hF
    go_simp
    exact⟨rfl,Ext.refl _⟩
  |refine Wi.StepY.det (by rw [HSP.out];rfl) ?_ ?_
   ·intro wz hz hF
    rw [HS.out]at hz ⊢
    exact Wi.same_store (fun _ _=>trivial) hz 1 rfl rfl size_tm rfl rfl (fun _=>rfl)
  |refine Wi.StepY.det (by rw [HSP.out];rfl) ?_ ?_
   ·intro wz hz hF
    rw [HS.out]at hz ⊢
    exact Wi.same_store (fun _ _=>trivial) hz 0 rfl rfl size_tm rfl rfl (fun _=>rfl)
  refine hK _ _ ?_
  clear hK K
 refine Wi.wpX_nil ?_
 intro wq hO hF
 clear hF HS HSP HX
 have hf:=hO.cells
 simp only [BC,CC,and_true]at hf
 go_wp2
 exact Wi.own_ret3 hO 1 0 rfl rfl rfl rfl rfl rfl agg_tm size_tm agg_tm size_tm rfl ⟨rfl,hO.toExt⟩
theorem prods_y (a b c d:Nat)(w:World)(q1:∀ w,(binOp .eql 32 (.agg #[.float .f64 a,.float .f64 b]) (.agg #[.float .f64 infR,.float .f64 minf])).run Tryz.prog w=.ok (.bool false) w)(q2:∀ w,(binOp .eql 32 (.agg #[.float .f64 c,.float .f64 d]) (.agg #[.float .f64 infR,.float .f64 minf])).run Tryz.prog w=.ok (.bool true) w) :
  Calls Tryz.prog 94 #[.agg #[.float .f64 a,.float .f64 b],.agg #[.float .f64 c,.float .f64 d]] w (RetT ⟨0,0,false⟩ ⟨0,0,false⟩ true w):=by
 have hO:=Own.start w
 have hf:True:=trivial
 go_enter Tryz.func94,Tryz.ntmps94
 go_upto_region 1 with (first|((with_reducible refine at_box ?_);refine own_box (cs:=[.float .f64 a,.float .f64 b]) hO rfl rfl ?_;clear hO;intro g1 wa hO;clear hf;have hf:=hO.cells;simp only [BC,CC,and_true]at hf)|((with_reducible refine at_box ?_);refine own_box (cs:=[.float .f64 c,.float .f64 d]) hO rfl rfl ?_;clear hO;intro g2 wb hO;clear hf;have hf:=hO.cells;simp only [BC,CC,and_true]at hf)|((with_reducible refine at_alloc ?_);refine own_alloc (L:=[_,_]) hO zero_tm rfl rfl ?_;clear hO;intro g3 wc hO;clear hf;have hf:=hO.cells;simp only [BC,CC,and_true]at hf)|((with_reducible refine at_alloc ?_);refine own_alloc (L:=[_,_,_]) hO zero_tm rfl rfl ?_;clear hO;intro g4 wd hO;clear hf;have hf:=hO.cells;simp only [BC,CC,and_true]at hf))
 refine wp_loose_own 7 [det (.agg #[.float .f64 a,.float .f64 b]),det (.agg #[.float .f64 infR,.float .f64 minf]),det (.bool false),det (.bool false),det (.agg #[.float .f64 c,.float .f64 d]),det (.agg #[.float .f64 infR,.float .f64 minf]),det (.bool true)] hO (by kernel_rfl) (by kernel_rfl) fun S sp HS HSP=>?_
 clear hO hf
 simp only [List.take_succ_cons,List.take_zero,List.drop_succ_cons,List.drop_zero]
 iterate 7
  refine wpX_step (fun K hK=>?_)
  go_simp
  first
  |refine StepY.det (by rw [HSP.out];rfl) ?_ ?_
   ·intro wz hz hF
    rw [HS.out]at hz
    have hf:=hz.cells
    simp only [BC,CC,and_true]at hf
    clear hz hF
    go_simp
    exact⟨rfl,Ext.refl _⟩
  |refine StepY.det (by rw [HSP.out];rfl) ?_ ?_
   ·intro wz hz hF
    clear hz hF
    go_simp
    refine(iempty_any _).mono ?_
    rintro e w2 ⟨rfl,hE1⟩
    exact⟨_,rfl,rfl,hE1⟩
  refine hK _ _ ?_
  clear hK K
 refine wpX_nil ?_
 intro wq hO hF
 clear hF HS HSP
 have hf:=hO.cells
 simp only [BC,CC,and_true]at hf
 go_upto_region 2 with fail
 refine wp_wild_own 4 [det (.agg #[.float .f64 0,.float .f64 0,.bool false]),det (.agg #[.float .f64 0,.float .f64 0,.bool false]),det undef,det undef] hO (by kernel_rfl) (by kernel_rfl) fun S sp HS HSP HX=>?_
 clear hO hf
 simp only [List.take_succ_cons,List.take_zero,List.drop_succ_cons,List.drop_zero]
 iterate 4
  refine Wi.wpX_step (fun K hK=>?_)
  go_simp
  first
  |refine Wi.StepY.det (by rw [HSP.out];rfl) ?_ ?_
   ·intro wz hz hF
    refine Wi.GivesW.of HX.out hz ?_
    rw [HS.out]at hz
    have hf:=hz.cells
    simp only [BC,CC,and_true]at hf
    clear hz hF
    go_simp
    exact⟨rfl,Ext.refl _⟩
  |refine Wi.StepY.det (by rw [HSP.out];rfl) ?_ ?_
   ·intro wz hz hF
    rw [HS.out]at hz ⊢
    exact Wi.same_store (fun _ _=>trivial) hz 1 rfl rfl size_tm rfl rfl (fun _=>rfl)
  |refine Wi.StepY.det (by rw [HSP.out];rfl) ?_ ?_
   ·intro wz hz hF
    rw [HS.out]at hz ⊢
    exact Wi.same_store (fun _ _=>trivial) hz 0 rfl rfl size_tm rfl rfl (fun _=>rfl)
  refine hK _ _ ?_
  clear hK K
 refine Wi.wpX_nil ?_
 intro wq hO hF
 clear hF HS HSP HX
 have hf:=hO.cells
 simp only [BC,CC,and_true]at hf
 go_wp2
 exact Wi.own_ret3 hO 1 0 rfl rfl rfl rfl rfl rfl agg_tm size_tm agg_tm size_tm rfl ⟨rfl,hO.toExt⟩
theorem prods_n (a b c d p0x p0y p1x p1y p2x p2y p3x p3y:Nat)(p0b p1b p2b p3b:Bool)(w:World)(hg:gz≤w.heap.size)(OK:Hid ((⟨p0x,p0y,p0b⟩:Tm).Ok∧(⟨p1x,p1y,p1b⟩:Tm).Ok∧(⟨p2x,p2y,p2b⟩:Tm).Ok∧(⟨p3x,p3y,p3b⟩:Tm).Ok))(q1:∀ w,(binOp .eql 32 (.agg #[.float .f64 a,.float .f64 b]) (.agg #[.float .f64 infR,.float .f64 minf])).run Tryz.prog w=.ok (.bool false) w)(q2:∀ w,(binOp .eql 32 (.agg #[.float .f64 c,.float .f64 d]) (.agg #[.float .f64 infR,.float .f64 minf])).run Tryz.prog w=.ok (.bool false) w)(HP0:Hid (∀ w,Calls Tryz.prog 148 #[.float .f64 a,.float .f64 c] w fun e w'=>e=.returned (.agg #[.float .f64 p0x,.float .f64 p0y,.bool p0b])∧Ext w w'))(HP1:Hid (∀ w,Calls Tryz.prog 148 #[.float .f64 a,.float .f64 d] w fun e w'=>e=.returned (.agg #[.float .f64 p1x,.float .f64 p1y,.bool p1b])∧Ext w w'))(HP2:Hid (∀ w,Calls Tryz.prog 148 #[.float .f64 b,.float .f64 c] w fun e w'=>e=.returned (.agg #[.float .f64 p2x,.float .f64 p2y,.bool p2b])∧Ext w w'))(HP3:Hid (∀ w,Calls Tryz.prog 148 #[.float .f64 b,.float .f64 d] w fun e w'=>e=.returned (.agg #[.float .f64 p3x,.float .f64 p3y,.bool p3b])∧Ext w w')) :
  Calls Tryz.prog 94 #[.agg #[.float .f64 a,.float .f64 b],.agg #[.float .f64 c,.float .f64 d]] w (RetT (loT ⟨p0x,p0y,p0b⟩ [⟨p1x,p1y,p1b⟩,⟨p2x,p2y,p2b⟩,⟨p3x,p3y,p3b⟩]) (hiT ⟨p0x,p0y,p0b⟩ [⟨p1x,p1y,p1b⟩,⟨p2x,p2y,p2b⟩,⟨p3x,p3y,p3b⟩]) false w):=by
 have hO:=Own.start w
 have hf:True:=trivial
 go_enter Tryz.func94,Tryz.ntmps94
 go_upto_region 1 with (first|((with_reducible refine at_box ?_);refine own_box (cs:=[.float .f64 a,.float .f64 b]) hO rfl rfl ?_;clear hO;intro g1 wa hO;clear hf;have hf:=hO.cells;simp only [BC,CC,and_true]at hf)|((with_reducible refine at_box ?_);refine own_box (cs:=[.float .f64 c,.float .f64 d]) hO rfl rfl ?_;clear hO;intro g2 wb hO;clear hf;have hf:=hO.cells;simp only [BC,CC,and_true]at hf)|((with_reducible refine at_alloc ?_);refine own_alloc (L:=[_,_]) hO zero_tm rfl rfl ?_;clear hO;intro g3 wc hO;clear hf;have hf:=hO.cells;simp only [BC,CC,and_true]at hf)|((with_reducible refine at_alloc ?_);refine own_alloc (L:=[_,_,_]) hO zero_tm rfl rfl ?_;clear hO;intro g4 wd hO;clear hf;have hf:=hO.cells;simp only [BC,CC,and_true]at hf))
 refine wp_loose_own 7 [det (.agg #[.float .f64 a,.float .f64 b]),det (.agg #[.float .f64 infR,.float .f64 minf]),det (.bool false),det (.bool false),det (.agg #[.float .f64 c,.float .f64 d]),det (.agg #[.float .f64 infR,.float .f64 minf]),det (.bool false)] hO (by kernel_rfl) (by kernel_rfl) fun S sp HS HSP=>?_
 clear hO hf
 simp only [List.take_succ_cons,List.take_zero,List.drop_succ_cons,List.drop_zero]
 iterate 7
  refine wpX_step (fun K hK=>?_)
  go_simp
  first
  |refine StepY.det (by rw [HSP.out];rfl) ?_ ?_
   ·intro wz hz hF
    rw [HS.out]at hz
    have hf:=hz.cells
    simp only [BC,CC,and_true]at hf
    clear hz hF
    go_simp
    exact⟨rfl,Ext.refl _⟩
  |refine StepY.det (by rw [HSP.out];rfl) ?_ ?_
   ·intro wz hz hF
    clear hz hF
    go_simp
    refine(iempty_any _).mono ?_
    rintro e w2 ⟨rfl,hE1⟩
    exact⟨_,rfl,rfl,hE1⟩
  refine hK _ _ ?_
  clear hK K
 refine wpX_nil ?_
 intro wq hO hF
 clear hF HS HSP
 have hf:=hO.cells
 simp only [BC,CC,and_true]at hf
 go_upto_region 5 with (first|(go_at_call 148;(with_reducible refine(HP0.out _).mono ?_);rintro e w5 ⟨rfl,hE1⟩;have hO:=hO.ext hE1;clear hE1;clear hf;have hf:=hO.cells;simp only [BC,CC,and_true]at hf)|((with_reducible refine at_store (T:=124) ?_);refine own_put1 (vs:=[.float .f64 p0x,.float .f64 p0y,.bool p0b]) (T:=124) hO rfl rfl size_tm rfl rfl rfl ?_;clear hO;intro we hO;clear hf;have hf:=hO.cells;simp only [BC,CC,and_true]at hf)|((with_reducible refine at_store (T:=124) ?_);refine own_put0 (vs:=[.float .f64 p0x,.float .f64 p0y,.bool p0b]) (T:=124) hO rfl rfl size_tm rfl rfl rfl ?_;clear hO;intro wf hO;clear hf;have hf:=hO.cells;simp only [BC,CC,and_true]at hf))
 obtain⟨S,hS⟩:∃S:World→Prop,S=Own w [⟨g4,124,[.float .f64 p0x,.float .f64 p0y,.bool p0b]⟩,⟨g3,124,[.float .f64 p0x,.float .f64 p0y,.bool p0b]⟩,⟨g2,32,[.float .f64 c,.float .f64 d]⟩,⟨g1,32,[.float .f64 a,.float .f64 b]⟩] []:=⟨_,rfl⟩
 have hS1:S wf.drew:=by rw [hS];exact hO.ext (Ext.refl wf).drew
 have HSE:=Lib.hid (show ∀w w',S w→Ext w w'→S w' from fun w w' h1 h2=>by rw [hS]at h1 ⊢;exact h1.ext h2)
 have HS:=Lib.hid hS
 clear hS hO hf
 refine wp_region_steady S (by kernel_rfl) (by kernel_rfl) hS1 ?_
 repeat (refine wpG_step (fun K hK=>?_)
         go_simp
         first
         |(refine hK _ ?_
           clear hK K)
         |(apply StepG.mk
           intro wz hz
           have hz':=hz
           rw [HS.out]at hz'
           have hf:=hz'.cells
           simp only [BC,CC,and_true]at hf
           clear hz'
           go_simp
           first
           |exact⟨rfl,hz⟩
           |(go_at_call 148;(with_reducible refine(HP1.out _).mono ?_);exact fun e w5 h5=>⟨h5.1,HSE.out _ _ hz h5.2⟩)
           |(go_at_call 148;(with_reducible refine(HP2.out _).mono ?_);exact fun e w5 h5=>⟨h5.1,HSE.out _ _ hz h5.2⟩)
           |(go_at_call 148;(with_reducible refine(HP3.out _).mono ?_);exact fun e w5 h5=>⟨h5.1,HSE.out _ _ hz h5.2⟩)
           refine hK _ ?_
           clear hK K))
 refine wpG_nil ?_
 intro wl hz
 go_simp
 rw [HS.out]at hz
 have hO:=hz
 clear hz HS HSE
 go_wp2_with fail
 go_loopw [41] (fun kv wr=>∃(j:Nat) (lx ly hx hy:Nat) (lb hb:Bool),kv=.int .i64 (j:Int)∧j≤3∧Hid ((⟨lx,ly,lb⟩:Tm)=loT ⟨p0x,p0y,p0b⟩ ([⟨p1x,p1y,p1b⟩,⟨p2x,p2y,p2b⟩,⟨p3x,p3y,p3b⟩].take j))∧Hid ((⟨hx,hy,hb⟩:Tm)=hiT ⟨p0x,p0y,p0b⟩ ([⟨p1x,p1y,p1b⟩,⟨p2x,p2y,p2b⟩,⟨p3x,p3y,p3b⟩].take j))∧Hid ((⟨lx,ly,lb⟩:Tm).Ok∧(⟨hx,hy,hb⟩:Tm).Ok)∧Own w [⟨g4,124,[.float .f64 hx,.float .f64 hy,.bool hb]⟩,⟨g3,124,[.float .f64 lx,.float .f64 ly,.bool lb]⟩,⟨g2,32,[.float .f64 c,.float .f64 d]⟩,⟨g1,32,[.float .f64 a,.float .f64 b]⟩] [] wr) (fun kv _=>3-(intOf kv).toNat)
 case atStart=>exact⟨0,p0x,p0y,p0x,p0y,p0b,p0b,rfl,by omega,Lib.hid rfl,Lib.hid rfl,Lib.hid ⟨OK.out.1,OK.out.1⟩,hO⟩
 case round=>
  clear hO
  obtain⟨j,lx,ly,hx,hy,lb,hb,rfl,hj,hlo,hhi,hok,hO⟩:=hrel
  have hf:=hO.cells
  simp only [BC,CC,and_true]at hf
  by_cases hlt:j<3
  ·have HJ:∃px py pb,(∀w,(Instr.index 174 (.agg #[.float .f64 p1x,.float .f64 p1y,.bool p1b,.float .f64 p2x,.float .f64 p2y,.bool p2b,.float .f64 p3x,.float .f64 p3y,.bool p3b]) (.int .i64 (j:Int))).run Tryz.prog w=.ok (.agg #[.float .f64 px,.float .f64 py,.bool pb]) w)∧(⟨px,py,pb⟩:Tm).Ok∧loT ⟨p0x,p0y,p0b⟩ ([⟨p1x,p1y,p1b⟩,⟨p2x,p2y,p2b⟩,⟨p3x,p3y,p3b⟩].take (j+1))=(if lessT ⟨px,py,pb⟩ (loT ⟨p0x,p0y,p0b⟩ ([⟨p1x,p1y,p1b⟩,⟨p2x,p2y,p2b⟩,⟨p3x,p3y,p3b⟩].take j))then⟨px,py,pb⟩else loT ⟨p0x,p0y,p0b⟩ ([⟨p1x,p1y,p1b⟩,⟨p2x,p2y,p2b⟩,⟨p3x,p3y,p3b⟩].take j))∧hiT ⟨p0x,p0y,p0b⟩ ([⟨p1x,p1y,p1b⟩,⟨p2x,p2y,p2b⟩,⟨p3x,p3y,p3b⟩].take (j+1))=(if lessT (hiT ⟨p0x,p0y,p0b⟩ ([⟨p1x,p1y,p1b⟩,⟨p2x,p2y,p2b⟩,⟨p3x,p3y,p3b⟩].take j)) ⟨px,py,pb⟩then⟨px,py,pb⟩else hiT ⟨p0x,p0y,p0b⟩ ([⟨p1x,p1y,p1b⟩,⟨p2x,p2y,p2b⟩,⟨p3x,p3y,p3b⟩].take j)):=by
    have hj3:j=0∨j=1∨j=2:=by omega
    rcases hj3 with rfl|rfl|rfl
    ·exact⟨p1x,p1y,p1b,fun w=>(idx3 _ _ _ _ _ _ _ _ _ w).1,OK.out.2.1,rfl,rfl⟩
    ·exact⟨p2x,p2y,p2b,fun w=>(idx3 _ _ _ _ _ _ _ _ _ w).2.1,OK.out.2.2.1,rfl,rfl⟩
    ·exact⟨p3x,p3y,p3b,fun w=>(idx3 _ _ _ _ _ _ _ _ _ w).2.2,OK.out.2.2.2,rfl,rfl⟩
   obtain⟨px,py,pb,hix,hP,eL,eH⟩:=HJ
   have HL1:=Lib.hid (fun w hw=>less_e px py lx ly pb lb w hw hP hok.out.1)
   have HL2:=Lib.hid (fun w hw=>less_e hx hy px py hb pb w hw hok.out.2 hP)
   rw [←hlo.out]at eL
   rw [←hhi.out]at eH
   have EL:=Lib.hid eL
   have EH:=Lib.hid eH
   have HP:=Lib.hid hP
   generalize lessT ⟨px,py,pb⟩ ⟨lx,ly,lb⟩=L1 at *
   generalize lessT ⟨hx,hy,hb⟩ ⟨px,py,pb⟩=L2 at *
   clear eL eH hP hlo hhi
   have a0:decide ((j:Int)<3)=true:=by simp;omega
   cases L1<;>cases L2
   all_goals
    clear a0
    have a0:decide ((j:Int)<3)=true:=by simp;omega
    go_wp2_with (first|((with_reducible refine at_alloc ?_);refine own_alloc hO zero_tm rfl rfl ?_;clear hO;intro g8 wx hO;clear hf;have hf:=hO.cells;simp only [BC,CC,and_true]at hf)|(go_at_call 149;(with_reducible refine(HL1.out _ (Nat.le_trans hg hO.toExt.size)).mono ?_);rintro e w5 ⟨rfl,hE1⟩;have hO:=hO.ext hE1;clear hE1;clear hf;have hf:=hO.cells;simp only [BC,CC,and_true]at hf)|(go_at_call 149;(with_reducible refine(HL2.out _ (Nat.le_trans hg hO.toExt.size)).mono ?_);rintro e w5 ⟨rfl,hE1⟩;have hO:=hO.ext hE1;clear hE1;clear hf;have hf:=hO.cells;simp only [BC,CC,and_true]at hf)|((with_reducible refine at_store (T:=124) ?_);refine own_put0 (vs:=[.float .f64 px,.float .f64 py,.bool pb]) (T:=124) hO rfl rfl size_tm rfl rfl rfl ?_;clear hO;intro we hO;clear hf;have hf:=hO.cells;simp only [BC,CC,and_true]at hf)|((with_reducible refine at_store (T:=124) ?_);refine own_put2 (vs:=[.float .f64 px,.float .f64 py,.bool pb]) (T:=124) hO rfl rfl size_tm rfl rfl rfl ?_;clear hO;intro we hO;clear hf;have hf:=hO.cells;simp only [BC,CC,and_true]at hf)|((with_reducible refine at_store (T:=124) ?_);refine own_put1 (vs:=[.float .f64 px,.float .f64 py,.bool pb]) (T:=124) hO rfl rfl size_tm rfl rfl rfl ?_;clear hO;intro we hO;clear hf;have hf:=hO.cells;simp only [BC,CC,and_true]at hf))
    go_roundw
    case rel=>exact⟨j+1,_,_,_,_,_,_,by go_num,by omega,Lib.hid (by rw [EL.out];rfl),Lib.hid (by rw [EH.out];rfl),Lib.hid ⟨by first|exact HP.out|exact hok.out.1,by first|exact HP.out|exact hok.out.2⟩,hO.tail⟩
    case measure=>simp [intOf];omega
  ·have hje:j=3:=by omega
   subst hje
   have a0:decide ((3:Int)<3)=false:=by decide
   rw [show((3:Nat):Int)=3 from rfl]
   go_upto_region 13 with fail
   refine wp_wild_own 4 [det (.agg #[.float .f64 lx,.float .f64 ly,.bool lb]),det (.agg #[.float .f64 hx,.float .f64 hy,.bool hb]),det undef,det undef] hO (by kernel_rfl) (by kernel_rfl) fun S sp HS HSP HX=>?_
   clear hO hf
   simp only [List.take_succ_cons,List.take_zero,List.drop_succ_cons,List.drop_zero]
   iterate 4
    refine Wi.wpX_step (fun K hK=>?_)
    go_simp
    first
    |refine Wi.StepY.det (by rw [HSP.out];rfl) ?_ ?_
     ·intro wz hz hF
      refine Wi.GivesW.of HX.out hz ?_
      rw [HS.out]at hz
      have hf:=hz.cells
      simp only [BC,CC,and_true]at hf
      clear hz hF
      go_simp
      exact⟨rfl,Ext.refl _⟩
    |refine Wi.StepY.det (by rw [HSP.out];rfl) ?_ ?_
     ·intro wz hz hF
      rw [HS.out]at hz ⊢
      exact Wi.same_store (fun _ _=>trivial) hz 1 rfl rfl size_tm rfl rfl (fun _=>rfl)
    |refine Wi.StepY.det (by rw [HSP.out];rfl) ?_ ?_
     ·intro wz hz hF
      rw [HS.out]at hz ⊢
      exact Wi.same_store (fun _ _=>trivial) hz 0 rfl rfl size_tm rfl rfl (fun _=>rfl)
    refine hK _ _ ?_
    clear hK K
   refine Wi.wpX_nil ?_
   intro wq hO hF
   clear hF HS HSP HX
   have hf:=hO.cells
   simp only [BC,CC,and_true]at hf
   go_wp2
   refine Wi.own_ret3 hO 1 0 rfl rfl rfl rfl rfl rfl agg_tm size_tm agg_tm size_tm rfl ⟨?_,hO.toExt⟩
   have e1:loT ⟨p0x,p0y,p0b⟩ [⟨p1x,p1y,p1b⟩,⟨p2x,p2y,p2b⟩,⟨p3x,p3y,p3b⟩]=⟨lx,ly,lb⟩:=hlo.out.symm
   have e2:hiT ⟨p0x,p0y,p0b⟩ [⟨p1x,p1y,p1b⟩,⟨p2x,p2y,p2b⟩,⟨p3x,p3y,p3b⟩]=⟨hx,hy,hb⟩:=hhi.out.symm
   rw [e1,e2]
   rfl
theorem products_any (a b c d:Nat)(w:World)(hg:gz≤w.heap.size)(ha:a < 18446744073709551616)(hb:b < 18446744073709551616)(hc:c < 18446744073709551616)(hd:d < 18446744073709551616)(na:isNaN a=false)(nb:isNaN b=false)(nc:isNaN c=false)(nd:isNaN d=false) :
  Calls Tryz.prog 94 #[.agg #[.float .f64 a,.float .f64 b],.agg #[.float .f64 c,.float .f64 d]] w (RetT (prodsT a b c d).1 (prodsT a b c d).2.1 (prodsT a b c d).2.2 w):=by
 unfold prodsT
 have q1:=fun w=>eqF ha hb infR_lt64 minf_lt64 w
 have q2:=fun w=>eqF hc hd infR_lt64 minf_lt64 w
 cases h1:(eqB a infR&&eqB b minf)
 ·rw [h1]at q1
  cases h2:(eqB c infR&&eqB d minf)
  ·rw [h2]at q2
   rw [if_neg (by simp)]
   have k0:=prodT_ok ha hc
   have k1:=prodT_ok ha hd
   have k2:=prodT_ok hb hc
   have k3:=prodT_ok hb hd
   have H0:=Lib.hid (fun w=>product_any a c w ha hc na nc)
   have H1:=Lib.hid (fun w=>product_any a d w ha hd na nd)
   have H2:=Lib.hid (fun w=>product_any b c w hb hc nb nc)
   have H3:=Lib.hid (fun w=>product_any b d w hb hd nb nd)
   generalize prodT a c=t0 at *
   generalize prodT a d=t1 at *
   generalize prodT b c=t2 at *
   generalize prodT b d=t3 at *
   obtain⟨p0x,p0y,p0b⟩:=t0
   obtain⟨p1x,p1y,p1b⟩:=t1
   obtain⟨p2x,p2y,p2b⟩:=t2
   obtain⟨p3x,p3y,p3b⟩:=t3
   exact prods_n a b c d p0x p0y p1x p1y p2x p2y p3x p3y p0b p1b p2b p3b w hg (Lib.hid ⟨k0,k1,k2,k3⟩) q1 q2 H0 H1 H2 H3
  ·rw [h2]at q2
   rw [if_pos (by simp)]
   exact prods_y a b c d w q1 q2
 ·rw [h1]at q1
  rw [if_pos (by simp)]
  exact prods_x a b c d w q1
theorem loT_ok:∀(ts:List Tm) (t:Tm),t.Ok→(∀u∈ts,u.Ok)→(loT t ts).Ok
 |[],t,h,_=>h
 |u::ts,t,h,k=>loT_ok ts _ (by dsimp only;split;exact k u (by simp);exact h) fun v hv=>k v (by simp [hv])
theorem hiT_ok:∀(ts:List Tm) (t:Tm),t.Ok→(∀u∈ts,u.Ok)→(hiT t ts).Ok
 |[],t,h,_=>h
 |u::ts,t,h,k=>hiT_ok ts _ (by dsimp only;split;exact k u (by simp);exact h) fun v hv=>k v (by simp [hv])
theorem prodsT_ok {a b c d:Nat}(ha:a < 18446744073709551616)(hb:b < 18446744073709551616)(hc:c < 18446744073709551616)(hd:d < 18446744073709551616):(prodsT a b c d).1.Ok∧(prodsT a b c d).2.1.Ok:=by
 unfold prodsT
 split
 ·exact⟨⟨by decide,by decide⟩,by decide,by decide⟩
 ·have k:∀u∈[prodT a d,prodT b c,prodT b d],u.Ok:=fun u hu=>by
   simp only [List.mem_cons,List.not_mem_nil,or_false]at hu
   rcases hu with rfl|rfl|rfl
   ·exact prodT_ok ha hd
   ·exact prodT_ok hb hc
   ·exact prodT_ok hb hd
  exact⟨loT_ok _ _ (prodT_ok ha hc) k,hiT_ok _ _ (prodT_ok ha hc) k⟩
def Ivs (w:World)(A:Option Addr)(n c:Nat)(xs:List (Nat×Nat)):Prop:=
 xs.length=n∧n≤c∧c≤maxLen∧(∀q∈xs,q.1<18446744073709551616∧q.2<18446744073709551616) ∧
  (0<n→∃ad,A=some ad∧ad.block<w.heap.size∧∀(k:Nat) (q:Nat×Nat),xs[k]?=some q→w.cell? (ad.add (k*2))=some (.float .f64 q.1)∧w.cell? (ad.add (k*2+1))=some (.float .f64 q.2))
section
variable {w w':World} {n c:Nat} {A:Option Addr} {xs:List (Nat×Nat)}
theorem Ivs.len (h:Ivs w A n c xs):xs.length=n:=h.1
theorem Ivs.small (h:Ivs w A n c xs):n≤9223372036854775807:=by have h1:=h.2.1;have h2:=h.2.2.1;unfold maxLen at h2;omega
theorem Ivs.keep (h:Ivs w A n c xs)(hs:w.heap.size≤w'.heap.size)(he:∀ p:Addr,p.block < w.heap.size→w'.cell? p=w.cell? p):Ivs w' A n c xs:=
 ⟨h.1,h.2.1,h.2.2.1,h.2.2.2.1,fun hn=>by
   obtain⟨ad,e,hb,hc⟩:=h.2.2.2.2 hn
   refine⟨ad,e,Nat.lt_of_lt_of_le hb hs,fun k q hq=>?_⟩
   obtain⟨h1,h2⟩:=hc k q hq
   exact⟨by rw [he _ (by rw [block_of_add];exact hb)];exact h1,by rw [he _ (by rw [block_of_add];exact hb)];exact h2⟩⟩
theorem Ivs.at_ {k:Nat}(h:Ivs w A n c xs)(hk:k < n):∃ad a b,A=some ad∧xs[k]?=some (a,b)∧a<18446744073709551616∧b<18446744073709551616∧w.cell? (ad.add (k*2))=some (.float .f64 a)∧w.cell? (ad.add (k*2+1))=some (.float .f64 b):=by
 obtain⟨ad,e,hb,hc⟩:=h.2.2.2.2 (by omega)
 have hl:k<xs.length:=by have:=h.1;omega
 have hq:xs[k]?=some xs[k]:=List.getElem?_eq_getElem hl
 obtain⟨l1,l2⟩:=h.2.2.2.1 _ (List.getElem_mem hl)
 obtain⟨h1,h2⟩:=hc k _ hq
 exact⟨ad,_,_,e,hq,l1,l2,h1,h2⟩
end
theorem addr2 (a:Addr)(i j:Nat):(a.add i).add j=a.add (i+j):=by
 unfold Addr.add
 by_cases h1:i=0
 ·subst h1;simp
 ·by_cases h2:j=0
  ·subst h2;simp [h1]
  ·simp [h1,h2];omega
theorem pl_nn {r:Nat}(h:isNaN r=false):isNaN (pl r)=false:=by
 unfold pl
 split
 ·decide
 ·exact h
theorem rd_nan {a b:Nat}(h1:a < 18446744073709551616)(h2:b < 18446744073709551616):isNaN (rdLo a b)=false∧isNaN (rdHi a b)=false:=by
 unfold rdLo rdHi
 cases h:sndB a b
 ·rw [if_neg (by simp),if_neg (by simp)]
  exact⟨by decide,by decide⟩
 ·obtain⟨n1,n2⟩:=snd_nan h
  rw [if_pos rfl,if_pos rfl]
  exact⟨pl_nn n1,pl_nn n2⟩
theorem over1_e (i n c ob lb a b ra rb lx ly hx hy:Nat)(lb' hb E:Bool)(ad:Addr)(w:World)(hi:i < n)(hn:n≤9223372036854775807)(hob:ob < w.heap.size)(hlb:lb < w.heap.size)(had:ad.block < w.heap.size)
  (hof:w.cell? ⟨ob,0,none⟩=some (.func (.func 86) #[] #[])) (hsl:w.cell? ⟨lb,0,none⟩=some (.slice (some ad) n c)) (k1:w.cell? (ad.add (i*2))=some (.float .f64 a)) (k2:w.cell? (ad.add (i*2+1))=some (.float .f64 b))
  (HR:Hid (∀w,Calls Tryz.prog 95 #[.agg #[.float .f64 a,.float .f64 b]] w (RetF ra rb w))) (HOF:Hid (∀w,Calls Tryz.prog 86 #[.agg #[.float .f64 ra,.float .f64 rb]] w (RetT ⟨lx,ly,lb'⟩ ⟨hx,hy,hb⟩ E w))):
  Calls Tryz.prog 140 #[.int .i64 (i:Int),.pointer (some ⟨ob,0,none⟩),.pointer (some ⟨lb,0,none⟩)] w (RetT ⟨lx,ly,lb'⟩ ⟨hx,hy,hb⟩ E w):=by
 have hO:=Own.start w
 have hf:True:=trivial
 obtain⟨p,hp⟩:∃p,ad.add (i*2)=p:=⟨_,rfl⟩
 have HCELL:Hid (∀wz,Ext w wz→wz.cell? ⟨ob,0,none⟩=some (.func (.func 86) #[] #[])∧wz.cell? ⟨lb,0,none⟩=some (.slice (some ad) n c)∧wz.cell? p=some (.float .f64 a)∧wz.cell? ⟨p.block,p.off+1,none⟩=some (.float .f64 b)):=Lib.hid (fun wz hz=>by
  refine⟨(hz.cell hob).trans hof,(hz.cell hlb).trans hsl,?_,?_⟩
  ·rw [←hp,hz.cell (by rw [block_of_add];exact had)];exact k1
  ·have:(⟨p.block,p.off+1,none⟩:Addr)=ad.add (i*2+1):=by rw [←hp,←addr2];rfl
   rw [this,hz.cell (by rw [block_of_add];exact had)];exact k2)
 have bi0:(0:Int)≤(i:Int):=by omega
 have bi1:(i:Int)<(n:Int):=by omega
 clear hof hsl k1 k2 hob hlb had hi
 go_enter Tryz.func140,Tryz.ntmps140
 go_upto_region 1 with (first|((with_reducible refine at_alloc ?_);refine own_alloc (L:=[]) hO zero_tm rfl rfl ?_;clear hO;intro g4 wa hO;clear hf;have hf:=hO.cells;simp only [BC,CC,and_true]at hf)|((with_reducible refine at_alloc ?_);refine own_alloc (L:=[_]) hO zero_tm rfl rfl ?_;clear hO;intro g5 wb hO;clear hf;have hf:=hO.cells;simp only [BC,CC,and_true]at hf))
 refine wp_loose_own 10 [det (.func (.func 86) #[] #[]),det (.slice (some ad) n c),det (.int .i64 (i:Int)),det (.pointer (some p)),det (.agg #[.float .f64 a,.float .f64 b]),det (.agg #[.float .f64 ra,.float .f64 rb]),det (.tuple #[.agg #[.float .f64 lx,.float .f64 ly,.bool lb'],.agg #[.float .f64 hx,.float .f64 hy,.bool hb],.bool E]),det (.agg #[.float .f64 lx,.float .f64 ly,.bool lb']),det (.agg #[.float .f64 hx,.float .f64 hy,.bool hb]),det (.bool E)] hO (by kernel_rfl) (by kernel_rfl) fun S sp HS HSP=>?_
 clear hO hf
 simp only [List.take_succ_cons,List.take_zero,List.drop_succ_cons,List.drop_zero]
 iterate 10
  refine wpX_step (fun K hK=>?_)
  go_simp
  first
  |refine StepY.det (by rw [HSP.out];rfl) ?_ ?_
   ·intro wz hz hF
    rw [HS.out]at hz
    obtain⟨c1,c2,c3,c4⟩:=HCELL.out _ hz.toExt
    clear hz hF
    go_simp
    exact⟨rfl,Ext.refl _⟩
  |refine StepY.det (by rw [HSP.out];rfl) ?_ ?_
   ·intro wz hz hF
    clear hz hF
    go_simp
    exact⟨rfl,Ext.refl _⟩
  |refine StepY.det (by rw [HSP.out];rfl) ?_ ?_
   ·intro wz hz hF
    clear hz hF
    go_simp
    refine(HR.out _).mono ?_
    rintro e w2 ⟨rfl,hE1⟩
    exact⟨_,rfl,rfl,hE1⟩
  |refine StepY.det (by rw [HSP.out];rfl) ?_ ?_
   ·intro wz hz hF
    clear hz hF
    go_simp
    refine(HOF.out _).mono ?_
    rintro e w2 ⟨rfl,hE1⟩
    exact⟨_,rfl,rfl,hE1⟩
  refine hK _ _ ?_
  clear hK K
 refine wpX_nil ?_
 intro wq hO hF
 clear hF HS HSP
 have hf:=hO.cells
 simp only [BC,CC,and_true]at hf
 go_wp2_with (first|((with_reducible refine at_store (T:=124) ?_);refine own_put1 (vs:=[.float .f64 lx,.float .f64 ly,.bool lb']) (T:=124) hO rfl rfl size_tm rfl rfl rfl ?_;clear hO;intro w6 hO;clear hf;have hf:=hO.cells;simp only [BC,CC,and_true]at hf)|((with_reducible refine at_store (T:=124) ?_);refine own_put0 (vs:=[.float .f64 hx,.float .f64 hy,.bool hb]) (T:=124) hO rfl rfl size_tm rfl rfl rfl ?_;clear hO;intro w7 hO;clear hf;have hf:=hO.cells;simp only [BC,CC,and_true]at hf))
 exact Wi.own_ret3 hO 1 0 rfl rfl rfl rfl rfl rfl agg_tm size_tm agg_tm size_tm rfl ⟨rfl,hO.toExt⟩
theorem over1_s (i n c ob lb a b ra rb lx ly hx hy:Nat)(lb' hb E:Bool)(ad:Addr)(w:World)(hi:i < n)(hn:n≤9223372036854775807)(hob:ob < w.heap.size)(hlb:lb < w.heap.size)(had:ad.block < w.heap.size)
  (hof:w.cell? ⟨ob,0,none⟩=some (.func (.func 90) #[] #[])) (hsl:w.cell? ⟨lb,0,none⟩=some (.slice (some ad) n c)) (k1:w.cell? (ad.add (i*2))=some (.float .f64 a)) (k2:w.cell? (ad.add (i*2+1))=some (.float .f64 b))
  (HR:Hid (∀w,Calls Tryz.prog 95 #[.agg #[.float .f64 a,.float .f64 b]] w (RetF ra rb w))) (HOF:Hid (∀w,Calls Tryz.prog 90 #[.agg #[.float .f64 ra,.float .f64 rb]] w (RetT ⟨lx,ly,lb'⟩ ⟨hx,hy,hb⟩ E w))):
  Calls Tryz.prog 140 #[.int .i64 (i:Int),.pointer (some ⟨ob,0,none⟩),.pointer (some ⟨lb,0,none⟩)] w (RetT ⟨lx,ly,lb'⟩ ⟨hx,hy,hb⟩ E w):=by
 have hO:=Own.start w
 have hf:True:=trivial
 obtain⟨p,hp⟩:∃p,ad.add (i*2)=p:=⟨_,rfl⟩
 have HCELL:Hid (∀wz,Ext w wz→wz.cell? ⟨ob,0,none⟩=some (.func (.func 90) #[] #[])∧wz.cell? ⟨lb,0,none⟩=some (.slice (some ad) n c)∧wz.cell? p=some (.float .f64 a)∧wz.cell? ⟨p.block,p.off+1,none⟩=some (.float .f64 b)):=Lib.hid (fun wz hz=>by
  refine⟨(hz.cell hob).trans hof,(hz.cell hlb).trans hsl,?_,?_⟩
  ·rw [←hp,hz.cell (by rw [block_of_add];exact had)];exact k1
  ·have:(⟨p.block,p.off+1,none⟩:Addr)=ad.add (i*2+1):=by rw [←hp,←addr2];rfl
   rw [this,hz.cell (by rw [block_of_add];exact had)];exact k2)
 have bi0:(0:Int)≤(i:Int):=by omega
 have bi1:(i:Int)<(n:Int):=by omega
 clear hof hsl k1 k2 hob hlb had hi
 go_enter Tryz.func140,Tryz.ntmps140
 go_upto_region 1 with (first|((with_reducible refine at_alloc ?_);refine own_alloc (L:=[]) hO zero_tm rfl rfl ?_;clear hO;intro g4 wa hO;clear hf;have hf:=hO.cells;simp only [BC,CC,and_true]at hf)|((with_reducible refine at_alloc ?_);refine own_alloc (L:=[_]) hO zero_tm rfl rfl ?_;clear hO;intro g5 wb hO;clear hf;have hf:=hO.cells;simp only [BC,CC,and_true]at hf))
 refine wp_loose_own 10 [det (.func (.func 90) #[] #[]),det (.slice (some ad) n c),det (.int .i64 (i:Int)),det (.pointer (some p)),det (.agg #[.float .f64 a,.float .f64 b]),det (.agg #[.float .f64 ra,.float .f64 rb]),det (.tuple #[.agg #[.float .f64 lx,.float .f64 ly,.bool lb'],.agg #[.float .f64 hx,.float .f64 hy,.bool hb],.bool E]),det (.agg #[.float .f64 lx,.float .f64 ly,.bool lb']),det (.agg #[.float .f64 hx,.float .f64 hy,.bool hb]),det (.bool E)] hO (by kernel_rfl) (by kernel_rfl) fun S sp HS HSP=>?_
 clear hO hf
 simp only [List.take_succ_cons,List.take_zero,List.drop_succ_cons,List.drop_zero]
 iterate 10
  refine wpX_step (fun K hK=>?_)
  go_simp
  first
  |refine StepY.det (by rw [HSP.out];rfl) ?_ ?_
   ·intro wz hz hF
    rw [HS.out]at hz
    obtain⟨c1,c2,c3,c4⟩:=HCELL.out _ hz.toExt
    clear hz hF
    go_simp
    exact⟨rfl,Ext.refl _⟩
  |refine StepY.det (by rw [HSP.out];rfl) ?_ ?_
   ·intro wz hz hF
    clear hz hF
    go_simp
    exact⟨rfl,Ext.refl _⟩
  |refine StepY.det (by rw [HSP.out];rfl) ?_ ?_
   ·intro wz hz hF
    clear hz hF
    go_simp
    refine(HR.out _).mono ?_
    rintro e w2 ⟨rfl,hE1⟩
    exact⟨_,rfl,rfl,hE1⟩
  |refine StepY.det (by rw [HSP.out];rfl) ?_ ?_
   ·intro wz hz hF
    clear hz hF
    go_simp
    refine(HOF.out _).mono ?_
    rintro e w2 ⟨rfl,hE1⟩
    exact⟨_,rfl,rfl,hE1⟩
  refine hK _ _ ?_
  clear hK K
 refine wpX_nil ?_
 intro wq hO hF
 clear hF HS HSP
 have hf:=hO.cells
 simp only [BC,CC,and_true]at hf
 go_wp2_with (first|((with_reducible refine at_store (T:=124) ?_);refine own_put1 (vs:=[.float .f64 lx,.float .f64 ly,.bool lb']) (T:=124) hO rfl rfl size_tm rfl rfl rfl ?_;clear hO;intro w6 hO;clear hf;have hf:=hO.cells;simp only [BC,CC,and_true]at hf)|((with_reducible refine at_store (T:=124) ?_);refine own_put0 (vs:=[.float .f64 hx,.float .f64 hy,.bool hb]) (T:=124) hO rfl rfl size_tm rfl rfl rfl ?_;clear hO;intro w7 hO;clear hf;have hf:=hO.cells;simp only [BC,CC,and_true]at hf))
 exact Wi.own_ret3 hO 1 0 rfl rfl rfl rfl rfl rfl agg_tm size_tm agg_tm size_tm rfl ⟨rfl,hO.toExt⟩
theorem over1_a (i n c ob lb a b ra rb lx ly hx hy:Nat)(lb' hb E:Bool)(ad:Addr)(w:World)(hi:i < n)(hn:n≤9223372036854775807)(hob:ob < w.heap.size)(hlb:lb < w.heap.size)(had:ad.block < w.heap.size)
  (hof:w.cell? ⟨ob,0,none⟩=some (.func (.func 88) #[] #[])) (hsl:w.cell? ⟨lb,0,none⟩=some (.slice (some ad) n c)) (k1:w.cell? (ad.add (i*2))=some (.float .f64 a)) (k2:w.cell? (ad.add (i*2+1))=some (.float .f64 b))
  (HR:Hid (∀w,Calls Tryz.prog 95 #[.agg #[.float .f64 a,.float .f64 b]] w (RetF ra rb w))) (HOF:Hid (∀w,Calls Tryz.prog 88 #[.agg #[.float .f64 ra,.float .f64 rb]] w (RetT ⟨lx,ly,lb'⟩ ⟨hx,hy,hb⟩ E w))):
  Calls Tryz.prog 140 #[.int .i64 (i:Int),.pointer (some ⟨ob,0,none⟩),.pointer (some ⟨lb,0,none⟩)] w (RetT ⟨lx,ly,lb'⟩ ⟨hx,hy,hb⟩ E w):=by
 have hO:=Own.start w
 have hf:True:=trivial
 obtain⟨p,hp⟩:∃p,ad.add (i*2)=p:=⟨_,rfl⟩
 have HCELL:Hid (∀wz,Ext w wz→wz.cell? ⟨ob,0,none⟩=some (.func (.func 88) #[] #[])∧wz.cell? ⟨lb,0,none⟩=some (.slice (some ad) n c)∧wz.cell? p=some (.float .f64 a)∧wz.cell? ⟨p.block,p.off+1,none⟩=some (.float .f64 b)):=Lib.hid (fun wz hz=>by
  refine⟨(hz.cell hob).trans hof,(hz.cell hlb).trans hsl,?_,?_⟩
  ·rw [←hp,hz.cell (by rw [block_of_add];exact had)];exact k1
  ·have:(⟨p.block,p.off+1,none⟩:Addr)=ad.add (i*2+1):=by rw [←hp,←addr2];rfl
   rw [this,hz.cell (by rw [block_of_add];exact had)];exact k2)
 have bi0:(0:Int)≤(i:Int):=by omega
 have bi1:(i:Int)<(n:Int):=by omega
 clear hof hsl k1 k2 hob hlb had hi
 go_enter Tryz.func140,Tryz.ntmps140
 go_upto_region 1 with (first|((with_reducible refine at_alloc ?_);refine own_alloc (L:=[]) hO zero_tm rfl rfl ?_;clear hO;intro g4 wa hO;clear hf;have hf:=hO.cells;simp only [BC,CC,and_true]at hf)|((with_reducible refine at_alloc ?_);refine own_alloc (L:=[_]) hO zero_tm rfl rfl ?_;clear hO;intro g5 wb hO;clear hf;have hf:=hO.cells;simp only [BC,CC,and_true]at hf))
 refine wp_loose_own 10 [det (.func (.func 88) #[] #[]),det (.slice (some ad) n c),det (.int .i64 (i:Int)),det (.pointer (some p)),det (.agg #[.float .f64 a,.float .f64 b]),det (.agg #[.float .f64 ra,.float .f64 rb]),det (.tuple #[.agg #[.float .f64 lx,.float .f64 ly,.bool lb'],.agg #[.float .f64 hx,.float .f64 hy,.bool hb],.bool E]),det (.agg #[.float .f64 lx,.float .f64 ly,.bool lb']),det (.agg #[.float .f64 hx,.float .f64 hy,.bool hb]),det (.bool E)] hO (by kernel_rfl) (by kernel_rfl) fun S sp HS HSP=>?_
 clear hO hf
 simp only [List.take_succ_cons,List.take_zero,List.drop_succ_cons,List.drop_zero]
 iterate 10
  refine wpX_step (fun K hK=>?_)
  go_simp
  first
  |refine StepY.det (by rw [HSP.out];rfl) ?_ ?_
   ·intro wz hz hF
    rw [HS.out]at hz
    obtain⟨c1,c2,c3,c4⟩:=HCELL.out _ hz.toExt
    clear hz hF
    go_simp
    exact⟨rfl,Ext.refl _⟩
  |refine StepY.det (by rw [HSP.out];rfl) ?_ ?_
   ·intro wz hz hF
    clear hz hF
    go_simp
    exact⟨rfl,Ext.refl _⟩
  |refine StepY.det (by rw [HSP.out];rfl) ?_ ?_
   ·intro wz hz hF
    clear hz hF
    go_simp
    refine(HR.out _).mono ?_
    rintro e w2 ⟨rfl,hE1⟩
    exact⟨_,rfl,rfl,hE1⟩
  |refine StepY.det (by rw [HSP.out];rfl) ?_ ?_
   ·intro wz hz hF
    clear hz hF
    go_simp
    refine(HOF.out _).mono ?_
    rintro e w2 ⟨rfl,hE1⟩
    exact⟨_,rfl,rfl,hE1⟩
  refine hK _ _ ?_
  clear hK K
 refine wpX_nil ?_
 intro wq hO hF
 clear hF HS HSP
 have hf:=hO.cells
 simp only [BC,CC,and_true]at hf
 go_wp2_with (first|((with_reducible refine at_store (T:=124) ?_);refine own_put1 (vs:=[.float .f64 lx,.float .f64 ly,.bool lb']) (T:=124) hO rfl rfl size_tm rfl rfl rfl ?_;clear hO;intro w6 hO;clear hf;have hf:=hO.cells;simp only [BC,CC,and_true]at hf)|((with_reducible refine at_store (T:=124) ?_);refine own_put0 (vs:=[.float .f64 hx,.float .f64 hy,.bool hb]) (T:=124) hO rfl rfl size_tm rfl rfl rfl ?_;clear hO;intro w7 hO;clear hf;have hf:=hO.cells;simp only [BC,CC,and_true]at hf))
 exact Wi.own_ret3 hO 1 0 rfl rfl rfl rfl rfl rfl agg_tm size_tm agg_tm size_tm rfl ⟨rfl,hO.toExt⟩
end Go.Proofs.YtngdldcgkaplbaaGreat.Fd
namespace Go.Proofs.YtngdldcgkaplbaaGreat
open Nm Rn
theorem cnt_small {t k:Nat}(h:t+k≤4611686018427387904):cnt t k=t+k:=by unfold cnt;rw [if_neg (by omega)]
theorem cntN_small {b:Bool}{t k:Nat}(h:t+k≤4611686018427387904):cntN b t k=b:=by unfold cntN;rw [decide_eq_false (by omega),Bool.or_false]
def Sm.plus (S O:Sm):Sm:=⟨S.T+O.T,S.p||O.p,S.m||O.m,S.n||O.n,S.t+O.t⟩
theorem Sm.plus_comm (S O:Sm):S.plus O=O.plus S:=by unfold Sm.plus;rw [Int.add_comm,Bool.or_comm,Bool.or_comm S.m,Bool.or_comm S.n,Nat.add_comm]
theorem Sm.plus_assoc (S O R:Sm):(S.plus O).plus R=S.plus (O.plus R):=by unfold Sm.plus;simp only [Int.add_assoc,Bool.or_assoc,Nat.add_assoc]
theorem Sm.plus_nil (S:Sm):S.plus Sm.nil=S:=by unfold Sm.plus Sm.nil;simp
theorem Sm.add_plus (S:Sm)(x:Nat)(h:S.t+1≤4611686018427387904):S.add x=S.plus (Sm.nil.add x):=by
 have h0:Sm.nil.t=0:=rfl
 have e0:cnt Sm.nil.t 1=1:=by decide
 have e1:cntN Sm.nil.n Sm.nil.t 1=false:=by decide
 unfold Sm.add
 split
 ·unfold Sm.plus;simp only [cnt_small h,e0];simp [Sm.nil]
 ·split
  ·split<;>(unfold Sm.plus;simp only [cnt_small h,cntN_small h,e0,e1];simp [Sm.nil])
  ·unfold Sm.plus Sm.lay Sm.more;simp only [cnt_small h,cntN_small h,e0,e1];simp [Sm.nil]
theorem Sm.mul_plus (S:Sm)(x y:Nat)(h:S.t+1≤4611686018427387904):S.mul x y=S.plus (Sm.nil.mul x y):=by
 have e0:cnt Sm.nil.t 1=1:=by decide
 have e1:cntN Sm.nil.n Sm.nil.t 1=false:=by decide
 unfold Sm.mul
 split
 ·exact Sm.add_plus S _ h
 ·unfold Sm.plus Sm.lay Sm.more;simp only [cnt_small h,cntN_small h,e0,e1];simp [Sm.nil]
theorem Sm.merge_plus (S O:Sm)(h:S.t+O.t≤4611686018427387904):S.merge O=S.plus O:=by
 unfold Sm.merge Sm.plus;rw [cnt_small h,cntN_small h]
def one (t:Tm):Sm:=Sm.nil.put t
theorem one_t (t:Tm):(one t).t=1:=by
 unfold one Sm.put
 split
 ·rw [Sm.mul_t];decide
 ·rw [Sm.add_t];decide
theorem Sm.put_plus (S:Sm)(t:Tm)(h:S.t+1≤4611686018427387904):S.put t=S.plus (one t):=by
 unfold one Sm.put
 split
 ·exact Sm.mul_plus S _ _ h
 ·exact Sm.add_plus S _ h
structure Sq where
 lo:Sm
 hi:Sm
 e:Bool
structure Td where
 lo:Tm
 hi:Tm
 e:Bool
def Sq.nil:Sq:=⟨Sm.nil,Sm.nil,false⟩
def Sq.plus (q r:Sq):Sq:=⟨q.lo.plus r.lo,q.hi.plus r.hi,q.e||r.e⟩
def Sq.merge (q r:Sq):Sq:=⟨q.lo.merge r.lo,q.hi.merge r.hi,q.e||r.e⟩
def Sq.take (q:Sq)(d:Td):Sq:=if d.e then⟨q.lo,q.hi,true⟩else⟨q.lo.put d.lo,q.hi.put d.hi,q.e⟩
def Sq.Ok (q:Sq):Prop:=q.lo.Ok∧q.hi.Ok
def Td.Ok (d:Td):Prop:=d.lo.Ok∧d.hi.Ok
def sq (d:Td):Sq:=if d.e then⟨Sm.nil,Sm.nil,true⟩else⟨one d.lo,one d.hi,false⟩
theorem Sq.plus_comm (q r:Sq):q.plus r=r.plus q:=by unfold Sq.plus;rw [Sm.plus_comm,Sm.plus_comm q.hi,Bool.or_comm]
theorem Sq.plus_assoc (q r s:Sq):(q.plus r).plus s=q.plus (r.plus s):=by unfold Sq.plus;simp only [Sm.plus_assoc,Bool.or_assoc]
theorem Sq.plus_nil (q:Sq):q.plus Sq.nil=q:=by unfold Sq.plus Sq.nil;simp only [Sm.plus_nil,Bool.or_false]
theorem Sq.nil_plus (q:Sq):Sq.nil.plus q=q:=by rw [Sq.plus_comm,Sq.plus_nil]
theorem Sq.Ok.nil:Sq.nil.Ok:=⟨Sm.Ok.nil,Sm.Ok.nil⟩
theorem Sq.Ok.take {q:Sq}{d:Td}(h:q.Ok)(hd:d.Ok):(q.take d).Ok:=by
 unfold Sq.take
 split
 ·exact h
 ·exact⟨put_ok' h.1 hd.1,put_ok' h.2 hd.2⟩
where put_ok' {S:Sm} {t:Tm} (h:S.Ok) (ht:t.Ok):(S.put t).Ok:=Fd.put_ok h ht
theorem Sq.Ok.merge {q r:Sq}(h:q.Ok)(k:r.Ok):(q.merge r).Ok:=⟨h.1.merge k.1,h.2.merge k.2⟩
theorem sq_t (d:Td):(sq d).lo.t≤1∧(sq d).hi.t≤1:=by
 unfold sq
 split
 ·exact⟨by decide,by decide⟩
 ·exact⟨by rw [one_t];omega,by rw [one_t];omega⟩
theorem Sq.take_plus (q:Sq)(d:Td)(h1:q.lo.t+1≤4611686018427387904)(h2:q.hi.t+1≤4611686018427387904):q.take d=q.plus (sq d):=by
 unfold Sq.take sq
 split
 ·unfold Sq.plus;simp only [Sm.plus_nil,Bool.or_true]
 ·unfold Sq.plus;simp only [Sm.put_plus _ _ h1,Sm.put_plus _ _ h2,Bool.or_false]
def sums (ds:Nat→Td)(l:List Nat):Sq:=l.foldr (fun i q=>(sq (ds i)).plus q) Sq.nil
section
variable {ds:Nat→Td}
theorem sums_t (l:List Nat):(sums ds l).lo.t≤l.length∧(sums ds l).hi.t≤l.length:=by
 induction l with
 |nil=>exact⟨Nat.le_refl _,Nat.le_refl _⟩
 |cons i l ih=>
  have:=sq_t (ds i)
  refine⟨?_,?_⟩
  ·show(sq (ds i)).lo.t+(sums ds l).lo.t≤l.length+1;omega
  ·show(sq (ds i)).hi.t+(sums ds l).hi.t≤l.length+1;omega
theorem sums_app (l m:List Nat):sums ds (l++m)=(sums ds l).plus (sums ds m):=by
 induction l with
 |nil=>exact(Sq.nil_plus _).symm
 |cons i l ih=>
  show(sq (ds i)).plus (sums ds (l++m))=((sq (ds i)).plus (sums ds l)).plus (sums ds m)
  rw [ih,Sq.plus_assoc]
theorem sums_perm {l m:List Nat}(h:l.Perm m):sums ds l=sums ds m:=by
 induction h with
 |nil=>rfl
 |cons i _ ih=>exact congrArg (fun q=>(sq (ds i)).plus q) ih
 |swap i j l=>
  show(sq (ds j)).plus ((sq (ds i)).plus _)=(sq (ds i)).plus ((sq (ds j)).plus _)
  rw [←Sq.plus_assoc,←Sq.plus_assoc,Sq.plus_comm (sq (ds j))]
 |trans _ _ h1 h2=>exact h1.trans h2
theorem takes_plus:∀(l:List Nat) (q:Sq),q.lo.t+l.length≤4611686018427387904→q.hi.t+l.length≤4611686018427387904→l.foldl (fun q i=>q.take (ds i)) q=q.plus (sums ds l)
 |[],q,_,_=>(Sq.plus_nil q).symm
 |i::l,q,h1,h2=>by
  simp only [List.length_cons]at h1 h2
  have h3:=sq_t (ds i)
  rw [List.foldl_cons,Sq.take_plus q _ (by omega) (by omega)]
  have e:=takes_plus l (q.plus (sq (ds i))) (by show q.lo.t+(sq (ds i)).lo.t+l.length≤_;omega) (by show q.hi.t+(sq (ds i)).hi.t+l.length≤_;omega)
  rw [e,Sq.plus_assoc]
  rfl
theorem takes_ok (hd:∀ i,(ds i).Ok):∀(l:List Nat) (q:Sq),q.Ok→(l.foldl (fun q i=>q.take (ds i)) q).Ok
 |[],q,h=>h
 |i::l,q,h=>takes_ok hd l _ (h.take (hd i))
def pcs (n x:Nat):List Nat:=List.range' x (min n (x+16)-x)
def did (ds:Nat→Td)(n:Nat)(acc:List Nat):Sq:=acc.foldl (fun q x=>(pcs n x).foldl (fun q i=>q.take (ds i)) q) Sq.nil
theorem did_app (n:Nat)(acc:List Nat)(x:Nat):did ds n (acc++[x])=(pcs n x).foldl (fun q i=>q.take (ds i)) (did ds n acc):=by
 unfold did
 rw [List.foldl_append]
 rfl
theorem did_flat (n:Nat)(acc:List Nat):did ds n acc=(acc.flatMap (pcs n)).foldl (fun q i=>q.take (ds i)) Sq.nil:=by
 unfold did
 generalize Sq.nil=q
 induction acc generalizing q with
 |nil=>rfl
 |cons x acc ih=>rw [List.foldl_cons,List.flatMap_cons,List.foldl_append,ih]
theorem did_ok (hd:∀ i,(ds i).Ok)(n:Nat)(acc:List Nat):(did ds n acc).Ok:=by
 rw [did_flat]
 exact takes_ok hd _ _ Sq.Ok.nil
theorem did_plus (n:Nat)(acc:List Nat)(h:(acc.flatMap (pcs n)).length≤4611686018427387904):did ds n acc=sums ds (acc.flatMap (pcs n)):=by
 rw [did_flat,takes_plus _ _ (by show 0+_≤_;omega) (by show 0+_≤_;omega),Sq.nil_plus]
theorem pcs_all (n:Nat):∀k,((List.range k).map (16*·)).flatMap (pcs n)=List.range (min n (16*k))
 |0=>by simp
 |k+1=>by
  rw [List.range_succ,List.map_append,List.flatMap_append,pcs_all n k]
  simp only [List.map_cons,List.map_nil,List.flatMap_cons,List.flatMap_nil,List.append_nil]
  unfold pcs
  by_cases h:16*k≤n
  ·rw [Nat.min_eq_right h,List.range_eq_range',List.range_eq_range']
   have e:min n (16*(k+1))=16*k+(min n (16*k+16)-16*k):=by omega
   have h1:=List.range'_append_1 (s:=0) (m:=16*k) (n:=min n (16*k+16)-16*k)
   rw [Nat.zero_add]at h1
   rw [e,h1]
  ·have e1:min n (16*k+16)-16*k=0:=by omega
   have e2:min n (16*(k+1))=n:=by omega
   have e3:min n (16*k)=n:=by omega
   rw [e1,e2,e3]
   simp
theorem pcs_whole (n:Nat):((List.range ((n+15)/16)).map (16*·)).flatMap (pcs n)=List.range n:=by
 rw [pcs_all,Nat.min_eq_left (by omega)]
def merges (ds:Nat→Td)(n:Nat)(tk:Nat→List Nat)(k:Nat):Sq:=(List.range k).foldl (fun q i=>q.merge (did ds n (tk i))) Sq.nil
theorem merges_succ (n:Nat)(tk:Nat→List Nat)(k:Nat):merges ds n tk (k+1)=(merges ds n tk k).merge (did ds n (tk k)):=by
 unfold merges
 rw [List.range_succ,List.foldl_append]
 rfl
theorem merges_plus (n:Nat)(tk:Nat→List Nat):∀k,((List.range k).flatMap fun i=>(tk i).flatMap (pcs n)).length≤4611686018427387904→merges ds n tk k=sums ds ((List.range k).flatMap fun i=>(tk i).flatMap (pcs n))
 |0,_=>rfl
 |k+1,h=>by
  rw [List.range_succ,List.flatMap_append]at h ⊢
  simp only [List.flatMap_cons,List.flatMap_nil,List.append_nil,List.length_append]at h ⊢
  rw [merges_succ,merges_plus n tk k (by omega),did_plus n _ (by omega),sums_app]
  have h1:=sums_t (ds:=ds) ((List.range k).flatMap fun i=>(tk i).flatMap (pcs n))
  have h2:=sums_t (ds:=ds) ((tk k).flatMap (pcs n))
  unfold Sq.merge Sq.plus
  rw [Sm.merge_plus _ _ (by omega),Sm.merge_plus _ _ (by omega)]
theorem merges_whole {n W:Nat}{tk:Nat→List Nat}(hn:n < 4611686018427387904)(h:List.Perm ((List.range W).flatMap tk) ((List.range ((n+15) / 16)).map (16*·))):merges ds n tk W=sums ds (List.range n):=by
 have e:(List.range W).flatMap (fun i=>(tk i).flatMap (pcs n))=((List.range W).flatMap tk).flatMap (pcs n):=by rw [List.flatMap_assoc]
 have hp:List.Perm ((List.range W).flatMap fun i=>(tk i).flatMap (pcs n)) (List.range n):=by
  rw [e,←pcs_whole n]
  exact h.flatMap_right _
 have hl:=hp.length_eq
 rw [List.length_range]at hl
 rw [merges_plus n tk W (by omega),sums_perm hp]
end
end Go.Proofs.YtngdldcgkaplbaaGreat