import Derived.Orders
import Derived.Still
import Derived.Tactics
import Derived.KernelRfl
import Derived.Test.YtngdldcgkaplbaaGreatK03
import Derived.Deep.DeepCutAuto
import Derived.StillTail
set_option linter.unusedVariables false
set_option linter.unusedSimpArgs false
set_option maxHeartbeats 40000000
set_option maxRecDepth 100000
namespace Go.Proofs.YtngdldcgkaplbaaGreat
open Go
section
variable {P:Program} {ops:Array Oper} {md:Region.Mode} {S:World→Prop}
def Gives (P:Program)(S:World→Prop)(v:Value):Result Next→Prop
 | .ok (.value u) w'=>u=v∧S w'
 | .ok .skip w'=>undef=v∧S w'
 | .ok (.enter f args) w'=>Calls P f args w' fun e w''=>e=.returned v∧S w''
 |_=>False
@[go_sem] theorem gives_value (v u:Value) (w:World):Gives P S v (.ok (.value u) w)=(u=v∧S w):=rfl
@[go_sem] theorem gives_skip (v:Value) (w:World):Gives P S v (.ok .skip w)=(undef=v∧S w):=rfl
@[go_sem] theorem gives_enter (v:Value) (f:FuncId) (args:Array Value) (w:World):Gives P S v (.ok (.enter f args) w)=Calls P f args w (fun e w''=>e=.returned v∧S w''):=rfl
def Steady (P:Program)(ops:Array Oper)(S:World→Prop)(o:Oper)(v:Value)(a:Act):Prop:=
 (Region.wanted o (yielded ops a.tmps)=true∧∀w,S w→Gives P S v ((execOp a.eval o).run P w))∨(Region.wanted o (yielded ops a.tmps)=false∧v=undef)
theorem Steady.of_same {o:Oper}{v:Value}{a a':Act}(h:Steady P ops S o v a)(he:execOp a'.eval o=execOp a.eval o)
  (hw:Region.wanted o (yielded ops a'.tmps)=Region.wanted o (yielded ops a.tmps)):Steady P ops S o v a':=by
 unfold Steady at *
 rw [he,hw]
 exact h
theorem Steady.wpOp {i:Nat}{o:Oper}{v:Value}{a:Act}{w:World}{K:Act→World→Prop}{Q:Exit→Act→World→Prop}(hi:ops[i]?=some o)(h:Steady P ops S o v a)(hw:S w)
  (hK:∀w',S w'→K (a.put o.dst v) w'):wpOp P ops Q i K a w:=by
 unfold Go.wpOp
 simp only [hi]
 rcases h with ⟨h1,h2⟩|⟨h1,rfl⟩
 ·rw [if_pos h1]
  refine .inl ?_
  have h3:=h2 w hw
  unfold Oper.wp
  generalize (execOp a.eval o).run P w=r at h3
  cases r with
  |ok n w'=>
   cases n<;>simp only [Gives]at h3<;>simp only [Oper.upon]
   case value u=>obtain⟨rfl,h4⟩:=h3;exact hK _ h4
   case skip=>obtain⟨rfl,h4⟩:=h3;exact hK _ h4
   case enter f args=>exact h3.mono fun e w'' ⟨he,h4⟩=>by subst he;exact hK _ h4
  |halt x w'=>simp only [Gives]at h3
 ·rw [if_neg (by rw [h1];simp)]
  exact hK _ hw
def wpAnyG (P:Program)(md:Region.Mode)(ops:Array Oper)(S:World→Prop)(Q:Act→Prop):Nat→Array Bool→Act→Prop
 |0,listed,a=>Region.ready md ops listed=[]∧Q a
 |f+1,listed,a=>(Region.ready md ops listed=[]→Q a) ∧
  ∀i∈Region.ready md ops listed,∃o v,ops[i]?=some o∧Steady P ops S o v a∧wpAnyG P md ops S Q f (listed.setIfInBounds i true) (a.put o.dst v)
theorem wpAny_of_G {Q:Act→Prop}{Q':Exit→Act→World→Prop}(hQ:∀ a w,Q a→S w→Q' .normal a w):∀(f:Nat) (listed:Array Bool) (a:Act) (w:World),S w →
  wpAnyG P md ops S Q f listed a→wpAny P md ops Q' f listed a w
 |0,_,_,_,hS,h=>⟨h.1,hQ _ _ h.2 hS⟩
 |f+1,_,_,_,hS,h=>⟨fun h0=>hQ _ _ (h.1 h0) hS,fun i hi=>by
   obtain⟨o,v,h1,h2,h3⟩:=h.2 i hi
   exact h2.wpOp h1 hS fun w' hS'=>wpAny_of_G hQ f _ _ w' hS' h3⟩
theorem not_listed {i:Nat}{listed:Array Bool}(h:listed.getD i true=false):¬listed.getD i false=true:=by
 intro h'
 rcases Nat.lt_or_ge i listed.size with h1|h1
 ·simp [h1]at h h'
  rw [h]at h'
  cases h'
 ·simp [Array.getElem?_eq_none h1]at h
theorem wpAnyG_first {Q:Act→Prop}{i:Nat}{oi:Oper}{v:Value}(hi:ops[i]?=some oi)(hsel:Region.noSelect ops=true) :
  ∀(f:Nat) (listed:Array Bool) (a:Act),
   (∀j oj,ops[j]?=some oj→j≠i→listed.getD j true=false→(∀e∈oj.after,Region.binds md e=true→e.on≠i)→oi.apart ops oj=true) →
   i∈Region.ready md ops listed→Steady P ops S oi v a→wpAnyG P md ops S Q f (listed.setIfInBounds i true) (a.put oi.dst v)→wpAnyG P md ops S Q (f+1) listed a:=by
 intro f
 induction f with
 |zero=>
  intro listed a _ hr hy H
  refine⟨fun h=>(by rw [h]at hr;cases hr),fun j hj=>?_⟩
  by_cases hji:j=i
  ·subst hji;exact⟨oi,v,hi,hy,H⟩
  ·have h1:=ready_mono hj hji
   rw [H.1]at h1
   cases h1
 |succ f ih=>
  intro listed a hfree hr hy H
  refine⟨fun h=>(by rw [h]at hr;cases hr),fun j hj=>?_⟩
  by_cases hji:j=i
  ·subst hji;exact⟨oi,v,hi,hy,H⟩
  ·obtain⟨o',u,h1,h2,h3⟩:=H.2 j (ready_mono hj hji)
   obtain⟨hjun,oj,hoj,hall⟩:=mem_ready.1 hj
   have e0:o'=oj:=Option.some.inj (h1.symm.trans hoj)
   subst e0
   have hnot:∀e∈o'.after,Region.binds md e=true→e.on≠i:=fun e he hb heq=>by
    have h4:=hall e he hb
    rw [heq]at h4
    exact not_listed (mem_ready.1 hr).1 h4
   obtain⟨a1,a2,a3⟩:=Oper.apart_spec (hfree j o' hoj hji hjun hnot)
   have s1:=Region.noSelect_spec hsel j o'
   have s2:=Region.noSelect_spec hsel i oi
   refine⟨o',u,hoj,h2.of_same (execOp_put o' (fun cs b=>s1 cs b hoj) a oi.dst v a1).symm (wanted_put o' a oi.dst v a1).symm,?_⟩
   refine ih (listed.setIfInBounds j true) _ (fun k ok hk hki hun hno=>?_) (ready_mono hr (Ne.symm hji)) ?_ ?_
   ·refine hfree k ok hk hki ?_ hno
    by_cases hjk:j=k
    ·subst hjk;exact hjun
    ·rw [getD_set_ne true hjk]at hun;exact hun
   ·exact hy.of_same (execOp_put oi (fun cs b=>s2 cs b hi) a o'.dst u a3) (wanted_put oi a o'.dst u a3)
   ·rw [Array.setIfInBounds_comm _ _ hji,←Act.put_comm a v u a2]
    exact h3
def wpG (P:Program)(ops:Array Oper)(S:World→Prop)(Q:Act→Prop):List Oper→Act→Prop
 |[],a=>Q a
 |o::rest,a=>if Region.wanted o (yielded ops a.tmps)then ∃v,(∀w,S w→Gives P S v ((execOp a.eval o).run P w))∧wpG P ops S Q rest (a.put o.dst v)else wpG P ops S Q rest (a.put o.dst undef)
theorem wpG_lex {Q:Act→Prop}(hs:Region.noSelect ops=true):∀(l:List Oper) (k:Nat) (listed:Array Bool) (a:Act),(∀j,l[j]?=ops[k+j]?) →
  Region.lexFrom md ops l.length k listed=true→wpG P ops S Q l a→wpAnyG P md ops S Q l.length listed a
 |[],_,_,_,_,hB,h=>⟨by simpa [Region.lexFrom]using hB,h⟩
 |o::l,k,listed,a,hl,hB,h=>by
  have h0:ops[k]?=some o:=by simpa using (hl 0).symm
  simp only [List.length_cons,Region.lexFrom,Bool.and_eq_true]at hB
  obtain⟨⟨hr,hf⟩,hB'⟩:=hB
  have step:∃v,Steady P ops S o v a∧wpG P ops S Q l (a.put o.dst v):=by
   unfold wpG at h
   by_cases hw:Region.wanted o (yielded ops a.tmps)=true
   ·rw [if_pos hw]at h
    obtain⟨v,h1,h2⟩:=h
    exact⟨v,.inl ⟨hw,h1⟩,h2⟩
   ·rw [if_neg hw]at h
    exact⟨undef,.inr ⟨by simpa using hw,rfl⟩,h⟩
  obtain⟨v,hy,hK⟩:=step
  exact wpAnyG_first h0 hs l.length listed a (Region.free_spec h0 hf) (by simpa using hr) hy
   (wpG_lex hs l (k+1) _ _ (fun j=>by have:=hl (j+1);simpa [Nat.add_assoc,Nat.add_comm 1 j]using this) hB' hK)
theorem wp_region_steady {id:Nat}{Q:Exit→Act→World→Prop}{a:Act}{w:World}{l:List Oper}(S:World→Prop)(hm:P.follows .mixedOrders=true)(hB:Region.lexB .any l.toArray=true)
  (hS:S { w with drawn:=w.drawn+1 }) (h:wpG P l.toArray S (fun a'=>∀w',S w'→Q .normal a' w') l a):(Code.region id l.toArray true).wp P Q a w:=by
 simp only [Region.lexB,Bool.and_eq_true]at hB
 refine wp_region_any hm (wpAny_of_G (S:=S) (Q:=fun a'=>∀w',S w'→Q .normal a' w') (fun _ w' h hS=>h w' hS) _ _ _ _ hS ?_)
 have:=wpG_lex (md:=.any) hB.1 l 0 (Array.replicate l.toArray.size false) a (by simp) (by simpa using hB.2) h
 simpa using this
theorem wpG_nil {Q:Act→Prop}{a:Act}(h:Q a):wpG P ops S Q [] a:=h
def StepG (P:Program)(S:World→Prop)(o:Oper)(a:Act)(K:Act→Prop):Prop:=∃v,(∀w,S w→Gives P S v ((execOp a.eval o).run P w))∧K (a.put o.dst v)
theorem StepG.mk {o:Oper}{a:Act}{K:Act→Prop}{v:Value}(h:∀ w,S w→Gives P S v ((execOp a.eval o).run P w))(k:K (a.put o.dst v)):StepG P S o a K:=⟨v,h,k⟩
theorem wpG_step {Q:Act→Prop}{a:Act}{o:Oper}{rest:List Oper}
  (h:∀K:Act→Prop,(∀a,wpG P ops S Q rest a→K a)→if Region.wanted o (yielded ops a.tmps)then StepG P S o a K else K (a.put o.dst undef)):wpG P ops S Q (o::rest) a:=
 h _ fun _ h=>h
end
end Go.Proofs.YtngdldcgkaplbaaGreat
namespace Go.Proofs.YtngdldcgkaplbaaGreat
open Go.RowKit Nm Rn
@[go_sem] theorem run_equalIn_float (P:Program) (w:World) (d:Nat) (t:TypeId) (k:FloatKind) (a b:Nat) (h:P.underlying t=some (.float k)):(Op.equalIn (d+1) t (.float k a) (.float k b)).run P w=.ok (k.format.order a b == some .eq) w:=by
 simp [Op.equalIn,run_underlying h,Op.floatEq]
theorem eqF {a b c d:Nat}(ha:a < 18446744073709551616)(hb:b < 18446744073709551616)(hc:c < 18446744073709551616)(hd:d < 18446744073709551616)(w:World):(binOp .eql 32 (.agg #[.float .f64 a,.float .f64 b]) (.agg #[.float .f64 c,.float .f64 d])).run Tryz.prog w=.ok (.bool (eqB a c&&eqB b d)) w:=by
 rw [←fo_eq ha hc,←fo_eq hb hd]
 cases h1:(FloatKind.f64.format.order a c==some .eq)<;>cases h2:(FloatKind.f64.format.order b d==some .eq)<;>go_simp<;>simp [h1,h2]
theorem eqF' {a b c d:Nat}(ha:a < 18446744073709551616)(hb:b < 18446744073709551616)(hc:c < 18446744073709551616)(hd:d < 18446744073709551616){E:Bool}(h:(eqB a c && eqB b d)=E)(w:World):(binOp .eql 32 (.agg #[.float .f64 a,.float .f64 b]) (.agg #[.float .f64 c,.float .f64 d])).run Tryz.prog w=.ok (.bool E) w:=by rw [eqF ha hb hc hd,h]
theorem pabs_E (lo hi a b:Nat)(w:World)
  (HR:Hid (∀w,Calls Tryz.prog 95 #[.agg #[.float .f64 lo,.float .f64 hi]] w (RetF a b w)))
  (hq:∀w,(binOp .eql 32 (.agg #[.float .f64 a,.float .f64 b]) (.agg #[.float .f64 infR,.float .f64 minf])).run Tryz.prog w=.ok (.bool true) w) (c:Bool):
  Calls Tryz.prog 89 #[.agg #[.float .f64 lo,.float .f64 hi]] w (RetF a b w):=by
 have HEM:=Lib.hid (fun w=>iempty_any w)
 obtain⟨I1,hI1⟩:∃I,I=infR:=⟨_,rfl⟩
 obtain⟨I2,hI2⟩:∃I,I=minf:=⟨_,rfl⟩
 rw [←hI1,←hI2]at hq HEM
 clear hI1 hI2
 go_enter Tryz.func89,Tryz.ntmps89
 go_wp2_with fail
 refine(HR.out _).mono ?_
 rintro e w2 ⟨rfl,hE2⟩
 have hbH:=((Blk.new w 32 #[.float .f64 lo,.float .f64 hi]).ext ((Ext.refl _).alloc (.cells #[.float .f64 0,.float .f64 0] 32))).ext hE2
 have hbG:=(Blk.new2 w (.cells #[.float .f64 lo,.float .f64 hi] 32) 32 #[.float .f64 0,.float .f64 0]).ext hE2
 have hEw:Ext w w2:=(((Ext.refl w).alloc _).alloc _).trans hE2
 have hbH3:=(box_set2 (.float .f64 a) (.float .f64 b) hbH hEw (Nat.le_refl _)).1
 have hE3:=(box_set2 (.float .f64 a) (.float .f64 b) hbH hEw (Nat.le_refl _)).2
 have hbG3:Blk (((w2).setCell ⟨w.heap.size,0,none⟩ (.float .f64 a)).setCell ⟨w.heap.size,1,none⟩ (.float .f64 b)) (w.heap.size+1) 32 #[.float .f64 0,.float .f64 0]:=
  (hbG.far (by show w.heap.size+1≠w.heap.size;omega) _).far (by show w.heap.size+1≠w.heap.size;omega) _
 have s0:w2.cell? ⟨w.heap.size,0,none⟩=some (.float .f64 lo):=hbH.cell 0
 have s1:w2.cell? ⟨w.heap.size,1,none⟩=some (.float .f64 hi):=hbH.cell 1
 have fs0:=hbH.frozen 0
 have fs1:=hbH.frozen 1
 have hsl:=hbH.lt
 obtain⟨G,hG⟩:∃G,G=w.heap.size+1:=⟨_,rfl⟩
 rw [←hG]at hbG3
 rw [←hG]
 have hGw:w.heap.size≤G:=by omega
 clear hG hE2 hbG hEw hbH
 go_wp2_with fail
 clear s0 s1 fs0 fs1 hsl
 obtain⟨S,hS⟩:∃S:World→Prop,S=fun wz=>Blk wz w.heap.size 32 #[.float .f64 a,.float .f64 b]∧Blk wz G 32 #[.float .f64 0,.float .f64 0]∧Ext w wz:=⟨_,rfl⟩
 have hSE:∀w w',S w→Ext w w'→S w':=fun w w' h1 h2=>by rw [hS]at h1 ⊢;exact⟨h1.1.ext h2,h1.2.1.ext h2,h1.2.2.trans h2⟩
 have hS3:S (((w2).setCell ⟨w.heap.size,0,none⟩ (.float .f64 a)).setCell ⟨w.heap.size,1,none⟩ (.float .f64 b)):=by rw [hS];exact⟨hbH3,hbG3,hE3⟩
 clear hbH3 hbG3 hE3
 generalize ((w2).setCell ⟨w.heap.size,0,none⟩ (.float .f64 a)).setCell ⟨w.heap.size,1,none⟩ (.float .f64 b)=w3 at hS3 ⊢
 have hS1:S { w3 with drawn:=w3.drawn+1 }:=hSE _ _ hS3 (Ext.refl w3).drew
 have HSS:=Lib.hid hS
 have HSE:=Lib.hid hSE
 clear hS hSE hS3
 refine wp_region_steady S (by kernel_rfl) (by kernel_rfl) hS1 ?_
 repeat (refine wpG_step (fun K hK=>?_)
         go_simp
         first
         |(refine hK _ ?_
           clear hK K)
         |(apply StepG.mk
           intro wz hz
           have hz':=hz
           rw [HSS.out]at hz'
           have g0:=hz'.1.cell 0
           have g1:=hz'.1.cell 1
           simp only [List.getElem?_toArray,List.getElem?_cons_zero,List.getElem?_cons_succ]at g0 g1
           clear hz'
           go_simp
           first
           |exact⟨rfl,hz⟩
           |(go_at_call 91;exact(HEM.out _).mono fun e w5 h5=>⟨h5.1,HSE.out _ _ hz h5.2⟩)
           refine hK _ ?_
           clear hK K))
 refine wpG_nil ?_
 intro w5 hw5
 rw [HSS.out]at hw5
 have hb5:=hw5.1
 have hg5:=hw5.2.1
 have hE5:=hw5.2.2
 clear hw5 hS1 HSE HSS S hq
 have b0:(w5).cell? ⟨w.heap.size,0,none⟩=some (.float .f64 a):=hb5.cell 0
 have b1:(w5).cell? ⟨w.heap.size,1,none⟩=some (.float .f64 b):=hb5.cell 1
 have hGl:=hg5.lt
 have q0:(w5).cell? ⟨G,0,none⟩=some (.float .f64 0):=hg5.cell 0
 have q1:(w5).cell? ⟨G,1,none⟩=some (.float .f64 0):=hg5.cell 1
 have f0:=hg5.frozen 0
 have f1:=hg5.frozen 1
 go_wp2_with fail
 exact bodyPost_ret (v:=.agg #[.float .f64 a,.float .f64 b]) (by simp [results,Tryz.results89,go_sem,hGl,q0,q1]) rfl ⟨rfl,(hE5.setCell hGw _).setCell hGw _⟩
theorem pabs_c (lo hi a b:Nat)(w:World)
  (HR:Hid (∀w,Calls Tryz.prog 95 #[.agg #[.float .f64 lo,.float .f64 hi]] w (RetF a b w)))
  (hq:∀w,(binOp .eql 32 (.agg #[.float .f64 a,.float .f64 b]) (.agg #[.float .f64 infR,.float .f64 minf])).run Tryz.prog w=.ok (.bool false) w)
  (hge:(FloatKind.f64.format.order a 0==some .gt||FloatKind.f64.format.order a 0==some .eq)=true):
  Calls Tryz.prog 89 #[.agg #[.float .f64 lo,.float .f64 hi]] w (RetF a b w):=by
 have HEM:=Lib.hid (fun w=>iempty_any w)
 obtain⟨I1,hI1⟩:∃I,I=infR:=⟨_,rfl⟩
 obtain⟨I2,hI2⟩:∃I,I=minf:=⟨_,rfl⟩
 rw [←hI1,←hI2]at hq HEM
 clear hI1 hI2
 go_enter Tryz.func89,Tryz.ntmps89
 go_wp2_with fail
 refine(HR.out _).mono ?_
 rintro e w2 ⟨rfl,hE2⟩
 have hbH:=((Blk.new w 32 #[.float .f64 lo,.float .f64 hi]).ext ((Ext.refl _).alloc (.cells #[.float .f64 0,.float .f64 0] 32))).ext hE2
 have hbG:=(Blk.new2 w (.cells #[.float .f64 lo,.float .f64 hi] 32) 32 #[.float .f64 0,.float .f64 0]).ext hE2
 have hEw:Ext w w2:=(((Ext.refl w).alloc _).alloc _).trans hE2
 have hbH3:=(box_set2 (.float .f64 a) (.float .f64 b) hbH hEw (Nat.le_refl _)).1
 have hE3:=(box_set2 (.float .f64 a) (.float .f64 b) hbH hEw (Nat.le_refl _)).2
 have hbG3:Blk (((w2).setCell ⟨w.heap.size,0,none⟩ (.float .f64 a)).setCell ⟨w.heap.size,1,none⟩ (.float .f64 b)) (w.heap.size+1) 32 #[.float .f64 0,.float .f64 0]:=
  (hbG.far (by show w.heap.size+1≠w.heap.size;omega) _).far (by show w.heap.size+1≠w.heap.size;omega) _
 have s0:w2.cell? ⟨w.heap.size,0,none⟩=some (.float .f64 lo):=hbH.cell 0
 have s1:w2.cell? ⟨w.heap.size,1,none⟩=some (.float .f64 hi):=hbH.cell 1
 have fs0:=hbH.frozen 0
 have fs1:=hbH.frozen 1
 have hsl:=hbH.lt
 obtain⟨G,hG⟩:∃G,G=w.heap.size+1:=⟨_,rfl⟩
 rw [←hG]at hbG3
 rw [←hG]
 have hGw:w.heap.size≤G:=by omega
 clear hG hE2 hbG hEw hbH
 go_wp2_with fail
 clear s0 s1 fs0 fs1 hsl
 obtain⟨S,hS⟩:∃S:World→Prop,S=fun wz=>Blk wz w.heap.size 32 #[.float .f64 a,.float .f64 b]∧Blk wz G 32 #[.float .f64 0,.float .f64 0]∧Ext w wz:=⟨_,rfl⟩
 have hSE:∀w w',S w→Ext w w'→S w':=fun w w' h1 h2=>by rw [hS]at h1 ⊢;exact⟨h1.1.ext h2,h1.2.1.ext h2,h1.2.2.trans h2⟩
 have hS3:S (((w2).setCell ⟨w.heap.size,0,none⟩ (.float .f64 a)).setCell ⟨w.heap.size,1,none⟩ (.float .f64 b)):=by rw [hS];exact⟨hbH3,hbG3,hE3⟩
 clear hbH3 hbG3 hE3
 generalize ((w2).setCell ⟨w.heap.size,0,none⟩ (.float .f64 a)).setCell ⟨w.heap.size,1,none⟩ (.float .f64 b)=w3 at hS3 ⊢
 have hS1:S { w3 with drawn:=w3.drawn+1 }:=hSE _ _ hS3 (Ext.refl w3).drew
 have HSS:=Lib.hid hS
 have HSE:=Lib.hid hSE
 clear hS hSE hS3
 refine wp_region_steady S (by kernel_rfl) (by kernel_rfl) hS1 ?_
 repeat (refine wpG_step (fun K hK=>?_)
         go_simp
         first
         |(refine hK _ ?_
           clear hK K)
         |(apply StepG.mk
           intro wz hz
           have hz':=hz
           rw [HSS.out]at hz'
           have g0:=hz'.1.cell 0
           have g1:=hz'.1.cell 1
           simp only [List.getElem?_toArray,List.getElem?_cons_zero,List.getElem?_cons_succ]at g0 g1
           clear hz'
           go_simp
           first
           |exact⟨rfl,hz⟩
           |(go_at_call 91;exact(HEM.out _).mono fun e w5 h5=>⟨h5.1,HSE.out _ _ hz h5.2⟩)
           refine hK _ ?_
           clear hK K))
 refine wpG_nil ?_
 intro w5 hw5
 rw [HSS.out]at hw5
 have hb5:=hw5.1
 have hg5:=hw5.2.1
 have hE5:=hw5.2.2
 clear hw5 hS1 HSE HSS S hq
 have b0:(w5).cell? ⟨w.heap.size,0,none⟩=some (.float .f64 a):=hb5.cell 0
 have b1:(w5).cell? ⟨w.heap.size,1,none⟩=some (.float .f64 b):=hb5.cell 1
 have hGl:=hg5.lt
 have q0:(w5).cell? ⟨G,0,none⟩=some (.float .f64 0):=hg5.cell 0
 have q1:(w5).cell? ⟨G,1,none⟩=some (.float .f64 0):=hg5.cell 1
 have f0:=hg5.frozen 0
 have f1:=hg5.frozen 1
 go_wp2_with fail
 exact bodyPost_ret (v:=.agg #[.float .f64 a,.float .f64 b]) (by simp [results,Tryz.results89,go_sem,hGl,q0,q1]) rfl ⟨rfl,(hE5.setCell hGw _).setCell hGw _⟩
theorem pabs_d (lo hi a b:Nat)(w:World)
  (HR:Hid (∀w,Calls Tryz.prog 95 #[.agg #[.float .f64 lo,.float .f64 hi]] w (RetF a b w)))
  (hq:∀w,(binOp .eql 32 (.agg #[.float .f64 a,.float .f64 b]) (.agg #[.float .f64 infR,.float .f64 minf])).run Tryz.prog w=.ok (.bool false) w)
  (hge:(FloatKind.f64.format.order a 0==some .gt||FloatKind.f64.format.order a 0==some .eq)=false)
  (hle:(FloatKind.f64.format.order b 0==some .lt||FloatKind.f64.format.order b 0==some .eq)=true)
  (r1 r2:Nat) (HN:Hid (∀w,Calls Tryz.prog 141 #[.agg #[.float .f64 a,.float .f64 b]] w (RetF r1 r2 w))):
  Calls Tryz.prog 89 #[.agg #[.float .f64 lo,.float .f64 hi]] w (RetF r1 r2 w):=by
 have HEM:=Lib.hid (fun w=>iempty_any w)
 obtain⟨I1,hI1⟩:∃I,I=infR:=⟨_,rfl⟩
 obtain⟨I2,hI2⟩:∃I,I=minf:=⟨_,rfl⟩
 rw [←hI1,←hI2]at hq HEM
 clear hI1 hI2
 go_enter Tryz.func89,Tryz.ntmps89
 go_wp2_with fail
 refine(HR.out _).mono ?_
 rintro e w2 ⟨rfl,hE2⟩
 have hbH:=((Blk.new w 32 #[.float .f64 lo,.float .f64 hi]).ext ((Ext.refl _).alloc (.cells #[.float .f64 0,.float .f64 0] 32))).ext hE2
 have hbG:=(Blk.new2 w (.cells #[.float .f64 lo,.float .f64 hi] 32) 32 #[.float .f64 0,.float .f64 0]).ext hE2
 have hEw:Ext w w2:=(((Ext.refl w).alloc _).alloc _).trans hE2
 have hbH3:=(box_set2 (.float .f64 a) (.float .f64 b) hbH hEw (Nat.le_refl _)).1
 have hE3:=(box_set2 (.float .f64 a) (.float .f64 b) hbH hEw (Nat.le_refl _)).2
 have hbG3:Blk (((w2).setCell ⟨w.heap.size,0,none⟩ (.float .f64 a)).setCell ⟨w.heap.size,1,none⟩ (.float .f64 b)) (w.heap.size+1) 32 #[.float .f64 0,.float .f64 0]:=
  (hbG.far (by show w.heap.size+1≠w.heap.size;omega) _).far (by show w.heap.size+1≠w.heap.size;omega) _
 have s0:w2.cell? ⟨w.heap.size,0,none⟩=some (.float .f64 lo):=hbH.cell 0
 have s1:w2.cell? ⟨w.heap.size,1,none⟩=some (.float .f64 hi):=hbH.cell 1
 have fs0:=hbH.frozen 0
 have fs1:=hbH.frozen 1
 have hsl:=hbH.lt
 obtain⟨G,hG⟩:∃G,G=w.heap.size+1:=⟨_,rfl⟩
 rw [←hG]at hbG3
 rw [←hG]
 have hGw:w.heap.size≤G:=by omega
 clear hG hE2 hbG hEw hbH
 go_wp2_with fail
 clear s0 s1 fs0 fs1 hsl
 obtain⟨S,hS⟩:∃S:World→Prop,S=fun wz=>Blk wz w.heap.size 32 #[.float .f64 a,.float .f64 b]∧Blk wz G 32 #[.float .f64 0,.float .f64 0]∧Ext w wz:=⟨_,rfl⟩
 have hSE:∀w w',S w→Ext w w'→S w':=fun w w' h1 h2=>by rw [hS]at h1 ⊢;exact⟨h1.1.ext h2,h1.2.1.ext h2,h1.2.2.trans h2⟩
 have hS3:S (((w2).setCell ⟨w.heap.size,0,none⟩ (.float .f64 a)).setCell ⟨w.heap.size,1,none⟩ (.float .f64 b)):=by rw [hS];exact⟨hbH3,hbG3,hE3⟩
 clear hbH3 hbG3 hE3
 generalize ((w2).setCell ⟨w.heap.size,0,none⟩ (.float .f64 a)).setCell ⟨w.heap.size,1,none⟩ (.float .f64 b)=w3 at hS3 ⊢
 have hS1:S { w3 with drawn:=w3.drawn+1 }:=hSE _ _ hS3 (Ext.refl w3).drew
 have HSS:=Lib.hid hS
 have HSE:=Lib.hid hSE
 clear hS hSE hS3
 refine wp_region_steady S (by kernel_rfl) (by kernel_rfl) hS1 ?_
 repeat (refine wpG_step (fun K hK=>?_)
         go_simp
         first
         |(refine hK _ ?_
           clear hK K)
         |(apply StepG.mk
           intro wz hz
           have hz':=hz
           rw [HSS.out]at hz'
           have g0:=hz'.1.cell 0
           have g1:=hz'.1.cell 1
           simp only [List.getElem?_toArray,List.getElem?_cons_zero,List.getElem?_cons_succ]at g0 g1
           clear hz'
           go_simp
           first
           |exact⟨rfl,hz⟩
           |(go_at_call 91;exact(HEM.out _).mono fun e w5 h5=>⟨h5.1,HSE.out _ _ hz h5.2⟩)
           refine hK _ ?_
           clear hK K))
 refine wpG_nil ?_
 intro w5 hw5
 rw [HSS.out]at hw5
 have hb5:=hw5.1
 have hg5:=hw5.2.1
 have hE5:=hw5.2.2
 clear hw5 hS1 HSE HSS S hq
 have b0:(w5).cell? ⟨w.heap.size,0,none⟩=some (.float .f64 a):=hb5.cell 0
 have b1:(w5).cell? ⟨w.heap.size,1,none⟩=some (.float .f64 b):=hb5.cell 1
 have hGl:=hg5.lt
 have q0:(w5).cell? ⟨G,0,none⟩=some (.float .f64 0):=hg5.cell 0
 have q1:(w5).cell? ⟨G,1,none⟩=some (.float .f64 0):=hg5.cell 1
 have f0:=hg5.frozen 0
 have f1:=hg5.frozen 1
 go_wp2_with fail
 refine(HN.out _).mono ?_
 rintro e w6 ⟨rfl,hE6⟩
 have hg6:=hg5.ext hE6
 have hE7:=hE5.trans hE6
 clear b0 b1 q0 q1 f0 f1 hGl hb5 hg5 hE5 hE6
 have hGl:=hg6.lt
 have q0:w6.cell? ⟨G,0,none⟩=some (.float .f64 0):=hg6.cell 0
 have q1:w6.cell? ⟨G,1,none⟩=some (.float .f64 0):=hg6.cell 1
 have f0:=hg6.frozen 0
 have f1:=hg6.frozen 1
 go_wp2_with fail
 exact bodyPost_ret (v:=.agg #[.float .f64 r1,.float .f64 r2]) (by simp [results,Tryz.results89,go_sem,hGl,q0,q1]) rfl ⟨rfl,(hE7.setCell hGw _).setCell hGw _⟩
theorem pabs_m (lo hi a b:Nat)(w:World)
  (HR:Hid (∀w,Calls Tryz.prog 95 #[.agg #[.float .f64 lo,.float .f64 hi]] w (RetF a b w)))
  (hq:∀w,(binOp .eql 32 (.agg #[.float .f64 a,.float .f64 b]) (.agg #[.float .f64 infR,.float .f64 minf])).run Tryz.prog w=.ok (.bool false) w)
  (hge:(FloatKind.f64.format.order a 0==some .gt||FloatKind.f64.format.order a 0==some .eq)=false)
  (hle:(FloatKind.f64.format.order b 0==some .lt||FloatKind.f64.format.order b 0==some .eq)=false)
  (na m:Nat) (u1:∀w,(Go.Op.unary .neg (.float .f64 a)).run Tryz.prog w=.ok (.float .f64 na) w) (hmx:∀ats ty w,(Builtin.max_ ats ty #[.float .f64 na,.float .f64 b]).run Tryz.prog w=.ok (.float .f64 m) w):
  Calls Tryz.prog 89 #[.agg #[.float .f64 lo,.float .f64 hi]] w (RetF 0 m w):=by
 have HEM:=Lib.hid (fun w=>iempty_any w)
 obtain⟨I1,hI1⟩:∃I,I=infR:=⟨_,rfl⟩
 obtain⟨I2,hI2⟩:∃I,I=minf:=⟨_,rfl⟩
 rw [←hI1,←hI2]at hq HEM
 clear hI1 hI2
 go_enter Tryz.func89,Tryz.ntmps89
 go_wp2_with fail
 refine(HR.out _).mono ?_
 rintro e w2 ⟨rfl,hE2⟩
 have hbH:=((Blk.new w 32 #[.float .f64 lo,.float .f64 hi]).ext ((Ext.refl _).alloc (.cells #[.float .f64 0,.float .f64 0] 32))).ext hE2
 have hbG:=(Blk.new2 w (.cells #[.float .f64 lo,.float .f64 hi] 32) 32 #[.float .f64 0,.float .f64 0]).ext hE2
 have hEw:Ext w w2:=(((Ext.refl w).alloc _).alloc _).trans hE2
 have hbH3:=(box_set2 (.float .f64 a) (.float .f64 b) hbH hEw (Nat.le_refl _)).1
 have hE3:=(box_set2 (.float .f64 a) (.float .f64 b) hbH hEw (Nat.le_refl _)).2
 have hbG3:Blk (((w2).setCell ⟨w.heap.size,0,none⟩ (.float .f64 a)).setCell ⟨w.heap.size,1,none⟩ (.float .f64 b)) (w.heap.size+1) 32 #[.float .f64 0,.float .f64 0]:=
  (hbG.far (by show w.heap.size+1≠w.heap.size;omega) _).far (by show w.heap.size+1≠w.heap.size;omega) _
 have s0:w2.cell? ⟨w.heap.size,0,none⟩=some (.float .f64 lo):=hbH.cell 0
 have s1:w2.cell? ⟨w.heap.size,1,none⟩=some (.float .f64 hi):=hbH.cell 1
 have fs0:=hbH.frozen 0
 have fs1:=hbH.frozen 1
 have hsl:=hbH.lt
 obtain⟨G,hG⟩:∃G,G=w.heap.size+1:=⟨_,rfl⟩
 rw [←hG]at hbG3
 rw [←hG]
 have hGw:w.heap.size≤G:=by omega
 clear hG hE2 hbG hEw hbH
 go_wp2_with fail
 clear s0 s1 fs0 fs1 hsl
 obtain⟨S,hS⟩:∃S:World→Prop,S=fun wz=>Blk wz w.heap.size 32 #[.float .f64 a,.float .f64 b]∧Blk wz G 32 #[.float .f64 0,.float .f64 0]∧Ext w wz:=⟨_,rfl⟩
 have hSE:∀w w',S w→Ext w w'→S w':=fun w w' h1 h2=>by rw [hS]at h1 ⊢;exact⟨h1.1.ext h2,h1.2.1.ext h2,h1.2.2.trans h2⟩
 have hS3:S (((w2).setCell ⟨w.heap.size,0,none⟩ (.float .f64 a)).setCell ⟨w.heap.size,1,none⟩ (.float .f64 b)):=by rw [hS];exact⟨hbH3,hbG3,hE3⟩
 clear hbH3 hbG3 hE3
 generalize ((w2).setCell ⟨w.heap.size,0,none⟩ (.float .f64 a)).setCell ⟨w.heap.size,1,none⟩ (.float .f64 b)=w3 at hS3 ⊢
 have hS1:S { w3 with drawn:=w3.drawn+1 }:=hSE _ _ hS3 (Ext.refl w3).drew
 have HSS:=Lib.hid hS
 have HSE:=Lib.hid hSE
 clear hS hSE hS3
 refine wp_region_steady S (by kernel_rfl) (by kernel_rfl) hS1 ?_
 repeat (refine wpG_step (fun K hK=>?_)
         go_simp
         first
         |(refine hK _ ?_
           clear hK K)
         |(apply StepG.mk
           intro wz hz
           have hz':=hz
           rw [HSS.out]at hz'
           have g0:=hz'.1.cell 0
           have g1:=hz'.1.cell 1
           simp only [List.getElem?_toArray,List.getElem?_cons_zero,List.getElem?_cons_succ]at g0 g1
           clear hz'
           go_simp
           first
           |exact⟨rfl,hz⟩
           |(go_at_call 91;exact(HEM.out _).mono fun e w5 h5=>⟨h5.1,HSE.out _ _ hz h5.2⟩)
           refine hK _ ?_
           clear hK K))
 refine wpG_nil ?_
 intro w5 hw5
 rw [HSS.out]at hw5
 have hb5:=hw5.1
 have hg5:=hw5.2.1
 have hE5:=hw5.2.2
 clear hw5 hS1 HSE HSS S hq
 have b0:(w5).cell? ⟨w.heap.size,0,none⟩=some (.float .f64 a):=hb5.cell 0
 have b1:(w5).cell? ⟨w.heap.size,1,none⟩=some (.float .f64 b):=hb5.cell 1
 have hGl:=hg5.lt
 have q0:(w5).cell? ⟨G,0,none⟩=some (.float .f64 0):=hg5.cell 0
 have q1:(w5).cell? ⟨G,1,none⟩=some (.float .f64 0):=hg5.cell 1
 have f0:=hg5.frozen 0
 have f1:=hg5.frozen 1
 go_wp2_with fail
 exact bodyPost_ret (v:=.agg #[.float .f64 0,.float .f64 m]) (by simp [results,Tryz.results89,go_sem,hGl,q0,q1]) rfl ⟨rfl,(hE5.setCell hGw _).setCell hGw _⟩
theorem plain_ne {x:Nat}(h:plN x=x):x≠9223372036854775808:=by
 intro e;subst e
 have:plN 9223372036854775808=0:=rfl
 omega
theorem pl_self {x:Nat}(h:x≠9223372036854775808):pl x=x:=by unfold pl;rw [if_neg h]
theorem key_inj {x y:Nat}(hx:x < 18446744073709551616)(hy:y < 18446744073709551616)(px:x≠9223372036854775808)(py:y≠9223372036854775808)(h:key x=key y):x=y:=by
 revert h
 unfold key sg mg
 split<;>split<;>rename_i h1 h2<;>simp only [decide_eq_true_eq]at h1 h2<;>(intro h;omega)
theorem ng_mg {x:Nat}(hx:x < 18446744073709551616)(h:key x < 0):ng x=mg x∧mg x≠9223372036854775808:=by
 revert h;unfold key ng
 cases hs:sg x
 ·intro h;rw [if_neg (by simp)]at h;omega
 ·intro _
  have:=of_decide_eq_true hs
  rw [if_pos rfl];unfold mg;omega
theorem rd_rd {lo hi:Nat}(hl:lo < 18446744073709551616)(hh:hi < 18446744073709551616)(h:¬ (rdLo lo hi=infR∧rdHi lo hi=minf)) :
  rdLo (rdLo lo hi) (rdHi lo hi)=rdLo lo hi∧rdHi (rdLo lo hi) (rdHi lo hi)=rdHi lo hi:=by
 obtain⟨g1,g2,g3,g4,g5,g6,g7,g8⟩:=rd_ends hl hh h
 have p1:=plain_ne (rdLo_pl lo hi)
 have p2:=plain_ne (rdHi_pl lo hi)
 generalize rdLo lo hi=p at *
 generalize rdHi lo hi=q at *
 have r1:=key_le g3
 have r2:=key_le g4
 have i1:=key_eq_inf g1 g3
 have i2:=key_eq_minf g2 g4
 have hs:sndB p q=true:=by
  unfold sndB leB ltB
  rw [g3,g4,nan_inf,nan_minf,key_inf,key_minf]
  simp only [Bool.not_false,Bool.true_and,Bool.and_eq_true,decide_eq_true_eq]
  refine⟨⟨g8,?_⟩,?_⟩<;>omega
 unfold rdLo rdHi
 rw [hs,if_pos rfl,if_pos rfl,pl_self p1,pl_self p2]
 exact⟨rfl,rfl⟩
theorem pabs_any (lo hi:Nat)(w:World)(hl:lo < 18446744073709551616)(hh:hi < 18446744073709551616) :
  Calls Tryz.prog 89 #[.agg #[.float .f64 lo,.float .f64 hi]] w (RetF (abLo lo hi) (abHi lo hi) w):=by
 have eLo:abLo lo hi=if rdLo lo hi=infR∧rdHi lo hi=minf then infR else pl (szLo (rdLo lo hi) (rdHi lo hi)):=rfl
 have eHi:abHi lo hi=if rdLo lo hi=infR∧rdHi lo hi=minf then minf else pl (szHi (rdLo lo hi) (rdHi lo hi)):=rfl
 have HR:=Lib.hid (fun w=>iread_any lo hi w hl hh)
 by_cases he:rdLo lo hi=infR∧rdHi lo hi=minf
 ·rw [eLo,eHi,if_pos he,if_pos he]
  rw [he.1,he.2]at HR
  exact pabs_E lo hi infR minf w HR (eqF' infR_lt minf_lt infR_lt minf_lt rfl) true
 ·rw [eLo,eHi,if_neg he,if_neg he]
  obtain⟨g1,g2,g3,g4,g5,g6,g7,g8⟩:=rd_ends hl hh he
  have p1:=plain_ne (rdLo_pl lo hi)
  have p2:=plain_ne (rdHi_pl lo hi)
  have hrr:=rd_rd hl hh he
  have hng:ngLo (rdLo lo hi) (rdHi lo hi)=pl (ng (rdHi lo hi))∧ngHi (rdLo lo hi) (rdHi lo hi)=pl (ng (rdLo lo hi)):=by
   unfold ngLo ngHi
   rw [hrr.1,hrr.2,if_neg he,if_neg he]
   exact⟨rfl,rfl⟩
  clear eLo eHi hrr g7
  generalize rdLo lo hi=p at *
  generalize rdHi lo hi=q at *
  have hq:=eqF' (E:=false) g1 g2 infR_lt minf_lt (by
   rw [eq_key g3 nan_inf,eq_key g4 nan_minf,key_inf,key_minf,Bool.and_eq_false_iff,decide_eq_false_iff_not,decide_eq_false_iff_not,key_eq_inf g1 g3]
   exact .inl g5)
  have z0:(0:Nat)<18446744073709551616:=by omega
  have n0:isNaN 0=false:=rfl
  have k0:key 0=0:=rfl
  have hge:=fo_ge g1 z0
  have hle:=fo_le g2 z0
  rw [le_key n0 g3,k0]at hge
  rw [le_key g4 n0,k0]at hle
  have kp:=@mx_key p
  have kq:=@mx_key q
  have sHi:szHi p q=if key (mx q)<key (mx p)then mx p else mx q:=rfl
  have sLo:szLo p q=if key p≤0∧0≤key q then 0 else if key (mx q)<key (mx p)then mx q else mx p:=rfl
  by_cases c1:0≤key p
  ·rw [decide_eq_true c1]at hge
   have m1:mx p=p:=by unfold mx;rw [if_neg (by omega)]
   have m2:mx q=q:=by unfold mx;rw [if_neg (by omega)]
   rw [m1,m2]at sHi sLo
   have r1:pl (szLo p q)=p:=by
    rw [sLo,if_neg (c:=key q<key p) (by omega)]
    split
    ·rename_i g
     have:p=0:=key_inj g1 z0 p1 (by omega) (by omega)
     rw [this];rfl
    ·exact pl_self p1
   have r2:pl (szHi p q)=q:=by rw [sHi,if_neg (by omega)];exact pl_self p2
   rw [r1,r2]
   exact pabs_c lo hi p q w HR hq hge
  ·rw [decide_eq_false c1]at hge
   have hn1:=ng_mg g1 (by omega)
   have m1:mx p=ng p:=by unfold mx;rw [if_pos (by omega),hn1.1]
   have kp':key (ng p)=-key p:=key_ng g1
   rw [m1]at sHi sLo
   by_cases c2:key q≤0
   ·rw [decide_eq_true c2]at hle
    have hN:=fun w=>ineg_any p q w g1 g2
    rw [hng.1,hng.2]at hN
    have r12:pl (szLo p q)=pl (ng q)∧pl (szHi p q)=pl (ng p):=by
     by_cases c3:key q=0
     ·have e:q=0:=key_inj g2 z0 p2 (by omega) (by omega)
      subst e
      have m2:mx 0=0:=rfl
      rw [m2]at sHi sLo
      rw [sLo,sHi,if_pos ⟨by omega,by omega⟩,if_pos (by omega)]
      exact⟨rfl,rfl⟩
     ·have hn2:=ng_mg g2 (by omega)
      have m2:mx q=ng q:=by unfold mx;rw [if_pos (by omega),hn2.1]
      have kq':key (ng q)=-key q:=key_ng g2
      rw [m2]at sHi sLo
      rw [sLo,sHi,if_neg (fun h=>by omega)]
      by_cases c4:key (ng q)<key (ng p)
      ·rw [if_pos c4,if_pos c4];exact⟨rfl,rfl⟩
      ·have e:p=q:=key_inj g1 g2 p1 p2 (by omega)
       rw [if_neg c4,if_neg c4,e];exact⟨rfl,rfl⟩
    rw [r12.1,r12.2]
    exact pabs_d lo hi p q w HR hq hge hle _ _ (Lib.hid hN)
   ·rw [decide_eq_false c2]at hle
    have m2:mx q=q:=by unfold mx;rw [if_neg (by omega)]
    rw [m2]at sHi sLo
    have nn:isNaN (ng p)=false:=by
     have h3:=g3
     unfold isNaN at h3 ⊢;rw [mg_ng g1];exact h3
    have pn:ng p≠9223372036854775808:=by rw [hn1.1];exact hn1.2
    have r1:pl (szLo p q)=0:=by rw [sLo,if_pos ⟨by omega,by omega⟩];rfl
    have r2:pl (szHi p q)=if key (ng p)<key q then q else ng p:=by
     rw [sHi]
     by_cases c4:key q<key (ng p)
     ·rw [if_pos c4,if_neg (by omega)];exact pl_self pn
     ·rw [if_neg c4]
      by_cases c5:key (ng p)<key q
      ·rw [if_pos c5];exact pl_self p2
      ·rw [if_neg c5,pl_self p2]
       exact key_inj g2 (ng_lt g1) p2 pn (by omega)
    rw [r1,r2]
    have hmx:=fun ats ty w=>max_run (ng_lt g1) g2 nn g4 (fun h=>key_inj (ng_lt g1) g2 pn p2 h) Tryz.prog w ats ty
    have u1:∀w,(Go.Op.unary .neg (.float .f64 p)).run Tryz.prog w=.ok (.float .f64 (ng p)) w:=by
     intro w
     have:Go.Op.negFloat .f64 p=ng p:=ng_xor g1
     rw [←this];rfl
    exact pabs_m lo hi p q w HR hq hge hle _ _ u1 hmx
end Go.Proofs.YtngdldcgkaplbaaGreat
namespace Go.Proofs.YtngdldcgkaplbaaGreat
open Go
abbrev Sp:=Option Value×(Value→World→Prop)
def det (c:Value):Sp:=(some c,fun _ _=>True)
def anyOf (R:Value→World→Prop):Sp:=(none,R)
def fact (s:Sp)(v:Value)(w:World):Prop:=match s.1 with
 |some _=>True
 |none=>∃w0,Ext w0 w∧s.2 v w0
def told (s:Sp)(v:Value)(w:World):Prop:=match s.1 with
 |some c=>v=c
 |none=>s.2 v w
def may (s:Sp)(v:Value):Prop:=match s.1 with
 |some c=>v=c
 |none=>True
theorem fact.ext {s:Sp}{v:Value}{w w':World}(h:fact s v w)(he:Ext w w'):fact s v w':=by
 unfold fact at *
 split
 ·trivial
 ·rename_i h0
  rw [h0]at h
  obtain⟨w0,h1,h2⟩:=h
  exact⟨w0,h1.trans he,h2⟩
theorem told.fact {s:Sp}{v:Value}{w:World}(h:told s v w):Go.Proofs.YtngdldcgkaplbaaGreat.fact s v w:=by
 unfold told at h
 unfold Go.Proofs.YtngdldcgkaplbaaGreat.fact
 split
 ·trivial
 ·rename_i h0
  rw [h0]at h
  exact⟨w,Ext.refl w,h⟩
theorem told.may {s:Sp}{v:Value}{w:World}(h:told s v w):Go.Proofs.YtngdldcgkaplbaaGreat.may s v:=by
 unfold told at h
 unfold Go.Proofs.YtngdldcgkaplbaaGreat.may
 cases h0:s.1 with
 |some c=>rw [h0]at h;exact h
 |none=>trivial
theorem may_ex (s:Sp):∃v,may s v:=by
 unfold may
 cases s.1 with
 |some c=>exact⟨c,rfl⟩
 |none=>exact⟨undef,trivial⟩
section
variable {P:Program} {ops:Array Oper} {md:Region.Mode} {S:World→Prop} {sp:Nat→Sp}
def GivesL (P:Program)(s:Sp)(w0:World):Result Next→Prop
 | .ok (.value u) w'=>told s u w'∧Ext w0 w'
 | .ok .skip w'=>told s undef w'∧Ext w0 w'
 | .ok (.enter f args) w'=>Calls P f args w' fun e w''=>∃u,e=.returned u∧told s u w''∧Ext w0 w''
 |_=>False
@[go_sem] theorem givesL_value (s:Sp) (u:Value) (w0 w:World):GivesL P s w0 (.ok (.value u) w)=(told s u w∧Ext w0 w):=rfl
@[go_sem] theorem givesL_skip (s:Sp) (w0 w:World):GivesL P s w0 (.ok .skip w)=(told s undef w∧Ext w0 w):=rfl
@[go_sem] theorem givesL_enter (s:Sp) (w0:World) (f:FuncId) (args:Array Value) (w:World):GivesL P s w0 (.ok (.enter f args) w)=Calls P f args w (fun e w''=>∃ u,e=.returned u∧told s u w''∧Ext w0 w''):=rfl
def upd (V:Nat→Value)(i:Nat)(v:Value):Nat→Value:=fun j=>if j=i then v else V j
theorem upd_self (V:Nat→Value)(i:Nat)(v:Value):upd V i v i=v:=by simp [upd]
theorem upd_ne (V:Nat→Value){i j:Nat}(v:Value)(h:j≠i):upd V i v j=V j:=by simp [upd,h]
theorem upd_comm (V:Nat→Value){i j:Nat}(v u:Value)(h:j≠i):upd (upd V i v) j u=upd (upd V j u) i v:=by
 funext k
 unfold upd
 by_cases h1:k=i
 ·subst h1;rw [if_pos rfl,if_neg (Ne.symm h),if_pos rfl]
 ·by_cases h2:k=j
  ·subst h2;rw [if_pos rfl,if_neg h1,if_pos rfl]
  ·rw [if_neg h2,if_neg h1,if_neg h1,if_neg h2]
def Sees (md:Region.Mode)(sp:Nat→Sp)(o:Oper)(V:Nat→Value)(w:World):Prop:=∀e∈o.after,Region.binds md e=true→fact (sp e.on) (V e.on) w
def AL (ops:Array Oper)(s:Sp)(o:Oper)(a:Act)(v:Value):Prop:=if Region.wanted o (yielded ops a.tmps)=true then may s v else v=undef
theorem AL_ex (s:Sp)(o:Oper)(a:Act):∃v,AL ops s o a v:=by
 unfold AL
 split
 ·exact may_ex s
 ·exact⟨undef,rfl⟩
structure StepL (P:Program)(ops:Array Oper)(md:Region.Mode)(S:World→Prop)(sp:Nat→Sp)(i:Nat)(o:Oper)(V:Nat→Value)(a:Act)(K:Value→Prop):Prop where
 gives:Region.wanted o (yielded ops a.tmps)=true→∀w,S w→Sees md sp o V w→GivesL P (sp i) w ((execOp a.eval o).run P w)
 none_:Region.wanted o (yielded ops a.tmps)=false→(sp i).1.isSome=true
 next:∀v,AL ops (sp i) o a v→K v
def wpAnyX (P:Program)(md:Region.Mode)(ops:Array Oper)(S:World→Prop)(sp:Nat→Sp)(n:Nat)(Q:Array Bool→(Nat→Value)→Act→Prop):Nat→Array Bool→(Nat→Value)→Act→Prop
 |0,listed,V,a=>Q listed V a
 |f+1,listed,V,a=>Region.ready md ops listed≠[] ∧
  ∀i∈Region.ready md ops listed,i<n∧∃o,ops[i]?=some o∧StepL P ops md S sp i o V a fun u=>wpAnyX P md ops S sp n Q f (listed.setIfInBounds i true) (upd V i u) (a.put o.dst u)
def Inv (sp:Nat→Sp)(listed:Array Bool)(V:Nat→Value)(w:World):Prop:=∀j,listed.getD j false=true→fact (sp j) (V j) w
theorem Inv.ext {listed:Array Bool}{V:Nat→Value}{w w':World}(h:Inv sp listed V w)(he:Ext w w'):Inv sp listed V w':=fun j hj=>(h j hj).ext he
theorem Inv.set {listed:Array Bool}{V:Nat→Value}{w:World}{i:Nat}{u:Value}(h:Inv sp listed V w)(hu:fact (sp i) u w):Inv sp (listed.setIfInBounds i true) (upd V i u) w:=by
 intro j hj
 by_cases hji:j=i
 ·subst hji;rw [upd_self];exact hu
 ·rw [upd_ne _ _ hji]
  rw [getD_set_ne false (Ne.symm hji)]at hj
  exact h j hj
theorem wpAny_of_X {n g:Nat}{Q:Array Bool→(Nat→Value)→Act→Prop}{Q':Exit→Act→World→Prop}(hSE:∀ w w',S w→Ext w w'→S w')
  (hQ:∀listed V a w,Q listed V a→S w→Inv sp listed V w→wpAny P md ops Q' g listed a w):
  ∀(f:Nat) (listed:Array Bool) (V:Nat→Value) (a:Act) (w:World),S w→Inv sp listed V w→wpAnyX P md ops S sp n Q f listed V a→wpAny P md ops Q' (f+g) listed a w
 |0,_,_,_,_,hS,hI,h=>by rw [Nat.zero_add];exact hQ _ _ _ _ h hS hI
 |f+1,listed,V,a,w,hS,hI,h=>by
  rw [show f+1+g=(f+g)+1 by omega]
  refine⟨fun h0=>absurd h0 h.1,fun i hi=>?_⟩
  obtain⟨-,o,ho,hst⟩:=h.2 i hi
  obtain⟨hun,o',ho',hall⟩:=mem_ready.1 hi
  have e0:o'=o:=Option.some.inj (ho'.symm.trans ho)
  subst e0
  have hsee:Sees md sp o' V w:=fun e he hb=>hI _ (hall e he hb)
  unfold Go.wpOp
  simp only [ho]
  by_cases hw:Region.wanted o' (yielded ops a.tmps)=true
  ·rw [if_pos hw]
   refine .inl ?_
   have h3:=hst.gives hw w hS hsee
   have go:∀u w',told (sp i) u w'→Ext w w'→wpAny P md ops Q' (f+g) (listed.setIfInBounds i true) (a.put o'.dst u) w':=fun u w' h5 h6=>
    wpAny_of_X hSE hQ f _ _ _ w' (hSE _ _ hS h6) ((hI.ext h6).set h5.fact) (hst.next u (by unfold AL;rw [if_pos hw];exact h5.may))
   unfold Oper.wp
   generalize (execOp a.eval o').run P w=r at h3
   cases r with
   |ok x w'=>
    cases x<;>simp only [GivesL]at h3<;>simp only [Oper.upon]
    case value u=>exact go u w' h3.1 h3.2
    case skip=>exact go undef w' h3.1 h3.2
    case enter f' args=>exact h3.mono fun e w'' ⟨u,he,h5,h6⟩=>by subst he;exact go u w'' h5 h6
   |halt x w'=>simp only [GivesL]at h3
  ·rw [if_neg hw]
   have hw':Region.wanted o' (yielded ops a.tmps)=false:=by simpa using hw
   refine wpAny_of_X hSE hQ f _ _ _ w hS (hI.set ?_) (hst.next undef (by unfold AL;rw [if_neg hw]))
   have h7:=hst.none_ hw'
   unfold fact
   cases h8:(sp i).1 with
   |some c=>trivial
   |none=>rw [h8]at h7;cases h7
theorem wpAnyX_first {n i:Nat}{oi:Oper}{Q:Array Bool→(Nat→Value)→Act→Prop}(hi:ops[i]?=some oi)(hsel:Region.noSelect ops=true)
  (hs:Region.sinkB md ops n=true) (hc:Region.chainB md ops n=true) (hn:n<ops.size) (hin:i<n)
  (hdone:∀listed V a,Q listed V a→∀j∈Region.ready md ops listed,n≤j):
  ∀(f:Nat) (listed:Array Bool) (V:Nat→Value) (a:Act),HeadInv md ops n listed →
   (∀j oj,ops[j]?=some oj→j≠i→listed.getD j true=false→(∀e∈oj.after,Region.binds md e=true→e.on≠i)→oi.apart ops oj=true) →
   i∈Region.ready md ops listed →
   (StepL P ops md S sp i oi V a fun v=>wpAnyX P md ops S sp n Q f (listed.setIfInBounds i true) (upd V i v) (a.put oi.dst v))→wpAnyX P md ops S sp n Q (f+1) listed V a:=by
 intro f
 induction f with
 |zero=>
  intro listed V a inv _ hr H
  have hun:=(mem_ready.1 hr).1
  refine⟨fun h=>(by rw [h]at hr;cases hr),fun j hj=>?_⟩
  have hjn:j<n:=by
   rcases Nat.lt_or_ge j n with h|h
   ·exact h
   ·exact absurd hj (tail_waits hs hc hn inv _ i rfl hin hun j h)
  by_cases hji:j=i
  ·subst hji;exact⟨hjn,oi,hi,H⟩
  ·obtain⟨v,hv⟩:=AL_ex (ops:=ops) (sp i) oi a
   have:=hdone _ _ _ (H.next v hv) j (ready_mono hj hji)
   omega
 |succ f ih=>
  intro listed V a inv hfree hr H
  have hun:=(mem_ready.1 hr).1
  refine⟨fun h=>(by rw [h]at hr;cases hr),fun j hj=>?_⟩
  have hjn:j<n:=by
   rcases Nat.lt_or_ge j n with h|h
   ·exact h
   ·exact absurd hj (tail_waits hs hc hn inv _ i rfl hin hun j h)
  refine⟨hjn,?_⟩
  by_cases hji:j=i
  ·subst hji;exact⟨oi,hi,H⟩
  ·obtain⟨hjun,oj,hoj,hall⟩:=mem_ready.1 hj
   have hnot:∀e∈oj.after,Region.binds md e=true→e.on≠i:=fun e he hb heq=>by
    have h1:=hall e he hb
    rw [heq,getD_both hun]at h1
    cases h1
   have hnot':∀e∈oi.after,Region.binds md e=true→e.on≠j:=fun e he hb heq=>by
    obtain⟨-,oi',hoi',hall'⟩:=mem_ready.1 hr
    have:oi'=oi:=Option.some.inj (hoi'.symm.trans hi)
    subst this
    have h1:=hall' e he hb
    rw [heq,getD_both hjun]at h1
    cases h1
   obtain⟨a1,a2,a3⟩:=Oper.apart_spec (hfree j oj hoj hji hjun hnot)
   have s1:=Region.noSelect_spec hsel j oj
   have s2:=Region.noSelect_spec hsel i oi
   have hj2:∀v,AL ops (sp i) oi a v→StepL P ops md S sp j oj (upd V i v) (a.put oi.dst v) fun u=>wpAnyX P md ops S sp n Q f ((listed.setIfInBounds i true).setIfInBounds j true) (upd (upd V i v) j u) ((a.put oi.dst v).put oj.dst u):=fun v hv=>by
    obtain⟨-,o',ho',h2⟩:=(H.next v hv).2 j (ready_mono hj hji)
    have:o'=oj:=Option.some.inj (ho'.symm.trans hoj)
    subst this
    exact h2
   have wj:∀v,Region.wanted oj (yielded ops (a.put oi.dst v).tmps)=Region.wanted oj (yielded ops a.tmps):=fun v=>wanted_put oj a oi.dst v a1
   have xj:∀v,execOp (a.put oi.dst v).eval oj=execOp a.eval oj:=fun v=>execOp_put oj (fun cs b=>s1 cs b hoj) a oi.dst v a1
   have wi:∀u,Region.wanted oi (yielded ops (a.put oj.dst u).tmps)=Region.wanted oi (yielded ops a.tmps):=fun u=>wanted_put oi a oj.dst u a3
   have xi:∀u,execOp (a.put oj.dst u).eval oi=execOp a.eval oi:=fun u=>execOp_put oi (fun cs b=>s2 cs b hi) a oj.dst u a3
   obtain⟨v0,hv0⟩:=AL_ex (ops:=ops) (sp i) oi a
   refine⟨oj,hoj,?_,?_,?_⟩
   ·intro hw w hS hsee
    have:=(hj2 v0 hv0).gives (by rw [wj];exact hw) w hS (fun e he hb=>by rw [upd_ne _ _ (hnot e he hb)];exact hsee e he hb)
    rwa [xj]at this
   ·intro hw
    exact(hj2 v0 hv0).none_ (by rw [wj];exact hw)
   ·intro u hu
    refine ih (listed.setIfInBounds j true) _ _ (inv.set hj hjn) (fun k ok hk hki hun' hno=>?_) (ready_mono hr (Ne.symm hji)) ⟨?_,?_,?_⟩
    ·refine hfree k ok hk hki ?_ hno
     by_cases hjk:j=k
     ·subst hjk;exact hjun
     ·rw [getD_set_ne true hjk]at hun';exact hun'
    ·intro hw w hS hsee
     have:=H.gives (by rw [wi]at hw;exact hw) w hS (fun e he hb=>by have h9:=hsee e he hb;rwa [upd_ne _ _ (hnot' e he hb)]at h9)
     rwa [xi]
    ·intro hw
     exact H.none_ (by rw [wi]at hw;exact hw)
    ·intro v hv
     have hv':AL ops (sp i) oi a v:=by unfold AL at *;rwa [wi]at hv
     have hu':AL ops (sp j) oj (a.put oi.dst v) u:=by unfold AL at *;rwa [wj]
     have h10:=(hj2 v hv').next u hu'
     rw [Array.setIfInBounds_comm _ _ hji,←Act.put_comm a v u a2,←upd_comm V v u hji]
     exact h10
def asFun (l:List Value):Nat→Value:=fun j=>l.getD j undef
theorem upd_asFun (l:List Value)(v:Value):upd (asFun l) l.length v=asFun (l++[v]):=by
 funext j
 unfold upd asFun
 by_cases h:j=l.length
 ·subst h;simp
 ·rw [if_neg h]
  rcases Nat.lt_or_ge j l.length with h1|h1
  ·simp [List.getElem?_append_left h1]
  ·simp [List.getD,List.getElem?_eq_none h1,List.getElem?_eq_none (show(l++[v]).length≤j by simp;omega)]
def wpX (P:Program)(md:Region.Mode)(ops:Array Oper)(S:World→Prop)(sp:Nat→Sp)(Q:List Value→Act→Prop):List Oper→List Value→Act→Prop
 |[],V,a=>Q V a
 |o::rest,V,a=>if Region.wanted o (yielded ops a.tmps)=true then(∀w,S w→Sees md sp o (asFun V) w→GivesL P (sp V.length) w ((execOp a.eval o).run P w))∧∀v,may (sp V.length) v→wpX P md ops S sp Q rest (V++[v]) (a.put o.dst v)
   else(sp V.length).1.isSome=true∧wpX P md ops S sp Q rest (V++[undef]) (a.put o.dst undef)
theorem wpX_lex {n g:Nat}{Q:List Value→Act→Prop}(hsel:Region.noSelect ops=true)(hs:Region.sinkB md ops n=true)(hc:Region.chainB md ops n=true)(hn:n < ops.size) :
  ∀(l:List Oper) (k:Nat) (listed:Array Bool) (V:List Value) (a:Act),(∀j,j<l.length→l[j]?=ops[k+j]?)→k+l.length=n→V.length=k→HeadInv md ops n listed →
  Region.lexHead md ops g l.length k listed=true→wpX P md ops S sp Q l V a →
  wpAnyX P md ops S sp n (fun listed' V' a'=>HeadInv md ops n listed'∧Region.seqB md ops g n listed'=true∧∃Vl:List Value,V'=asFun Vl∧Q Vl a') l.length listed (asFun V) a
 |[],k,listed,V,a,_,hk,_,inv,hB,h=>by
  have:k=n:=by simpa using hk
  subst this
  exact⟨inv,by simpa [Region.lexHead]using hB,V,rfl,h⟩
 |o::l,k,listed,V,a,hl,hk,hV,inv,hB,h=>by
  have h0:ops[k]?=some o:=by simpa using (hl 0 (by simp)).symm
  simp only [List.length_cons,Region.lexHead,Bool.and_eq_true]at hB
  obtain⟨⟨hr,hf⟩,hB'⟩:=hB
  have hkn:k<n:=by simp only [List.length_cons]at hk;omega
  have hr':k∈Region.ready md ops listed:=by simpa using hr
  subst hV
  have rec_:∀v,wpX P md ops S sp Q l (V++[v]) (a.put o.dst v)→wpAnyX P md ops S sp n (fun listed' V' a'=>HeadInv md ops n listed'∧Region.seqB md ops g n listed'=true∧∃Vl:List Value,V'=asFun Vl∧Q Vl a') l.length (listed.setIfInBounds V.length true) (upd (asFun V) V.length v) (a.put o.dst v):=fun v hv=>by
   rw [upd_asFun]
   exact wpX_lex hsel hs hc hn l (V.length+1) _ _ _ (fun j hj=>by have:=hl (j+1) (by simp;omega);simpa [Nat.add_assoc,Nat.add_comm 1 j]using this) (by simp only [List.length_cons]at hk;omega) (by simp) (inv.set hr' hkn) hB' hv
  refine wpAnyX_first h0 hsel hs hc hn hkn (fun listed' V' a' hL=>seqB_ready hL.2.1) l.length listed _ a inv (Region.free_spec h0 hf) hr' ?_
  unfold wpX at h
  by_cases hw:Region.wanted o (yielded ops a.tmps)=true
  ·rw [if_pos hw]at h
   exact⟨fun _=>h.1,fun h1=>(by rw [hw]at h1;cases h1),fun v hv=>rec_ v (h.2 v (by unfold AL at hv;rwa [if_pos hw]at hv))⟩
  ·rw [if_neg hw]at h
   exact⟨fun h1=>absurd h1 hw,fun _=>h.1,fun v hv=>by
    unfold AL at hv
    rw [if_neg hw]at hv
    subst hv
    exact rec_ _ h.2⟩
theorem wp_region_loose {id:Nat}{Q:Exit→Act→World→Prop}{a:Act}{w:World}{l:List Oper}(n:Nat)(S:World→Prop)(sp:Nat→Sp)(hm:P.follows .mixedOrders=true)(hB:Region.lexTailB .any l.toArray n=true)
  (hS:S { w with drawn:=w.drawn+1 }) (hSE:∀w w',S w→Ext w w'→S w')
  (h:wpX P .any l.toArray S sp (fun V a'=>∀w',S w'→(∀j,j<n→fact (sp j) (asFun V j) w')→wpList P l.toArray Q (l.drop n) a' w') (l.take n) [] a):(Code.region id l.toArray true).wp P Q a w:=by
 simp only [Region.lexTailB,Bool.and_eq_true,decide_eq_true_eq]at hB
 obtain⟨⟨⟨⟨hsel,hn⟩,hs⟩,hc⟩,hlex⟩:=hB
 have hn':n<l.length:=by simpa using hn
 have htl:(l.take n).length=n:=by simp;omega
 have hdl:(l.drop n).length=l.toArray.size-n:=by simp
 have inv0:HeadInv .any l.toArray n (Array.replicate l.toArray.size false):=
  ⟨by simp,fun j oj _ hl=>(by rw [getD_replicate_false]at hl;cases hl),fun t _ ht=>getD_in (by simpa using ht) (getD_replicate_false _ _)⟩
 have H:=wpX_lex (md:=.any) (g:=l.toArray.size-n) hsel hs hc hn (l.take n) 0 _ [] a (fun j hj=>by
  have hj':j<n:=by rw [htl]at hj;exact hj
  simp [hj']) (by simpa using htl) rfl inv0 (by rw [htl];exact hlex) h
 refine wp_region_any hm ?_
 have:=wpAny_of_X (Q':=Q) (g:=l.toArray.size-n) hSE (fun listed V a' w' hL hS' hI=>by
  obtain⟨hinv,h1,Vl,rfl,h2⟩:=hL
  have hrd:n∈Region.ready .any l.toArray listed:=by
   obtain⟨g,hg⟩:∃g,l.toArray.size-n=g+1:=⟨l.toArray.size-n-1,by simp;omega⟩
   rw [hg]at h1
   simp only [Region.seqB,Bool.and_eq_true,decide_eq_true_eq]at h1
   rw [h1.1]
   exact List.mem_singleton.2 rfl
  have hall:∀j,j<n→fact (sp j) (asFun Vl j) w':=fun j hj=>by
   refine hI j ?_
   cases hl:listed.getD j false with
   |true=>rfl
   |false=>exact absurd hrd (tail_waits hs hc hn hinv _ j rfl hj (getD_in (by rw [hinv.size];simp;omega) hl) n (Nat.le_refl _))
  have:=wpAny_of_seq (md:=.any) (Q':=Q) (l.drop n) n listed a' w' (fun j=>by simp [List.getElem?_drop]) (by rw [hdl];exact h1) (h2 w' hS' hall)
  rwa [hdl]at this) _ _ _ _ _ hS (fun j hj=>by rw [getD_replicate_false]at hj;cases hj) H
 rw [htl,show n+(l.toArray.size-n)=l.toArray.size by omega]at this
 exact this
def StepY (P:Program)(md:Region.Mode)(S:World→Prop)(sp:Nat→Sp)(o:Oper)(V:List Value)(a:Act)(K:List Value→Act→Prop):Prop:=
 (∀w,S w→Sees md sp o (asFun V) w→GivesL P (sp V.length) w ((execOp a.eval o).run P w))∧∀v,may (sp V.length) v→K (V++[v]) (a.put o.dst v)
theorem StepY.det {o:Oper}{V:List Value}{a:Act}{K:List Value→Act→Prop}{c:Value}(e:sp V.length=Go.Proofs.YtngdldcgkaplbaaGreat.det c)(h:∀ w,S w→Sees md sp o (asFun V) w→GivesL P (Go.Proofs.YtngdldcgkaplbaaGreat.det c) w ((execOp a.eval o).run P w))(k:K (V++[c]) (a.put o.dst c)):StepY P md S sp o V a K:=
 ⟨by rw [e];exact h,fun v hv=>by rw [e]at hv;have hv':v=c:=hv;subst hv';exact k⟩
theorem wpX_nil {Q:List Value→Act→Prop}{V:List Value}{a:Act}(h:Q V a):wpX P md ops S sp Q [] V a:=h
theorem wpX_step {Q:List Value→Act→Prop}{V:List Value}{a:Act}{o:Oper}{rest:List Oper}
  (h:∀K:List Value→Act→Prop,(∀V a,wpX P md ops S sp Q rest V a→K V a)→if Region.wanted o (yielded ops a.tmps)=true then StepY P md S sp o V a K else(sp V.length).1.isSome=true∧K (V++[undef]) (a.put o.dst undef)):wpX P md ops S sp Q (o::rest) V a:=
 h _ fun _ _ h=>h
def ofList (l:List Sp):Nat→Sp:=fun k=>l.getD k (det undef)
end
end Go.Proofs.YtngdldcgkaplbaaGreat
namespace Go.Proofs.YtngdldcgkaplbaaGreat
open Go Go.RowKit Nm
structure Bx where
 g:Nat
 t:TypeId
 cs:List Value
structure Sw where
 A:Option Addr
 n:Nat
 c:Nat
 xs:List Nat
def isU:Value→Bool
 | .int .u32 _=>true
 |_=>false
def Own (w0:World)(L:List Bx)(W:List Sw)(w:World):Prop:=
 Ext w0 w∧(∀b∈L,w0.heap.size≤b.g∧Blk w b.g b.t b.cs.toArray∧b.cs.any isU=false)∧(L.map Bx.g).Nodup∧∀s∈W,Wds w s.A s.n s.c s.xs
def CF (w:World)(g:Nat):Nat→List Value→Prop
 |_,[]=>True
 |i,v::vs=>w.cell? ⟨g,i,none⟩=some v∧w.frozen? ⟨g,i,none⟩=false∧CF w g (i+1) vs
def BF (w:World):List Bx→Prop
 |[]=>True
 |b::L=>b.g<w.heap.size∧CF w b.g 0 b.cs∧BF w L
section
variable {w0 w w':World} {L:List Bx} {W:List Sw}
theorem CF.of {g:Nat}{t:TypeId}{full:List Value}(h:Blk w g t full.toArray):∀(cs:List Value) (i:Nat),full.drop i=cs→CF w g i cs:=by
 intro cs
 induction cs with
 |nil=>intro i _;exact trivial
 |cons v vs ih=>
  intro i hi
  have h1:full[i]?=some v:=by
   have:(full.drop i)[0]?=some v:=by rw [hi];rfl
   simpa using this
  refine⟨?_,h.frozen i,ih (i+1) ?_⟩
  ·rw [h.cell i];simpa using h1
  ·rw [←List.drop_drop,hi];rfl
theorem BF.of:∀{L:List Bx},(∀b∈L,w0.heap.size≤b.g∧Blk w b.g b.t b.cs.toArray∧b.cs.any isU=false)→BF w L
 |[],_=>trivial
 |b::L,h=>⟨(h b List.mem_cons_self).2.1.lt,CF.of (h b List.mem_cons_self).2.1 _ 0 rfl,BF.of fun b' hb=>h b' (List.mem_cons_of_mem _ hb)⟩
theorem Own.facts (h:Own w0 L W w):BF w L:=BF.of h.2.1
theorem Own.toExt (h:Own w0 L W w):Ext w0 w:=h.1
theorem Own.start (w:World):Own w [] [] w:=⟨Ext.refl w,(fun b hb=>by cases hb),List.nodup_nil,(fun s hs=>by cases hs)⟩
theorem Own.ext (h:Own w0 L W w)(e:Ext w w'):Own w0 L W w':=
 ⟨h.1.trans e,fun b hb=>⟨(h.2.1 b hb).1,(h.2.1 b hb).2.1.ext e,(h.2.1 b hb).2.2⟩,h.2.2.1,fun s hs=>(h.2.2.2 s hs).ext e⟩
theorem Own.add {A:Option Addr}{n c:Nat}{xs:List Nat}(h:Own w0 L W w)(k:Wds w A n c xs):Own w0 L (⟨A,n,c,xs⟩::W) w:=
 ⟨h.1,h.2.1,h.2.2.1,fun s hs=>by rcases List.mem_cons.1 hs with rfl|hs;exact k;exact h.2.2.2 s hs⟩
theorem Own.wd {A:Option Addr}{n c:Nat}{xs:List Nat}(h:Own w0 L W w)(i:Nat)(hi:W[i]?=some ⟨A,n,c,xs⟩):Wds w A n c xs:=
 h.2.2.2 _ (List.mem_of_getElem? hi)
theorem Own.blk {g:Nat}{t:TypeId}{cs:List Value}(h:Own w0 L W w)(i:Nat)(hi:L[i]?=some ⟨g,t,cs⟩):Blk w g t cs.toArray:=
 (h.2.1 _ (List.mem_of_getElem? hi)).2.1
theorem Own.alloc (h:Own w0 L W w)(t:TypeId)(cs:List Value)(hu:cs.any isU=false):Own w0 (⟨w.heap.size,t,cs⟩::L) W (w.alloc (.cells cs.toArray t)):=by
 have e:Ext w (w.alloc (.cells cs.toArray t)):=(Ext.refl w).alloc _
 refine⟨h.1.trans e,fun b hb=>?_,?_,fun s hs=>(h.2.2.2 s hs).ext e⟩
 ·rcases List.mem_cons.1 hb with rfl|hb
  ·exact⟨h.1.size,Blk.new w t _,hu⟩
  ·exact⟨(h.2.1 b hb).1,(h.2.1 b hb).2.1.ext e,(h.2.1 b hb).2.2⟩
 ·rw [List.map_cons,List.nodup_cons]
  refine⟨fun hm=>?_,h.2.2.1⟩
  obtain⟨b,hb,hg⟩:=List.mem_map.1 hm
  have:=(h.2.1 b hb).2.1.lt
  rw [hg]at this
  exact Nat.lt_irrefl _ this
theorem Wds.set_nu {g:Nat}{t:TypeId}{cs:Array Value}{A:Option Addr}{n c:Nat}{xs:List Nat}(h:Wds w A n c xs)(hb:Blk w g t cs)(hcs:∀ (i:Nat) (x:Int),cs[i]?≠some (Value.int .u32 x))(i:Nat)(u:Value):Wds (w.setCell ⟨g,i,none⟩ u) A n c xs:=by
 refine⟨h.1,h.2.1,h.2.2.1,h.2.2.2.1,fun hn=>?_⟩
 obtain⟨ad,e,hlt,hc⟩:=h.2.2.2.2 hn
 have hne:ad.block≠g:=by
  intro hg
  have hx1:0<xs.length:=by have:=h.1;omega
  have h1:=hc 0 _ (List.getElem?_eq_getElem hx1)
  have h2:w.heap[(ad.add 0).block]?=some (.cells cs t (0,0)):=by rw [block_of_add,hg];exact hb
  unfold World.cell? at h1
  rw [h2]at h1
  simp only at h1
  split at h1
  ·cases h1
  ·exact hcs _ _ h1
 refine⟨ad,e,by simpa [World.setCell]using hlt,fun k x hk=>?_⟩
 rw [←hc k x hk]
 exact World.cell?_of_block (Below.heap_setCell w ⟨g,i,none⟩ u _ (by rw [block_of_add];exact hne))
theorem any_isU {cs:List Value}(h:cs.any isU=false):∀(i:Nat) (x:Int),cs.toArray[i]?≠some (Value.int .u32 x):=by
 intro i x hx
 have h1:cs[i]?=some (Value.int .u32 x):=by simpa using hx
 have h2:=List.mem_of_getElem? h1
 have:cs.any isU=true:=List.any_eq_true.2 ⟨_,h2,rfl⟩
 rw [h]at this;cases this
theorem Own.set (h:Own w0 L W w)(i:Nat){b:Bx}(hi:L[i]?=some b)(j:Nat)(u:Value)(hu:isU u=false) :
  Own w0 (L.set i ⟨b.g,b.t,b.cs.set j u⟩) W (w.setCell ⟨b.g,j,none⟩ u):=by
 have hbm:=List.mem_of_getElem? hi
 obtain⟨hb0,hb1,hb2⟩:=h.2.1 b hbm
 have hil:i<L.length:=(List.getElem?_eq_some_iff.1 hi).1
 have hmap:(L.set i ⟨b.g,b.t,b.cs.set j u⟩).map Bx.g=L.map Bx.g:=by
  rw [List.map_set]
  apply List.ext_getElem?
  intro k
  rw [List.getElem?_set]
  split
  ·rename_i hk
   subst hk
   rw [List.getElem?_map,hi]
   simp [hil]
  ·rfl
 refine⟨h.1.setCell hb0 u,fun c hc=>?_,by rw [hmap];exact h.2.2.1,fun s hs=>(h.2.2.2 s hs).set_nu hb1 (any_isU hb2) j u⟩
 obtain⟨k,hk⟩:=List.getElem?_of_mem hc
 rw [List.getElem?_set]at hk
 split at hk
 ·rename_i hik
  injection hk with hk
  subst hk
  refine⟨hb0,?_,?_⟩
  ·have:=hb1.set_ j u
   simpa using this
  ·apply Bool.eq_false_iff.2
   intro ha
   obtain⟨v,hv,hv1⟩:=List.any_eq_true.1 ha
   rcases List.mem_or_eq_of_mem_set hv with hv|rfl
   ·have:b.cs.any isU=true:=List.any_eq_true.2 ⟨v,hv,hv1⟩
    rw [hb2]at this;cases this
   ·rw [hu]at hv1;cases hv1
 ·rename_i hik
  have hcm:=List.mem_of_getElem? hk
  obtain⟨hc0,hc1,hc2⟩:=h.2.1 c hcm
  refine⟨hc0,hc1.far ?_ u,hc2⟩
  intro hg
  have hg':c.g=b.g:=hg
  have n:=h.2.2.1
  rw [List.nodup_iff_pairwise_ne,List.pairwise_iff_getElem]at n
  have hkl:k<L.length:=(List.getElem?_eq_some_iff.1 hk).1
  have a1:L[i]=b:=(List.getElem?_eq_some_iff.1 hi).2
  have a2:L[k]=c:=(List.getElem?_eq_some_iff.1 hk).2
  rcases Nat.lt_trichotomy i k with h3|h3|h3
  ·have:=n i k (by simpa using hil) (by simpa using hkl) h3
   simp [a1,a2,hg']at this
  ·exact hik h3
  ·have:=n k i (by simpa using hkl) (by simpa using hil) h3
   simp [a1,a2,hg']at this
def spl:List Value→Nat→List Value→List Value
 |cs,_,[]=>cs
 |cs,j,v::vs=>spl (cs.set j v) (j+1) vs
def setN (w:World)(g:Nat):Nat→List Value→World
 |_,[]=>w
 |j,v::vs=>setN (w.setCell ⟨g,j,none⟩ v) g (j+1) vs
theorem Own.setN:∀(vs:List Value) {w:World} {L:List Bx} (h:Own w0 L W w) (i:Nat) {b:Bx} (hi:L[i]?=some b) (j:Nat) (hu:vs.any isU=false),
  Own w0 (L.set i ⟨b.g,b.t,spl b.cs j vs⟩) W (setN w b.g j vs)
 |[],w,L,h,i,b,hi,j,_=>by
  have:L.set i ⟨b.g,b.t,spl b.cs j []⟩=L:=by
   apply List.ext_getElem?
   intro k
   rw [List.getElem?_set]
   split
   ·rename_i hk;subst hk
    have hil:i<L.length:=(List.getElem?_eq_some_iff.1 hi).1
    rw [if_pos hil,hi];rfl
   ·rfl
  rw [this];exact h
 |v::vs,w,L,h,i,b,hi,j,hu=>by
  rw [List.any_cons,Bool.or_eq_false_iff]at hu
  have h1:=h.set i hi j v hu.1
  have hil:i<L.length:=(List.getElem?_eq_some_iff.1 hi).1
  have h2:=Own.setN vs h1 i (b:=⟨b.g,b.t,b.cs.set j v⟩) (by simp [hil]) (j+1) hu.2
  rw [List.set_set]at h2
  exact h2
end
section
variable {P:Program} {ops:Array Oper} {Q:Exit→Act→World→Prop} {a:Act} {w w0:World} {rest:List Oper} {L:List Bx} {W:List Sw} {T ty:TypeId} {ps:String} {af:Array Edge} {x y:Operand} {d:Tmp}
theorem wpList_of_run {o:Oper}(hg:o.guard=none){v:Value}{w':World}(hr:(execOp a.eval o).run P w=.ok (.value v) w')(h:wpList P ops Q rest (a.put o.dst v) w'):wpList P ops Q (o::rest) a w:=by
 refine wpList_plain hg fun K hK=>?_
 unfold Oper.wp
 rw [hr]
 exact hK _ _ h
theorem wpList_of_skip {o:Oper}(hg:o.guard=none){w':World}(hr:(execOp a.eval o).run P w=.ok .skip w')(h:wpList P ops Q rest (a.put o.dst undef) w'):wpList P ops Q (o::rest) a w:=by
 refine wpList_plain hg fun K hK=>?_
 unfold Oper.wp
 rw [hr]
 exact hK _ _ h
theorem own_box (hO:Own w0 L W w){cs:List Value}(hcs:(a.eval x).cells=cs.toArray)(hu:cs.any isU=false)
  (h:∀g w',Own w0 (⟨g,T,cs⟩::L) W w'→wpList P ops Q rest (a.put (some d) (.pointer (some ⟨g,0,none⟩))) w'):
  wpList P ops Q ({ dst:=some d,op:=.box T x,type:=ty,pos:=ps,after:=af,guard:=none }::rest) a w:=by
 refine wpList_of_run rfl ?_ (h _ _ (hO.alloc T cs hu))
 simp [execOp,Instr.box,newVar,newRow,hcs]
theorem own_alloc (hO:Own w0 L W w){z:Value}(hz:∀ w,(zeroValue T).run P w=.ok z w){cs:List Value}(hcs:z.cells=cs.toArray)(hu:cs.any isU=false)
  (h:∀g w',Own w0 (⟨g,T,cs⟩::L) W w'→wpList P ops Q rest (a.put (some d) (.pointer (some ⟨g,0,none⟩))) w'):
  wpList P ops Q ({ dst:=some d,op:=.alloc T,type:=ty,pos:=ps,after:=af,guard:=none }::rest) a w:=by
 refine wpList_of_run rfl ?_ (h _ _ (hO.alloc T cs hu))
 simp [execOp,Instr.alloc,newVar,newRow,hcs,hz]
theorem run_storeCells:∀(vs:List Value) (w:World) (g off i:Nat) (t:TypeId) (cs:List Value),Blk w g t cs.toArray→off+i+vs.length≤cs.length→vs.all Value.oneCell'=true →
  (storeCells ⟨g,off,none⟩ vs i).run P w=.ok () (setN w g (off+i) vs)
 |[],w,g,off,i,t,cs,_,_,_=>by simp [storeCells,setN]
 |v::vs,w,g,off,i,t,cs,hb,hl,h1=>by
  rw [List.all_cons,Bool.and_eq_true]at h1
  rw [List.length_cons]at hl
  have hadd:(⟨g,off,none⟩:Addr).add i=⟨g,off+i,none⟩:=Addr.add_lit g off i
  have hc:w.cell? ⟨g,off+i,none⟩=some (cs[off+i]'(by omega)):=by rw [hb.cell];simp
  have hf:=hb.frozen (off+i)
  have hb2:=hb.set_ (off+i) v
  have ih:=run_storeCells vs (w.setCell ⟨g,off+i,none⟩ v) g off (i+1) t (cs.set (off+i) v) (by simpa using hb2) (by simp;omega) h1.2
  simp only [storeCells,hadd,Sem.run_bind,run_store P w _ v _ h1.1,hc,hf,Bool.false_eq_true,if_false,Result.andThen,ih]
  rfl
theorem own_store (hO:Own w0 L W w)(i:Nat){b:Bx}(hb:L[i]?=some b){off:Nat}(hx:a.eval x=.pointer (some ⟨b.g,off,none⟩)){vs:List Value}(hvs:(a.eval y).cells=vs.toArray)
  (hsz:∀w,(sizeOf T).run P w=.ok vs.length w) (h1:vs.all Value.oneCell'=true) (hu:vs.any isU=false) (hle:Nat.ble (off+vs.length) b.cs.length=true)
  (h:∀w',Own w0 (L.set i ⟨b.g,b.t,spl b.cs off vs⟩) W w'→wpList P ops Q rest a w'):
  wpList P ops Q ({ dst:=none,op:=.store T x y,type:=ty,pos:=ps,after:=af,guard:=none }::rest) a w:=by
 refine wpList_of_skip rfl ?_ (h _ (hO.setN vs i hb off hu))
 have hB:=(hO.2.1 b (List.mem_of_getElem? hb)).2.1
 have:=run_storeCells (P:=P) vs w b.g off 0 b.t b.cs hB (by have:=Nat.le_of_ble_eq_true hle;omega) h1
 simp [execOp,Instr.storeAt,hx,Instr.sureAddr,storeVar,hvs,hsz,this]
theorem run_loadCells {g off:Nat}{t:TypeId}{cs:List Value}(hb:Blk w g t cs.toArray):∀(n i:Nat) (acc:Array Value),off+i+n≤cs.length →
  (loadCellsFrom ⟨g,off,none⟩ i n acc).run P w=.ok (acc++((cs.drop (off+i)).take n).toArray) w
 |0,i,acc,_=>by simp [loadCellsFrom]
 |n+1,i,acc,hl=>by
  have hadd:(⟨g,off,none⟩:Addr).add i=⟨g,off+i,none⟩:=Addr.add_lit g off i
  have hc:w.cell? ⟨g,off+i,none⟩=some (cs[off+i]'(by omega)):=by rw [hb.cell];simp
  have ih:=run_loadCells (off:=off) hb n (i+1) (acc.push (cs[off+i]'(by omega))) (by omega)
  simp only [loadCellsFrom,hadd,Sem.run_bind,run_load,hc,Result.andThen,ih]
  congr 1
  rw [List.drop_eq_getElem_cons (show off+i<cs.length by omega),List.take_succ_cons,show off+(i+1)=off+i+1 by omega]
  apply Array.toList_inj.1
  simp
theorem run_loadBox {g:Nat}{t:TypeId}{cs:List Value}(hb:Blk w g t cs.toArray)(hag:(isAgg T).run P w=.ok true w)(hsz:(sizeOf T).run P w=.ok cs.length w) :
  (loadVar T ⟨g,0,none⟩).run P w=.ok (.agg cs.toArray) w:=by
 have:=run_loadCells (P:=P) (off:=0) hb cs.length 0 #[] (by omega)
 simp [loadVar,hag,hsz,loadCells,this]
theorem own_ret {fn:Func}{R:Ending→World→Prop}(hO:Own w0 L W w)(i:Nat){g:Nat}{t:TypeId}{cs:List Value}(hb:L[i]?=some ⟨g,t,cs⟩)(hr:fn.results=#[.cell d T])(ha:a.tmps.getD d undef=.pointer (some ⟨g,0,none⟩))
  (hag:∀w,(isAgg T).run P w=.ok true w) (hsz:∀w,(sizeOf T).run P w=.ok cs.length w) (hd:a.defers=[]) (hR:R (.returned (.agg cs.toArray)) w):bodyPost P fn R .ret a w:=by
 have h1:=run_loadBox (P:=P) (hO.blk i hb) (hag w) (hsz w)
 refine bodyPost_ret (v:=.agg cs.toArray) ?_ hd hR
 rw [Array.getD_eq_getD_getElem?]at ha
 simp [results,hr,ha,asAddr,h1]
end
@[go_sem high] theorem sliced_zero (a:Option Addr) (h m s:Nat):sliced a 0 h m s=.slice a h m:=by
 unfold sliced
 simp only [Nat.zero_mul,Nat.sub_zero]
 congr 1
 split
 ·rfl
 ·cases a<;>simp [Addr.add]
def CC (w:World)(g:Nat):Nat→List Value→Prop
 |_,[]=>True
 |i,v::vs=>w.cell? ⟨g,i,none⟩=some v∧CC w g (i+1) vs
def BC (w:World):List Bx→Prop
 |[]=>True
 |b::L=>CC w b.g 0 b.cs∧BC w L
theorem CC.of {w:World}{g:Nat}:∀{i:Nat} {cs:List Value},CF w g i cs→CC w g i cs
 |_,[],_=>trivial
 |_,_::_,h=>⟨h.1,CC.of h.2.2⟩
theorem BC.of {w:World}:∀{L:List Bx},BF w L→BC w L
 |[],_=>trivial
 |_::_,h=>⟨CC.of h.2.1,BC.of h.2.2⟩
theorem Own.cells {w0 w:World}{L:List Bx}{W:List Sw}(h:Own w0 L W w):BC w L:=BC.of h.facts
section
variable {P:Program} {ops:Array Oper} {Q:Exit→Act→World→Prop} {a:Act} {w:World} {rest:List Oper} {T ty:TypeId} {ps:String} {af:Array Edge} {x y:Operand} {d:Tmp}
theorem at_store (h:wpList P ops Q ({ dst:=none,op:=.store T x y,type:=ty,pos:=ps,after:=af,guard:=none }::rest) a w):wpList P ops Q ({ dst:=none,op:=.store T x y,type:=ty,pos:=ps,after:=af,guard:=none }::rest) a w:=h
theorem at_box (h:wpList P ops Q ({ dst:=some d,op:=.box T x,type:=ty,pos:=ps,after:=af,guard:=none }::rest) a w):wpList P ops Q ({ dst:=some d,op:=.box T x,type:=ty,pos:=ps,after:=af,guard:=none }::rest) a w:=h
theorem at_alloc (h:wpList P ops Q ({ dst:=some d,op:=.alloc T,type:=ty,pos:=ps,after:=af,guard:=none }::rest) a w):wpList P ops Q ({ dst:=some d,op:=.alloc T,type:=ty,pos:=ps,after:=af,guard:=none }::rest) a w:=h
end
end Go.Proofs.YtngdldcgkaplbaaGreat