import Derived.Test.YtngdldcgkaplbaaGreatK24
set_option linter.unusedVariables false
set_option linter.unusedSimpArgs false
set_option maxHeartbeats 40000000
set_option maxRecDepth 100000
namespace Go.Proofs.YtngdldcgkaplbaaGreat.Fd
open Go Go.RowKit Go.Conc Nm Rn
open Gt hiding Sm
open Lk
theorem tdP_ok {q r:Nat×Nat}(ha:q.1 < 18446744073709551616)(hb:q.2 < 18446744073709551616)(hc:r.1 < 18446744073709551616)(hd:r.2 < 18446744073709551616):(tdP q r).Ok:=by
 obtain⟨r1,r2⟩:=rd_lt ha hb
 obtain⟨r3,r4⟩:=rd_lt hc hd
 exact prodsT_ok r1 r2 r3 r4
def meanI (q:Sq)(n:Nat):Nat×Nat:=if q.e then(infR,minf)else(q.lo.over (-1) n,q.hi.over 1 n)
def normI (q:Sq):Nat×Nat:=if q.e then(infR,minf)else(q.lo.root (-1),q.hi.root 1)
def meanR (xs:List (Nat×Nat))(N:Int):(Nat×Nat)×Nat:=if wrongW N||decide (xs.length=0)then((0,0),1)else(meanI (totS 0 xs) xs.length,0)
def normR (xs:List (Nat×Nat))(N:Int):(Nat×Nat)×Nat:=if wrongW N then((0,0),1)else(normI (totS 2 xs),0)
def totP (xs ys:List (Nat×Nat)):Sq:=sums (fun i=>tdP (xs.getD i (0,0)) (ys.getD i (0,0))) (List.range xs.length)
def dotR (xs ys:List (Nat×Nat))(N:Int):(Nat×Nat)×Nat:=if wrongW N||decide (xs.length≠ys.length)then((0,0),1)else(doneI (totP xs ys),0)
theorem totP_ok {xs ys:List (Nat×Nat)}(h:∀ q∈xs,q.1 < 18446744073709551616∧q.2 < 18446744073709551616)(k:∀ q∈ys,q.1 < 18446744073709551616∧q.2 < 18446744073709551616)(hn:xs.length < 4611686018427387904):(totP xs ys).Ok:=by
 unfold totP
 have e:=takes_plus (ds:=fun i=>tdP (xs.getD i (0,0)) (ys.getD i (0,0))) (List.range xs.length) Sq.nil (by rw [List.length_range];show 0+_≤_;omega) (by rw [List.length_range];show 0+_≤_;omega)
 rw [Sq.nil_plus]at e
 rw [←e]
 exact takes_ok (fun i=>tdP_ok (getD_lt h i).1 (getD_lt h i).2 (getD_lt k i).1 (getD_lt k i).2) _ _ Sq.Ok.nil
theorem gg_emp:GG 91:=body_gg Tryz.func91 (by kernel_rfl)
theorem dot_run (args:Array Value)(w:World):(callFunc 93 args).run P w=.ok (.enter 93 args) w:=callee_run Tryz.func93 (by kernel_rfl) (by kernel_rfl) args w
section
variable {S:Frame→List Frame→World→Prop} {v w0:World} {L:List Bx} {W:List Sw} {A A2:Option Addr} {n c n2 c2:Nat} {xs ys:List (Nat×Nat)}
theorem job_dot (hg:gz≤v.heap.size)(hl:Ivs v A n c xs)(hm:Ivs v A2 n2 c2 ys)(hn:n≤n2){g1 g2:Nat}(hO:OwnU w0 (⟨g2,24,[.slice A2 n2 c2]⟩::⟨g1,24,[.slice A n c]⟩::L) W v) :
  Job v n 93 #[.pointer (some ⟨g1,0,none⟩),.pointer (some ⟨g2,0,none⟩)] (fun i=>tdP (xs.getD i (0,0)) (ys.getD i (0,0))):=by
 have h1:=(hO.2.1 _ (List.mem_cons_self)).2.1.lt
 have h2:=(hO.2.1 _ (List.mem_cons_of_mem _ List.mem_cons_self)).2.1.lt
 refine⟨dot_run,fun i=>tdP_ok (getD_lt hl.2.2.2.1 i).1 (getD_lt hl.2.2.2.1 i).2 (getD_lt hm.2.2.2.1 i).1 (getD_lt hm.2.2.2.1 i).2,fun i w hi hs=>?_⟩
 exact dot1_ok hg hl hm hn h2 h1 (hO.cell 1 rfl 0) (hO.cell 0 rfl 0) i w hi hs
theorem norm2_o (N:Int)(hg:gz≤w0.heap.size)(hn:n < 4611686018427387904)(hl:Known w0 L W A n c xs)(hnn:(totS 2 xs).e=false→isNaN ((totS 2 xs).lo.root (-1))=false∧isNaN ((totS 2 xs).hi.root 1)=false)(hO:OwnU w0 L W v) :
  CallsF S 35 #[.slice A n c,.int .i64 N] v fun x w'=>x=ansV (normR xs N)∧OwnU w0 L W w':=by
 unfold normR normI
 cases hw:wrongW N
 ·obtain⟨m,rfl,m1,m2⟩:=wrong_nat hw
  rw [if_neg (by simp)]
  have HW:=Lib.hid hw
  have HN:=Lib.hid hnn
  have HK:=Lib.hid (totS_ok 2 (hl v hO).2.2.2.1 (by rw [(hl v hO).len];exact hn))
  have HL:=Lib.hid hl
  have HB:=Lib.hid hn
  have M1:=Lib.hid m1
  have M2:=Lib.hid m2
  clear hw hnn hl hn m1 m2
  refine callsF_body Tryz.func35 rfl (by decide) ?_
  simp only [Tryz.ntmps35,List.size_toArray,List.length_cons,List.length_nil,Nat.reduceAdd,Nat.reduceSub,Array.replicate_succ,Array.replicate_zero,List.push_toArray,List.append_toArray,List.nil_append,List.cons_append]
  refine wpo_seq ?_
  refine wpF_region ?_
  refine wlL_alloc hO zero_iv rfl rfl ?_
  clear hO
  intro g4 v hO
  refine wlL_any rfl hO ?_
  clear hO
  intro K hK v hO
  have hf:=hO.cells
  simp only [BC,CC,and_true]at hf
  go_simp
  refine hK _ _ ?_
  clear hK K hf
  refine wlL_nil ?_
  refine wpo_seq ?_
  refine wpo_seq ?_
  refine wpF_region ?_
  refine wlL_any rfl hO ?_
  clear hO
  intro K hK v hO
  have hf:=hO.cells
  simp only [BC,CC,and_true]at hf
  go_simp
  refine hK _ _ ?_
  clear hK K hf
  refine wlL_any rfl hO ?_
  clear hO
  intro K hK v hO
  go_simp
  refine⟨by decide,?_⟩
  refine callsF_val gg_wrong hO (fun v' h'=>wrong_ext HW.out v') ?_
  clear hO
  intro v hO
  refine hK _ _ ?_
  clear hK K
  refine wlL_nil ?_
  refine wpF_if_f rfl ?_
  refine wpo_skip ?_
  refine wpo_seq ?_
  refine wpF_region ?_
  iterate 2
   refine wlL_any rfl hO ?_
   clear hO
   intro K hK v hO
   have hf:=hO.cells
   simp only [BC,CC,and_true]at hf
   go_simp
   refine hK _ _ ?_
   clear hK K hf
  refine wlL_any rfl hO ?_
  clear hO
  intro K hK v hO
  go_simp
  refine⟨by decide,?_⟩
  refine(over_o 2 m (by decide) hg M1.out M2.out HB.out (fun v' h'=>HL.out v' (h'.sub (List.sublist_cons_self _ _))) hO).mono ?_
  clear hO
  rintro xr v ⟨g,rfl,hO⟩
  refine hK _ _ ?_
  clear hK K
  generalize totS 2 xs=q at *
  obtain⟨qlo,qhi,qe⟩:=q
  refine wlL_any rfl hO ?_
  clear hO
  intro K hK v hO
  go_simp
  refine hK _ _ ?_
  clear hK K
  refine wlL_nil ?_
  refine wpo_seq ?_
  refine wpo_seq ?_
  refine wpF_region ?_
  iterate 4
   refine wlL_any rfl hO ?_
   clear hO
   intro K hK v hO
   have hcE:=(hO.cell 0 rfl 144).trans (shareC_e _)
   simp only at hcE
   go_simp
   refine hK _ _ ?_
   clear hK K
  refine wlL_nil ?_
  cases qe
  ·refine wpF_if_f rfl ?_
   refine wpo_skip ?_
   obtain⟨A1,hA1⟩:∃A1,A1=qlo.root (-1):=⟨_,rfl⟩
   obtain⟨A2,hA2⟩:∃A2,A2=qhi.root 1:=⟨_,rfl⟩
   have HLO:=Lib.hid (fun z w L1 (h:Own z (⟨g,128,shareC ⟨qlo,qhi,false⟩⟩::L1) W w) (hg':gz≤z.heap.size)=>lo_root (w:=w) (L:=L1) (W:=W) (B:=g) (T:=128) (w0:=z) ⟨qlo,qhi,false⟩ (-1) hg' HK.out.1 (HN.out rfl).1 h)
   have HHI:=Lib.hid (fun z w L1 (h:Own z (⟨g,128,shareC ⟨qlo,qhi,false⟩⟩::L1) W w) (hg':gz≤z.heap.size)=>hi_root (w:=w) (L:=L1) (W:=W) (B:=g) (T:=128) (w0:=z) ⟨qlo,qhi,false⟩ 1 hg' HK.out.2 (HN.out rfl).2 h)
   simp only at HLO HHI
   rw [←hA1]at HLO
   rw [←hA2]at HHI
   have HA1:=Lib.hid hA1
   have HA2:=Lib.hid hA2
   clear hA1 hA2
   refine wpF_lastT (d1:=4) (d2:=5) (x1:=.pointer (some ⟨g4,0,none⟩)) (x2:=.int .i64 0) (L':=⟨g,128,shareC ⟨qlo,qhi,false⟩⟩::⟨g4,32,[.float .f64 A1,.float .f64 A2]⟩::L) (by kernel_rfl) (hO:=hO) (fun v z hO hs=>?wk) ?kk
   case wk=>
    have hf:True:=trivial
    go_upto_region 6 with fail
    refine wp_wild_own 7 [det (.pointer (some ⟨g,0,none⟩)),det (.pointer (some ⟨g,0,none⟩)),det (.pointer (some ⟨g,0,none⟩)),det (.float .f64 A1),det (.pointer (some ⟨g,0,none⟩)),det (.pointer (some ⟨g,0,none⟩)),det (.pointer (some ⟨g,72,none⟩))] hO (by kernel_rfl) (by kernel_rfl) fun S sp HS HSP HX=>?_
    clear hO hf
    simp only [List.take_succ_cons,List.take_zero,List.drop_succ_cons,List.drop_zero]
    iterate 7
     refine Wi.wpX_step (fun K hK=>?_)
     go_simp
     first
     |refine Wi.StepY.det (by rw [HSP.out];rfl) ?_ ?_
      ·intro wz hz hF
       refine Wi.GivesW.of HX.out hz ?_
       clear hz hF
       go_simp
       exact⟨rfl,Ext.refl _⟩
     |refine Wi.StepY.det (by rw [HSP.out];rfl) ?_ ?_
      ·intro wz hz hF
       clear hF
       rw [HS.out]at hz
       go_simp
       refine(HLO.out _ _ _ hz (Nat.le_trans hg (Nat.le_of_eq hs.symm))).mono ?_
       rintro e w2 ⟨rfl,hO1⟩
       exact⟨_,rfl,rfl,by rw [HS.out];exact hO1,trivial⟩
     refine hK _ _ ?_
     clear hK K
    refine Wi.wpX_nil ?_
    intro wq hO hF
    clear hF HS HSP HX
    have hf:=hO.cells
    simp only [BC,CC,and_true]at hf
    go_wp2_with (first|(go_at_call 21;(with_reducible refine(HHI.out _ _ _ hO (Nat.le_trans hg (Nat.le_of_eq hs.symm))).mono ?_);rintro e w3 ⟨rfl,hO1⟩;clear hO hf;have hO:=hO1;clear hO1;have hf:=True.intro)|((with_reducible refine at_store (T:=32) ?_);refine own_put1 (vs:=[.float .f64 A1,.float .f64 A2]) (T:=32) hO rfl rfl size_iv rfl rfl rfl ?_;clear hO;intro w4 hO;clear hf;have hf:=hO.cells;simp only [BC,CC,and_true]at hf))
    exact⟨rfl,rfl,hO⟩
   case kk=>
    intro t v ht1 ht2 hO
    refine bodyO_of fun U=>?_
    have hO:=hO.at U
    refine Wi.own_retA hO 1 rfl rfl ht1 ht2 agg_iv size_iv rfl ?_
    refine⟨by rw [HA1.out,HA2.out];rfl,?_⟩
    exact OwnU.sub (toU hO) (by simp)
  ·refine wpF_if_t rfl ?_
   refine wpo_seq ?_
   refine wpF_region ?_
   refine wlL_any rfl hO ?_
   clear hO
   intro K hK v hO
   go_simp
   refine⟨by decide,?_⟩
   refine callsF_val gg_emp hO (fun v' h'=>iempty_any v') ?_
   clear hO
   intro v hO
   refine hK _ _ ?_
   clear hK K
   refine wlL_put1 (vs:=[.float .f64 infR,.float .f64 minf]) hO rfl rfl size_iv rfl rfl rfl ?_
   clear hO
   intro v hO
   refine wlL_any rfl hO ?_
   clear hO
   intro K hK v hO
   go_simp
   refine hK _ _ ?_
   clear hK K
   refine wlL_nil ?_
   refine wpo_ret ?_
   try simp only [Exit.then,Exit.inBlock]
   refine bodyO_of fun U=>?_
   have hO:=hO.at U
   refine Wi.own_retA hO 1 rfl rfl rfl rfl agg_iv size_iv rfl ?_
   refine⟨rfl,?_⟩
   exact OwnU.sub (toU hO) (by simp)
 ·rw [if_pos rfl]
  have HW:=Lib.hid hw
  clear hw hnn hl hn
  refine callsF_body Tryz.func35 rfl (by decide) ?_
  simp only [Tryz.ntmps35,List.size_toArray,List.length_cons,List.length_nil,Nat.reduceAdd,Nat.reduceSub,Array.replicate_succ,Array.replicate_zero,List.push_toArray,List.append_toArray,List.nil_append,List.cons_append]
  refine wpo_seq ?_
  refine wpF_region ?_
  refine wlL_alloc hO zero_iv rfl rfl ?_
  clear hO
  intro g4 v hO
  refine wlL_any rfl hO ?_
  clear hO
  intro K hK v hO
  have hf:=hO.cells
  simp only [BC,CC,and_true]at hf
  go_simp
  refine hK _ _ ?_
  clear hK K hf
  refine wlL_nil ?_
  refine wpo_seq ?_
  refine wpo_seq ?_
  refine wpF_region ?_
  refine wlL_any rfl hO ?_
  clear hO
  intro K hK v hO
  have hf:=hO.cells
  simp only [BC,CC,and_true]at hf
  go_simp
  refine hK _ _ ?_
  clear hK K hf
  refine wlL_any rfl hO ?_
  clear hO
  intro K hK v hO
  go_simp
  refine⟨by decide,?_⟩
  refine callsF_val gg_wrong hO (fun v' h'=>wrong_ext HW.out v') ?_
  clear hO
  intro v hO
  refine hK _ _ ?_
  clear hK K
  refine wlL_nil ?_
  refine wpF_if_t rfl ?_
  refine wpo_seq ?_
  refine wpF_region ?_
  refine wlL_any rfl hO ?_
  clear hO
  intro K hK v hO
  have hf:=hO.cells
  simp only [BC,CC,and_true]at hf
  go_simp
  refine hK _ _ ?_
  clear hK K hf
  refine wlL_put0 (vs:=[.float .f64 0,.float .f64 0]) hO rfl rfl size_iv rfl rfl rfl ?_
  clear hO
  intro v hO
  refine wlL_any rfl hO ?_
  clear hO
  intro K hK v hO
  go_simp
  refine hK _ _ ?_
  clear hK K
  refine wlL_nil ?_
  refine wpo_ret ?_
  try simp only [Exit.then,Exit.inBlock]
  refine bodyO_of fun U=>?_
  have hO:=hO.at U
  refine Wi.own_retA hO 0 rfl rfl rfl rfl agg_iv size_iv rfl ?_
  refine⟨rfl,?_⟩
  exact OwnU.sub (toU hO) (by simp)
theorem mean_o (N:Int)(hg:gz≤w0.heap.size)(hn:n < 4611686018427387904)(hl:Known w0 L W A n c xs)(hnn:0 < n→(totS 0 xs).e=false→isNaN ((totS 0 xs).lo.over (-1) n)=false∧isNaN ((totS 0 xs).hi.over 1 n)=false)(hO:OwnU w0 L W v) :
  CallsF S 36 #[.slice A n c,.int .i64 N] v fun x w'=>x=ansV (meanR xs N)∧OwnU w0 L W w':=by
 unfold meanR meanI
 rw [(hl v hO).len]
 have H63:Hid ((n:Int)<9223372036854775808):=Lib.hid (by omega)
 cases hw:wrongW N
 ·by_cases h0:n=0
  ·rw [if_pos (by simp [h0])]
   subst h0
   have HW:=Lib.hid hw
   clear hw hnn hl hn
   refine callsF_body Tryz.func36 rfl (by decide) ?_
   simp only [Tryz.ntmps36,List.size_toArray,List.length_cons,List.length_nil,Nat.reduceAdd,Nat.reduceSub,Array.replicate_succ,Array.replicate_zero,List.push_toArray,List.append_toArray,List.nil_append,List.cons_append]
   refine wpo_seq ?_
   refine wpF_region ?_
   refine wlL_alloc hO zero_iv rfl rfl ?_
   clear hO
   intro g4 v hO
   refine wlL_any rfl hO ?_
   clear hO
   intro K hK v hO
   have hf:=hO.cells
   simp only [BC,CC,and_true]at hf
   go_simp
   refine hK _ _ ?_
   clear hK K hf
   refine wlL_nil ?_
   refine wpo_seq ?_
   refine wpo_seq ?_
   refine wpF_region ?_
   refine wlL_any rfl hO ?_
   clear hO
   intro K hK v hO
   have hf:=hO.cells
   simp only [BC,CC,and_true]at hf
   go_simp
   refine hK _ _ ?_
   clear hK K hf
   refine wlL_any rfl hO ?_
   clear hO
   intro K hK v hO
   go_simp
   refine⟨by decide,?_⟩
   refine callsF_val gg_wrong hO (fun v' h'=>wrong_ext HW.out v') ?_
   clear hO
   intro v hO
   refine hK _ _ ?_
   clear hK K
   refine wlL_any rfl hO ?_
   clear hO
   intro K hK v hO
   have hf:=hO.cells
   simp only [BC,CC,and_true]at hf
   go_simp
   refine hK _ _ ?_
   clear hK K hf
   iterate 3
    refine wlL_anyW (by rfl) hO ?_
    clear hO
    intro K hK v hO
    have hf:=hO.cells
    simp only [BC,CC,and_true]at hf
    go_simp
    refine hK _ _ ?_
    clear hK K hf
   refine wlL_any rfl hO ?_
   clear hO
   intro K hK v hO
   have hf:=hO.cells
   simp only [BC,CC,and_true]at hf
   go_simp
   refine hK _ _ ?_
   clear hK K hf
   refine wlL_nil ?_
   refine wpF_if_t rfl ?_
   refine wpo_seq ?_
   refine wpF_region ?_
   refine wlL_any rfl hO ?_
   clear hO
   intro K hK v hO
   have hf:=hO.cells
   simp only [BC,CC,and_true]at hf
   go_simp
   refine hK _ _ ?_
   clear hK K hf
   refine wlL_put0 (vs:=[.float .f64 0,.float .f64 0]) hO rfl rfl size_iv rfl rfl rfl ?_
   clear hO
   intro v hO
   refine wlL_any rfl hO ?_
   clear hO
   intro K hK v hO
   go_simp
   refine hK _ _ ?_
   clear hK K
   refine wlL_nil ?_
   refine wpo_ret ?_
   try simp only [Exit.then,Exit.inBlock]
   refine bodyO_of fun U=>?_
   have hO:=hO.at U
   refine Wi.own_retA hO 0 rfl rfl rfl rfl agg_iv size_iv rfl ?_
   refine⟨rfl,?_⟩
   exact OwnU.sub (toU hO) (by simp)
  ·rw [if_neg (by simp [h0])]
   obtain⟨m,rfl,m1,m2⟩:=wrong_nat hw
   replace hnn:=hnn (by omega)
   have HW:=Lib.hid hw
   have HN:=Lib.hid hnn
   have HK:=Lib.hid (totS_ok 0 (hl v hO).2.2.2.1 (by rw [(hl v hO).len];exact hn))
   have HL:=Lib.hid hl
   have HB:=Lib.hid hn
   have M1:=Lib.hid m1
   have M2:=Lib.hid m2
   clear hw hnn hl hn m1 m2
   have hz0:((n:Int)==0)=false:=by rw [beq_eq_false_iff_ne];omega
   refine callsF_body Tryz.func36 rfl (by decide) ?_
   simp only [Tryz.ntmps36,List.size_toArray,List.length_cons,List.length_nil,Nat.reduceAdd,Nat.reduceSub,Array.replicate_succ,Array.replicate_zero,List.push_toArray,List.append_toArray,List.nil_append,List.cons_append]
   refine wpo_seq ?_
   refine wpF_region ?_
   refine wlL_alloc hO zero_iv rfl rfl ?_
   clear hO
   intro g4 v hO
   refine wlL_any rfl hO ?_
   clear hO
   intro K hK v hO
   have hf:=hO.cells
   simp only [BC,CC,and_true]at hf
   go_simp
   refine hK _ _ ?_
   clear hK K hf
   refine wlL_nil ?_
   refine wpo_seq ?_
   refine wpo_seq ?_
   refine wpF_region ?_
   refine wlL_any rfl hO ?_
   clear hO
   intro K hK v hO
   have hf:=hO.cells
   simp only [BC,CC,and_true]at hf
   go_simp
   refine hK _ _ ?_
   clear hK K hf
   refine wlL_any rfl hO ?_
   clear hO
   intro K hK v hO
   go_simp
   refine⟨by decide,?_⟩
   refine callsF_val gg_wrong hO (fun v' h'=>wrong_ext HW.out v') ?_
   clear hO
   intro v hO
   refine hK _ _ ?_
   clear hK K
   refine wlL_any rfl hO ?_
   clear hO
   intro K hK v hO
   have hf:=hO.cells
   simp only [BC,CC,and_true]at hf
   go_simp
   refine hK _ _ ?_
   clear hK K hf
   iterate 3
    refine wlL_anyW (by rfl) hO ?_
    clear hO
    intro K hK v hO
    have hf:=hO.cells
    simp only [BC,CC,and_true]at hf
    go_simp
    refine hK _ _ ?_
    clear hK K hf
   refine wlL_any rfl hO ?_
   clear hO
   intro K hK v hO
   have hf:=hO.cells
   simp only [BC,CC,and_true]at hf
   go_simp
   refine hK _ _ ?_
   clear hK K hf
   refine wlL_nil ?_
   refine wpF_if_f rfl ?_
   refine wpo_skip ?_
   refine wpo_seq ?_
   refine wpF_region ?_
   iterate 2
    refine wlL_any rfl hO ?_
    clear hO
    intro K hK v hO
    have hf:=hO.cells
    simp only [BC,CC,and_true]at hf
    go_simp
    refine hK _ _ ?_
    clear hK K hf
   refine wlL_any rfl hO ?_
   clear hO
   intro K hK v hO
   go_simp
   refine⟨by decide,?_⟩
   refine(over_o 0 m (by decide) hg M1.out M2.out HB.out (fun v' h'=>HL.out v' (h'.sub (List.sublist_cons_self _ _))) hO).mono ?_
   clear hO
   rintro xr v ⟨g,rfl,hO⟩
   refine hK _ _ ?_
   clear hK K
   generalize totS 0 xs=q at *
   obtain⟨qlo,qhi,qe⟩:=q
   refine wlL_any rfl hO ?_
   clear hO
   intro K hK v hO
   go_simp
   refine hK _ _ ?_
   clear hK K
   refine wlL_nil ?_
   refine wpo_seq ?_
   refine wpo_seq ?_
   refine wpF_region ?_
   iterate 4
    refine wlL_any rfl hO ?_
    clear hO
    intro K hK v hO
    have hcE:=(hO.cell 0 rfl 144).trans (shareC_e _)
    simp only at hcE
    go_simp
    refine hK _ _ ?_
    clear hK K
   refine wlL_nil ?_
   cases qe
   ·refine wpF_if_f rfl ?_
    refine wpo_skip ?_
    obtain⟨A1,hA1⟩:∃A1,A1=qlo.over (-1) (n:Int):=⟨_,rfl⟩
    obtain⟨A2,hA2⟩:∃A2,A2=qhi.over (1) (n:Int):=⟨_,rfl⟩
    have HLO:=Lib.hid (fun z w L1 (h:Own z (⟨g,128,shareC ⟨qlo,qhi,false⟩⟩::L1) W w) (hg':gz≤z.heap.size)=>lo_over (w:=w) (L:=L1) (W:=W) (B:=g) (T:=128) (w0:=z) ⟨qlo,qhi,false⟩ (-1) (n:Int) H63.out hg' HK.out.1 (HN.out rfl).1 h)
    have HHI:=Lib.hid (fun z w L1 (h:Own z (⟨g,128,shareC ⟨qlo,qhi,false⟩⟩::L1) W w) (hg':gz≤z.heap.size)=>hi_over (w:=w) (L:=L1) (W:=W) (B:=g) (T:=128) (w0:=z) ⟨qlo,qhi,false⟩ (1) (n:Int) H63.out hg' HK.out.2 (HN.out rfl).2 h)
    simp only at HLO HHI
    rw [←hA1]at HLO
    rw [←hA2]at HHI
    have HA1:=Lib.hid hA1
    have HA2:=Lib.hid hA2
    clear hA1 hA2
    refine wpF_lastT (d1:=4) (d2:=5) (x1:=.pointer (some ⟨g4,0,none⟩)) (x2:=.int .i64 0) (L':=⟨g,128,shareC ⟨qlo,qhi,false⟩⟩::⟨g4,32,[.float .f64 A1,.float .f64 A2]⟩::L) (by kernel_rfl) (hO:=hO) (fun v z hO hs=>?wk) ?kk
    case wk=>
     have hf:True:=trivial
     go_upto_region 6 with fail
     refine wp_wild_own 11 [det (.pointer (some ⟨g,0,none⟩)),det (.pointer (some ⟨g,0,none⟩)),det (.pointer (some ⟨g,0,none⟩)),det (.slice A n c),det (.int .i64 (n:Int)),det (.float .f64 A1),det (.pointer (some ⟨g,0,none⟩)),det (.pointer (some ⟨g,0,none⟩)),det (.pointer (some ⟨g,72,none⟩)),det (.slice A n c),det (.int .i64 (n:Int))] hO (by kernel_rfl) (by kernel_rfl) fun S sp HS HSP HX=>?_
     clear hO hf
     simp only [List.take_succ_cons,List.take_zero,List.drop_succ_cons,List.drop_zero]
     iterate 11
      refine Wi.wpX_step (fun K hK=>?_)
      go_simp
      first
      |refine Wi.StepY.det (by rw [HSP.out];rfl) ?_ ?_
       ·intro wz hz hF
        refine Wi.GivesW.of HX.out hz ?_
        clear hz hF
        go_simp
        exact⟨rfl,Ext.refl _⟩
      |refine Wi.StepY.det (by rw [HSP.out];rfl) ?_ ?_
       ·intro wz hz hF
        clear hF
        rw [HS.out]at hz
        go_simp
        refine(HLO.out _ _ _ hz (Nat.le_trans hg (Nat.le_of_eq hs.symm))).mono ?_
        rintro e w2 ⟨rfl,hO1⟩
        exact⟨_,rfl,rfl,by rw [HS.out];exact hO1,trivial⟩
      refine hK _ _ ?_
      clear hK K
     refine Wi.wpX_nil ?_
     intro wq hO hF
     clear hF HS HSP HX
     have hf:=hO.cells
     simp only [BC,CC,and_true]at hf
     go_wp2_with (first|(go_at_call 20;(with_reducible refine(HHI.out _ _ _ hO (Nat.le_trans hg (Nat.le_of_eq hs.symm))).mono ?_);rintro e w3 ⟨rfl,hO1⟩;clear hO hf;have hO:=hO1;clear hO1;have hf:=True.intro)|((with_reducible refine at_store (T:=32) ?_);refine own_put1 (vs:=[.float .f64 A1,.float .f64 A2]) (T:=32) hO rfl rfl size_iv rfl rfl rfl ?_;clear hO;intro w4 hO;clear hf;have hf:=hO.cells;simp only [BC,CC,and_true]at hf))
     exact⟨rfl,rfl,hO⟩
    case kk=>
     intro t v ht1 ht2 hO
     refine bodyO_of fun U=>?_
     have hO:=hO.at U
     refine Wi.own_retA hO 1 rfl rfl ht1 ht2 agg_iv size_iv rfl ?_
     refine⟨by rw [HA1.out,HA2.out];rfl,?_⟩
     exact OwnU.sub (toU hO) (by simp)
   ·refine wpF_if_t rfl ?_
    refine wpo_seq ?_
    refine wpF_region ?_
    refine wlL_any rfl hO ?_
    clear hO
    intro K hK v hO
    go_simp
    refine⟨by decide,?_⟩
    refine callsF_val gg_emp hO (fun v' h'=>iempty_any v') ?_
    clear hO
    intro v hO
    refine hK _ _ ?_
    clear hK K
    refine wlL_put1 (vs:=[.float .f64 infR,.float .f64 minf]) hO rfl rfl size_iv rfl rfl rfl ?_
    clear hO
    intro v hO
    refine wlL_any rfl hO ?_
    clear hO
    intro K hK v hO
    go_simp
    refine hK _ _ ?_
    clear hK K
    refine wlL_nil ?_
    refine wpo_ret ?_
    try simp only [Exit.then,Exit.inBlock]
    refine bodyO_of fun U=>?_
    have hO:=hO.at U
    refine Wi.own_retA hO 1 rfl rfl rfl rfl agg_iv size_iv rfl ?_
    refine⟨rfl,?_⟩
    exact OwnU.sub (toU hO) (by simp)
 ·rw [if_pos (by simp)]
  have HW:=Lib.hid hw
  clear hw hnn hl hn
  refine callsF_body Tryz.func36 rfl (by decide) ?_
  simp only [Tryz.ntmps36,List.size_toArray,List.length_cons,List.length_nil,Nat.reduceAdd,Nat.reduceSub,Array.replicate_succ,Array.replicate_zero,List.push_toArray,List.append_toArray,List.nil_append,List.cons_append]
  refine wpo_seq ?_
  refine wpF_region ?_
  refine wlL_alloc hO zero_iv rfl rfl ?_
  clear hO
  intro g4 v hO
  refine wlL_any rfl hO ?_
  clear hO
  intro K hK v hO
  have hf:=hO.cells
  simp only [BC,CC,and_true]at hf
  go_simp
  refine hK _ _ ?_
  clear hK K hf
  refine wlL_nil ?_
  refine wpo_seq ?_
  refine wpo_seq ?_
  refine wpF_region ?_
  refine wlL_any rfl hO ?_
  clear hO
  intro K hK v hO
  have hf:=hO.cells
  simp only [BC,CC,and_true]at hf
  go_simp
  refine hK _ _ ?_
  clear hK K hf
  refine wlL_any rfl hO ?_
  clear hO
  intro K hK v hO
  go_simp
  refine⟨by decide,?_⟩
  refine callsF_val gg_wrong hO (fun v' h'=>wrong_ext HW.out v') ?_
  clear hO
  intro v hO
  refine hK _ _ ?_
  clear hK K
  refine wlL_any rfl hO ?_
  clear hO
  intro K hK v hO
  have hf:=hO.cells
  simp only [BC,CC,and_true]at hf
  go_simp
  refine hK _ _ ?_
  clear hK K hf
  iterate 3 refine wlL_skip (by rfl) ?_
  refine wlL_any rfl hO ?_
  clear hO
  intro K hK v hO
  have hf:=hO.cells
  simp only [BC,CC,and_true]at hf
  go_simp
  refine hK _ _ ?_
  clear hK K hf
  refine wlL_nil ?_
  refine wpF_if_t rfl ?_
  refine wpo_seq ?_
  refine wpF_region ?_
  refine wlL_any rfl hO ?_
  clear hO
  intro K hK v hO
  have hf:=hO.cells
  simp only [BC,CC,and_true]at hf
  go_simp
  refine hK _ _ ?_
  clear hK K hf
  refine wlL_put0 (vs:=[.float .f64 0,.float .f64 0]) hO rfl rfl size_iv rfl rfl rfl ?_
  clear hO
  intro v hO
  refine wlL_any rfl hO ?_
  clear hO
  intro K hK v hO
  go_simp
  refine hK _ _ ?_
  clear hK K
  refine wlL_nil ?_
  refine wpo_ret ?_
  try simp only [Exit.then,Exit.inBlock]
  refine bodyO_of fun U=>?_
  have hO:=hO.at U
  refine Wi.own_retA hO 0 rfl rfl rfl rfl agg_iv size_iv rfl ?_
  refine⟨rfl,?_⟩
  exact OwnU.sub (toU hO) (by simp)
theorem dot_o (N:Int)(hg:gz≤w0.heap.size)(hn:n < 4611686018427387904)(hl:Known w0 L W A n c xs)(hm:Known w0 L W A2 n2 c2 ys)(hnn:(totP xs ys).e=false→isNaN ((totP xs ys).lo.round (-1))=false∧isNaN ((totP xs ys).hi.round 1)=false)(hO:OwnU w0 L W v) :
  CallsF S 37 #[.slice A n c,.slice A2 n2 c2,.int .i64 N] v fun x w'=>x=ansV (dotR xs ys N)∧OwnU w0 L W w':=by
 unfold dotR
 rw [(hl v hO).len,(hm v hO).len]
 cases hw:wrongW N
 ·by_cases h0:n=n2
  ·rw [if_neg (by simp [h0])]
   subst h0
   obtain⟨m,rfl,m1,m2⟩:=wrong_nat hw
   have HW:=Lib.hid hw
   have HN:=Lib.hid hnn
   have HX:=Lib.hid (hl v hO).len
   have HK:=Lib.hid (totP_ok (hl v hO).2.2.2.1 (hm v hO).2.2.2.1 (by rw [(hl v hO).len];exact hn))
   have HL:=Lib.hid hl
   have HM:=Lib.hid hm
   have HB:=Lib.hid hn
   have M1:=Lib.hid m1
   have M2:=Lib.hid m2
   clear hw hnn hl hm hn m1 m2
   refine callsF_body Tryz.func37 rfl (by decide) ?_
   simp only [Tryz.ntmps37,List.size_toArray,List.length_cons,List.length_nil,Nat.reduceAdd,Nat.reduceSub,Array.replicate_succ,Array.replicate_zero,List.push_toArray,List.append_toArray,List.nil_append,List.cons_append]
   refine wpo_seq ?_
   refine wpF_region ?_
   refine wlL_box (cs:=[.slice A n c]) hO rfl rfl ?_
   clear hO
   intro g1 v hO
   refine wlL_box (cs:=[.slice A2 n c2]) hO rfl rfl ?_
   clear hO
   intro g2 v hO
   refine wlL_alloc hO zero_iv rfl rfl ?_
   clear hO
   intro g4 v hO
   refine wlL_any rfl hO ?_
   clear hO
   intro K hK v hO
   have hf:=hO.cells
   simp only [BC,CC,and_true]at hf
   go_simp
   refine hK _ _ ?_
   clear hK K hf
   refine wlL_nil ?_
   refine wpo_seq ?_
   refine wpo_seq ?_
   refine wpF_region ?_
   refine wlL_any rfl hO ?_
   clear hO
   intro K hK v hO
   have hf:=hO.cells
   simp only [BC,CC,and_true]at hf
   go_simp
   refine hK _ _ ?_
   clear hK K hf
   refine wlL_any rfl hO ?_
   clear hO
   intro K hK v hO
   go_simp
   refine⟨by decide,?_⟩
   refine callsF_val gg_wrong hO (fun v' h'=>wrong_ext HW.out v') ?_
   clear hO
   intro v hO
   refine hK _ _ ?_
   clear hK K
   refine wlL_any rfl hO ?_
   clear hO
   intro K hK v hO
   have hf:=hO.cells
   simp only [BC,CC,and_true]at hf
   go_simp
   refine hK _ _ ?_
   clear hK K hf
   iterate 5
    refine wlL_anyW (by rfl) hO ?_
    clear hO
    intro K hK v hO
    have hf:=hO.cells
    simp only [BC,CC,and_true]at hf
    go_simp
    refine hK _ _ ?_
    clear hK K hf
   refine wlL_any rfl hO ?_
   clear hO
   intro K hK v hO
   have hf:=hO.cells
   simp only [BC,CC,and_true]at hf
   go_simp
   refine hK _ _ ?_
   clear hK K hf
   refine wlL_nil ?_
   refine wpF_if_f rfl ?_
   refine wpo_skip ?_
   refine wpo_seq ?_
   refine wpF_region ?_
   iterate 4
    refine wlL_any rfl hO ?_
    clear hO
    intro K hK v hO
    have hf:=hO.cells
    simp only [BC,CC,and_true]at hf
    go_simp
    refine hK _ _ ?_
    clear hK K hf
   refine wlL_gather (n:=n) (N:=m) (ff:=93) (us:=#[.pointer (some ⟨g1,0,none⟩),.pointer (some ⟨g2,0,none⟩)]) hO hg rfl rfl rfl (by simp [argB]) M1.out M2.out HB.out (fun v' h'=>job_dot (Nat.le_trans hg h'.size) (HL.out v' (h'.sub (List.sublist_append_right [_,_,_] _))) (HM.out v' (h'.sub (List.sublist_append_right [_,_,_] _))) (Nat.le_refl _) (h'.sub (List.sublist_cons_self _ _))) ?_
   clear hO
   intro g v hO
   rw [←HX.out]at hO
   have hO2:OwnU w0 (⟨g,128,shareC (totP xs ys)⟩::⟨g4,32,[.float .f64 0,.float .f64 0]⟩::⟨g2,24,[.slice A2 xs.length c2]⟩::⟨g1,24,[.slice A xs.length c]⟩::L) W v:=hO
   clear hO
   have hO:=hO2
   clear hO2
   generalize totP xs ys=q at *
   refine wlL_any rfl hO ?_
   clear hO
   intro K hK v hO
   go_simp
   refine⟨by decide,?_⟩
   refine callsF_ownv gg_done hO hg (fun v' z hz hg'=>done_any q hg' HK.out HN.out hz) ?_
   clear hO
   intro v hO
   refine hK _ _ ?_
   clear hK K
   obtain⟨x1,hx1⟩:∃x,x=(doneI q).1:=⟨_,rfl⟩
   obtain⟨x2,hx2⟩:∃x,x=(doneI q).2:=⟨_,rfl⟩
   rw [←hx1,←hx2]
   have HX1:=Lib.hid hx1
   have HX2:=Lib.hid hx2
   clear hx1 hx2
   iterate 2
    refine wlL_any rfl hO ?_
    clear hO
    intro K hK v hO
    go_simp
    refine hK _ _ ?_
    clear hK K
   refine wlL_put1 (vs:=[.float .f64 x1,.float .f64 x2]) hO rfl rfl size_iv rfl rfl rfl ?_
   clear hO
   intro v hO
   refine wlL_any rfl hO ?_
   clear hO
   intro K hK v hO
   go_simp
   refine hK _ _ ?_
   clear hK K
   refine wlL_nil ?_
   refine wpo_ret ?_
   try simp only [Exit.then,Exit.inBlock]
   refine bodyO_of fun U=>?_
   have hO:=hO.at U
   refine Wi.own_retA hO 1 rfl rfl rfl rfl agg_iv size_iv rfl ?_
   refine⟨by rw [HX1.out,HX2.out];rfl,?_⟩
   exact OwnU.sub (toU hO) (List.sublist_append_right [_,_,_,_] _)
  ·rw [if_pos (by simp [h0])]
   have hne:((n:Int) != (n2:Int))=true:=by rw [bne_iff_ne];omega
   have HW:=Lib.hid hw
   clear hw hnn hl hm hn h0
   refine callsF_body Tryz.func37 rfl (by decide) ?_
   simp only [Tryz.ntmps37,List.size_toArray,List.length_cons,List.length_nil,Nat.reduceAdd,Nat.reduceSub,Array.replicate_succ,Array.replicate_zero,List.push_toArray,List.append_toArray,List.nil_append,List.cons_append]
   refine wpo_seq ?_
   refine wpF_region ?_
   refine wlL_box (cs:=[.slice A n c]) hO rfl rfl ?_
   clear hO
   intro g1 v hO
   refine wlL_box (cs:=[.slice A2 n2 c2]) hO rfl rfl ?_
   clear hO
   intro g2 v hO
   refine wlL_alloc hO zero_iv rfl rfl ?_
   clear hO
   intro g4 v hO
   refine wlL_any rfl hO ?_
   clear hO
   intro K hK v hO
   have hf:=hO.cells
   simp only [BC,CC,and_true]at hf
   go_simp
   refine hK _ _ ?_
   clear hK K hf
   refine wlL_nil ?_
   refine wpo_seq ?_
   refine wpo_seq ?_
   refine wpF_region ?_
   refine wlL_any rfl hO ?_
   clear hO
   intro K hK v hO
   have hf:=hO.cells
   simp only [BC,CC,and_true]at hf
   go_simp
   refine hK _ _ ?_
   clear hK K hf
   refine wlL_any rfl hO ?_
   clear hO
   intro K hK v hO
   go_simp
   refine⟨by decide,?_⟩
   refine callsF_val gg_wrong hO (fun v' h'=>wrong_ext HW.out v') ?_
   clear hO
   intro v hO
   refine hK _ _ ?_
   clear hK K
   refine wlL_any rfl hO ?_
   clear hO
   intro K hK v hO
   have hf:=hO.cells
   simp only [BC,CC,and_true]at hf
   go_simp
   refine hK _ _ ?_
   clear hK K hf
   iterate 5
    refine wlL_anyW (by rfl) hO ?_
    clear hO
    intro K hK v hO
    have hf:=hO.cells
    simp only [BC,CC,and_true]at hf
    go_simp
    refine hK _ _ ?_
    clear hK K hf
   refine wlL_any rfl hO ?_
   clear hO
   intro K hK v hO
   have hf:=hO.cells
   simp only [BC,CC,and_true]at hf
   go_simp
   refine hK _ _ ?_
   clear hK K hf
   refine wlL_nil ?_
   refine wpF_if_t rfl ?_
   refine wpo_seq ?_
   refine wpF_region ?_
   refine wlL_any rfl hO ?_
   clear hO
   intro K hK v hO
   have hf:=hO.cells
   simp only [BC,CC,and_true]at hf
   go_simp
   refine hK _ _ ?_
   clear hK K hf
   refine wlL_put0 (vs:=[.float .f64 0,.float .f64 0]) hO rfl rfl size_iv rfl rfl rfl ?_
   clear hO
   intro v hO
   refine wlL_any rfl hO ?_
   clear hO
   intro K hK v hO
   go_simp
   refine hK _ _ ?_
   clear hK K
   refine wlL_nil ?_
   refine wpo_ret ?_
   try simp only [Exit.then,Exit.inBlock]
   refine bodyO_of fun U=>?_
   have hO:=hO.at U
   refine Wi.own_retA hO 0 rfl rfl rfl rfl agg_iv size_iv rfl ?_
   refine⟨rfl,?_⟩
   exact OwnU.sub (toU hO) (List.sublist_append_right [_,_,_] _)
 ·rw [if_pos (by simp)]
  have HW:=Lib.hid hw
  clear hw hnn hl hm hn
  refine callsF_body Tryz.func37 rfl (by decide) ?_
  simp only [Tryz.ntmps37,List.size_toArray,List.length_cons,List.length_nil,Nat.reduceAdd,Nat.reduceSub,Array.replicate_succ,Array.replicate_zero,List.push_toArray,List.append_toArray,List.nil_append,List.cons_append]
  refine wpo_seq ?_
  refine wpF_region ?_
  refine wlL_box (cs:=[.slice A n c]) hO rfl rfl ?_
  clear hO
  intro g1 v hO
  refine wlL_box (cs:=[.slice A2 n2 c2]) hO rfl rfl ?_
  clear hO
  intro g2 v hO
  refine wlL_alloc hO zero_iv rfl rfl ?_
  clear hO
  intro g4 v hO
  refine wlL_any rfl hO ?_
  clear hO
  intro K hK v hO
  have hf:=hO.cells
  simp only [BC,CC,and_true]at hf
  go_simp
  refine hK _ _ ?_
  clear hK K hf
  refine wlL_nil ?_
  refine wpo_seq ?_
  refine wpo_seq ?_
  refine wpF_region ?_
  refine wlL_any rfl hO ?_
  clear hO
  intro K hK v hO
  have hf:=hO.cells
  simp only [BC,CC,and_true]at hf
  go_simp
  refine hK _ _ ?_
  clear hK K hf
  refine wlL_any rfl hO ?_
  clear hO
  intro K hK v hO
  go_simp
  refine⟨by decide,?_⟩
  refine callsF_val gg_wrong hO (fun v' h'=>wrong_ext HW.out v') ?_
  clear hO
  intro v hO
  refine hK _ _ ?_
  clear hK K
  refine wlL_any rfl hO ?_
  clear hO
  intro K hK v hO
  have hf:=hO.cells
  simp only [BC,CC,and_true]at hf
  go_simp
  refine hK _ _ ?_
  clear hK K hf
  iterate 5 refine wlL_skip (by rfl) ?_
  refine wlL_any rfl hO ?_
  clear hO
  intro K hK v hO
  have hf:=hO.cells
  simp only [BC,CC,and_true]at hf
  go_simp
  refine hK _ _ ?_
  clear hK K hf
  refine wlL_nil ?_
  refine wpF_if_t rfl ?_
  refine wpo_seq ?_
  refine wpF_region ?_
  refine wlL_any rfl hO ?_
  clear hO
  intro K hK v hO
  have hf:=hO.cells
  simp only [BC,CC,and_true]at hf
  go_simp
  refine hK _ _ ?_
  clear hK K hf
  refine wlL_put0 (vs:=[.float .f64 0,.float .f64 0]) hO rfl rfl size_iv rfl rfl rfl ?_
  clear hO
  intro v hO
  refine wlL_any rfl hO ?_
  clear hO
  intro K hK v hO
  go_simp
  refine hK _ _ ?_
  clear hK K
  refine wlL_nil ?_
  refine wpo_ret ?_
  try simp only [Exit.then,Exit.inBlock]
  refine bodyO_of fun U=>?_
  have hO:=hO.at U
  refine Wi.own_retA hO 0 rfl rfl rfl rfl agg_iv size_iv rfl ?_
  refine⟨rfl,?_⟩
  exact OwnU.sub (toU hO) (List.sublist_append_right [_,_,_] _)
end
theorem gg_of:GG 13:=body_gg Tryz.func13 (by kernel_rfl)
theorem of_any (a b:Nat)(w:World):Calls Tryz.prog 13 #[.float .f64 a,.float .f64 b] w fun e w'=>e=.returned (.agg #[.float .f64 a,.float .f64 b])∧Ext w w':=by
 have hO:=Own.start w
 have hf:True:=trivial
 go_enter Tryz.func13,Tryz.ntmps13
 go_wp2_with (first|((with_reducible refine at_alloc ?_);refine own_alloc hO zero_iv rfl rfl ?_;clear hO;intro g4 wa hO;clear hf;have hf:=hO.cells;simp only [BC,CC,and_true]at hf)|((with_reducible refine at_store (T:=32) ?_);refine own_put0 (vs:=[.float .f64 a,.float .f64 b]) (T:=32) hO rfl rfl size_iv rfl rfl rfl ?_;clear hO;intro wb hO;clear hf;have hf:=hO.cells;simp only [BC,CC,and_true]at hf))
 exact own_ret hO 0 rfl rfl rfl agg_iv size_iv rfl ⟨rfl,hO.toExt⟩
def ivC (xs:List (Nat×Nat)):List Value:=xs.flatMap fun q=>[.float .f64 q.1,.float .f64 q.2]
theorem ivC_at:∀(xs:List (Nat×Nat)) (k:Nat) (q:Nat×Nat),xs[k]?=some q→(ivC xs)[k*2]?=some (.float .f64 q.1)∧(ivC xs)[k*2+1]?=some (.float .f64 q.2)
 |[],k,q,h=>by cases h
 |x::xs,0,q,h=>by
  injection h with h
  subst h
  exact⟨rfl,rfl⟩
 |x::xs,k+1,q,h=>by
  have e:(k+1)*2=k*2+1+1:=by omega
  rw [e]
  exact ivC_at xs k q h
section
variable {S:Frame→List Frame→World→Prop} {v w0:World} {L:List Bx} {W:List Sw} {f:FuncId} {args:Array Value}
theorem known_box {i g:Nat}{T:TypeId}{xs:List (Nat×Nat)}(hi:L[i]?=some ⟨g,T,ivC xs⟩)(hx:∀ q∈xs,q.1 < 18446744073709551616∧q.2 < 18446744073709551616)(hn:xs.length≤9223372036854775807):Known w0 L W (some ⟨g,0,none⟩) xs.length xs.length xs:=fun v' h'=>by
 refine⟨rfl,Nat.le_refl _,hn,hx,fun _=>⟨⟨g,0,none⟩,rfl,(h'.2.1 _ (List.mem_of_getElem? hi)).2.1.lt,fun k q hq=>?_⟩⟩
 obtain⟨h1,h2⟩:=ivC_at xs k q hq
 refine⟨?_,?_⟩
 ·rw [Addr.add_lit,Nat.zero_add,h'.cell i hi];exact h1
 ·rw [Addr.add_lit,Nat.zero_add,h'.cell i hi];exact h2
theorem ans_is {r0 r:(Nat×Nat)×Nat}(h:CallsF S f args v fun x w'=>x=ansV r0∧OwnU w0 L W w')(e:r0=r):CallsF S f args v fun x w'=>x=.tuple #[.agg #[.float .f64 r.1.1,.float .f64 r.1.2],.int .i64 (r.2:Int)]∧OwnU w0 L W w':=by
 subst e
 exact h
end
theorem und_ivs:P.underlying 24=some (.slice 32):=by kernel_rfl
noncomputable def iIv:TypeInfo:=(P.info? 32).getD default
theorem iIv_eq:P.info? 32=some iIv:=by kernel_rfl
theorem iIv_size:iIv.size=2:=by kernel_rfl
theorem iIv_zero:iIv.zero=some (.agg #[.float .f64 0,.float .f64 0]):=by kernel_rfl
theorem build1 (a0 b0:Nat)(w:World):(Instr.buildSlice 24 1 #[(0,.agg #[.float .f64 a0,.float .f64 b0])]).run P w=.ok (.slice (some ⟨w.heap.size,0,none⟩) 1 1) (w.alloc (.cells (ivC [(a0,b0)]).toArray 32)):=
 run_buildSlice w _ _ 1 _ _ iIv _ und_ivs iIv_eq iIv_zero (by rw [iIv_size];decide) (by rw [iIv_size];decide) (by rw [iIv_size];kernel_rfl)
theorem build2 (a0 b0 a1 b1:Nat)(w:World):(Instr.buildSlice 24 2 #[(0,.agg #[.float .f64 a0,.float .f64 b0]),(1,.agg #[.float .f64 a1,.float .f64 b1])]).run P w=.ok (.slice (some ⟨w.heap.size,0,none⟩) 2 2) (w.alloc (.cells (ivC [(a0,b0),(a1,b1)]).toArray 32)):=
 run_buildSlice w _ _ 2 _ _ iIv _ und_ivs iIv_eq iIv_zero (by rw [iIv_size];decide) (by rw [iIv_size];decide) (by rw [iIv_size];kernel_rfl)
theorem build3 (a0 b0 a1 b1 a2 b2:Nat)(w:World):(Instr.buildSlice 24 3 #[(0,.agg #[.float .f64 a0,.float .f64 b0]),(1,.agg #[.float .f64 a1,.float .f64 b1]),(2,.agg #[.float .f64 a2,.float .f64 b2])]).run P w=.ok (.slice (some ⟨w.heap.size,0,none⟩) 3 3) (w.alloc (.cells (ivC [(a0,b0),(a1,b1),(a2,b2)]).toArray 32)):=
 run_buildSlice w _ _ 3 _ _ iIv _ und_ivs iIv_eq iIv_zero (by rw [iIv_size];decide) (by rw [iIv_size];decide) (by rw [iIv_size];kernel_rfl)
section
variable {S:Frame→List Frame→World→Prop} {v w0:World} {L:List Bx} {W:List Sw}
theorem lives_o (hg:gz≤w0.heap.size)(hO:OwnU w0 L W v):CallsF S 25 #[] v fun x w'=>x=.bool true∧OwnU w0 L W w':=by
 refine callsF_body Tryz.func25 rfl (by decide) ?_
 simp only [Tryz.ntmps25,List.size_toArray,List.length_cons,List.length_nil,Nat.reduceAdd,Nat.reduceSub,Array.replicate_succ,Array.replicate_zero,List.push_toArray,List.append_toArray,List.nil_append,List.cons_append]
 refine wpo_seq ?_
 refine wpF_region ?_
 refine wlL_any rfl hO ?_
 clear hO
 intro K hK v hO
 go_simp
 refine hK _ _ ?_
 clear hK K
 refine wlL_nil ?_
 refine wpo_seq ?_
 refine wpF_region ?_
 iterate 3
  refine wlL_any rfl hO ?_
  clear hO
  intro K hK v hO
  go_simp
  refine⟨by decide,?_⟩
  refine callsF_val gg_of hO (fun v' h'=>of_any _ _ v') ?_
  clear hO
  intro v hO
  refine hK _ _ ?_
  clear hK K
 refine wlL_slice (cs:=ivC [(4607182418800017408,4611686018427387904),(4613937818241073152,4616189618054758400),(13840687554816376832,4602678819172646912)]) hO (fun w=>Eq.trans (congrArg (fun q=>(Instr.buildSlice _ _ q).run P w) (by go_simp)) (build3 4607182418800017408 4611686018427387904 4613937818241073152 4616189618054758400 13840687554816376832 4602678819172646912 w)) rfl ?_
 clear hO
 intro g1 v hO
 refine wlL_any rfl hO ?_
 clear hO
 intro K hK v hO
 go_simp
 refine⟨by decide,?_⟩
 refine(ans_is (sum_o (xs:=[(4607182418800017408,4611686018427387904),(4613937818241073152,4616189618054758400),(13840687554816376832,4602678819172646912)]) 3 hg (by decide) (known_box (i:=0) rfl (by decide) (by decide)) (fun _=>(by decide +kernel)) hO) (r:=((13830554455654793216,4619004367821864960),0)) (by decide +kernel)).mono ?_
 clear hO
 rintro xr v ⟨rfl,hO⟩
 refine hK _ _ ?_
 clear hK K
 iterate 3
  refine wlL_any rfl hO ?_
  clear hO
  intro K hK v hO
  go_simp
  refine hK _ _ ?_
  clear hK K
 refine wlL_alloc hO zero_iv rfl rfl ?_
 clear hO
 intro g2 v hO
 refine wlL_put0 (vs:=[.float .f64 13830554455654793216,.float .f64 4619004367821864960]) hO rfl rfl size_iv rfl rfl rfl ?_
 clear hO
 intro v hO
 refine wlL_any rfl hO ?_
 clear hO
 intro K hK v hO
 go_simp
 refine hK _ _ ?_
 clear hK K
 refine wlL_nil ?_
 refine wpo_seq ?_
 refine wpF_region ?_
 iterate 2
  refine wlL_any rfl hO ?_
  clear hO
  intro K hK v hO
  go_simp
  refine⟨by decide,?_⟩
  refine callsF_val gg_of hO (fun v' h'=>of_any _ _ v') ?_
  clear hO
  intro v hO
  refine hK _ _ ?_
  clear hK K
 refine wlL_slice (cs:=ivC [(4607182418800017408,4611686018427387904),(4613937818241073152,4616189618054758400)]) hO (fun w=>Eq.trans (congrArg (fun q=>(Instr.buildSlice _ _ q).run P w) (by go_simp)) (build2 4607182418800017408 4611686018427387904 4613937818241073152 4616189618054758400 w)) rfl ?_
 clear hO
 intro g3 v hO
 iterate 2
  refine wlL_any rfl hO ?_
  clear hO
  intro K hK v hO
  go_simp
  refine⟨by decide,?_⟩
  refine callsF_val gg_of hO (fun v' h'=>of_any _ _ v') ?_
  clear hO
  intro v hO
  refine hK _ _ ?_
  clear hK K
 refine wlL_slice (cs:=ivC [(4617315517961601024,4618441417868443648),(13830554455654793216,4607182418800017408)]) hO (fun w=>Eq.trans (congrArg (fun q=>(Instr.buildSlice _ _ q).run P w) (by go_simp)) (build2 4617315517961601024 4618441417868443648 13830554455654793216 4607182418800017408 w)) rfl ?_
 clear hO
 intro g4 v hO
 refine wlL_any rfl hO ?_
 clear hO
 intro K hK v hO
 go_simp
 refine⟨by decide,?_⟩
 refine(ans_is (dot_o (xs:=[(4607182418800017408,4611686018427387904),(4613937818241073152,4616189618054758400)]) (ys:=[(4617315517961601024,4618441417868443648),(13830554455654793216,4607182418800017408)]) 2 hg (by decide) (known_box (i:=1) rfl (by decide) (by decide)) (known_box (i:=0) rfl (by decide) (by decide)) (by decide +kernel) hO) (r:=((4607182418800017408,4625196817309499392),0)) (by decide +kernel)).mono ?_
 clear hO
 rintro xr v ⟨rfl,hO⟩
 refine hK _ _ ?_
 clear hK K
 iterate 3
  refine wlL_any rfl hO ?_
  clear hO
  intro K hK v hO
  go_simp
  refine hK _ _ ?_
  clear hK K
 refine wlL_alloc hO zero_iv rfl rfl ?_
 clear hO
 intro g5 v hO
 refine wlL_put0 (vs:=[.float .f64 4607182418800017408,.float .f64 4625196817309499392]) hO rfl rfl size_iv rfl rfl rfl ?_
 clear hO
 intro v hO
 refine wlL_any rfl hO ?_
 clear hO
 intro K hK v hO
 go_simp
 refine hK _ _ ?_
 clear hK K
 refine wlL_nil ?_
 have he1:∀w,(binOp .eql 32 (.agg #[.float .f64 13830554455654793216,.float .f64 4619004367821864960]) (.agg #[.float .f64 13830554455654793216,.float .f64 4619004367821864960])).run Tryz.prog w=.ok (.bool true) w:=fun w=>(eqF (by decide) (by decide) (by decide) (by decide) w).trans (by rfl)
 have he2:∀w,(binOp .eql 32 (.agg #[.float .f64 4607182418800017408,.float .f64 4625196817309499392]) (.agg #[.float .f64 4607182418800017408,.float .f64 4625196817309499392])).run Tryz.prog w=.ok (.bool true) w:=fun w=>(eqF (by decide) (by decide) (by decide) (by decide) w).trans (by rfl)
 refine wpF_lastT (d1:=0) (d2:=0) (x1:=.bool true) (x2:=.bool true) (L':=⟨g5,32,[.float .f64 4607182418800017408,.float .f64 4625196817309499392]⟩::⟨g4,32,ivC [(4617315517961601024,4618441417868443648),(13830554455654793216,4607182418800017408)]⟩::⟨g3,32,ivC [(4607182418800017408,4611686018427387904),(4613937818241073152,4616189618054758400)]⟩::⟨g2,32,[.float .f64 13830554455654793216,.float .f64 4619004367821864960]⟩::⟨g1,32,ivC [(4607182418800017408,4611686018427387904),(4613937818241073152,4616189618054758400),(13840687554816376832,4602678819172646912)]⟩::L) (by kernel_rfl) (hO:=hO) (fun v z hO hs=>?wk) ?kk
 case wk=>
  have hf:True:=trivial
  go_upto_region 3 with fail
  refine wp_loose_own 10 [det (.agg #[.float .f64 13830554455654793216,.float .f64 4619004367821864960]),det (.agg #[.float .f64 13830554455654793216,.float .f64 4619004367821864960]),det (.bool true),det (.bool true),det (.int .i64 0),det (.bool true),det (.bool true),det (.bool true),det (.agg #[.float .f64 4607182418800017408,.float .f64 4625196817309499392]),det (.agg #[.float .f64 4607182418800017408,.float .f64 4625196817309499392])] hO (by kernel_rfl) (by kernel_rfl) fun S sp HS HSP=>?_
  clear hO hf
  simp only [List.take_succ_cons,List.take_zero,List.drop_succ_cons,List.drop_zero]
  iterate 10
   refine wpX_step (fun K hK=>?_)
   go_simp
   first
   |refine StepY.det (by rw [HSP.out];rfl) ?_ ?_
    ·intro wz hz hF
     rw [HS.out]at hz
     have hf:=hz.cells
     simp only [BC,CC,and_true]at hf
     clear hz hF
     go_simp
     exact⟨rfl,Ext.refl _⟩
   |refine StepY.det (by rw [HSP.out];rfl) ?_ ?_
    ·intro wz hz hF
     clear hz hF
     go_simp
     refine(of_any _ _ _).mono ?_
     rintro e w2 ⟨rfl,hE1⟩
     exact⟨_,rfl,rfl,hE1⟩
   refine hK _ _ ?_
   clear hK K
  refine wpX_nil ?_
  intro wq hO hF
  clear hF HS HSP
  have hf:=hO.cells
  simp only [BC,CC,and_true]at hf
  go_wp2_with fail
  exact⟨rfl,rfl,hO⟩
 case kk=>
  intro t v ht1 ht2 hO
  refine bodyO_of fun U=>?_
  have hO:=hO.at U
  refine bodyPost_ret (results_tmp rfl _ _ _) rfl ⟨ht1,?_⟩
  exact OwnU.sub (toU hO) (List.sublist_append_right [_,_,_,_,_] _)
end
abbrev Kl:=List (Nat×Value)
def lk:Kl→Nat→Option Value
 |[],_=>none
 |(d,V)::l,k=>if Nat.beq d k then some V else lk l k
def Fr (n:Nat)(l:Kl)(t:Array Value):Prop:=t.size=n∧∀k V,lk l k=some V→t.getD k undef=V
def ev (l:Kl):Operand→Option Value
 | .tmp k=>lk l k
 | .const v=>some v
 | .func f=>some (.func (.func f) #[] #[])
 |_=>none
section
variable {n d k:Nat} {l:Kl} {t:Array Value} {V X Y:Value} {x y z:Operand} {D:List Deferred}
theorem Fr.put (h:Fr n l t)(hd:Nat.blt d n=true):Fr n ((d,V)::l) (t.setIfInBounds d V):=by
 have hd:d<n:=by simpa [Nat.blt_eq]using hd
 refine⟨by simp [h.1],fun k U hk=>?_⟩
 unfold lk at hk
 rw [Array.getD_eq_getD_getElem?,Array.getElem?_setIfInBounds]
 split at hk
 ·rename_i e
  have e:=Nat.eq_of_beq_eq_true e
  injection hk with hk
  subst e hk
  rw [if_pos rfl,if_pos (by rw [h.1];exact hd)]
  rfl
 ·rename_i e
  have e:d≠k:=fun he=>e (by rw [he];exact Nat.beq_refl k)
  rw [if_neg e,←Array.getD_eq_getD_getElem?]
  exact h.2 k U hk
theorem Fr.ev (h:Fr n l t)(hx:ev l x=some V):(⟨t,D⟩:Act).eval x=V:=by
 cases x with
 |tmp k=>exact h.2 k V hx
 |const v=>injection hx with hx
 |func f=>injection hx with hx
 |global g=>cases hx
theorem Fr.start (n:Nat):Fr n [] (Array.replicate n undef):=⟨by simp,fun k V h=>by cases h⟩
variable {o:Oper} {w:World}
theorem rv_move (ho:o.op=.move x)(h:Fr n l t)(hx:ev l x=some V)(w:World):(execOp (⟨t,D⟩:Act).eval o).run P w=.ok (.value V) w:=by
 have e:=h.ev (D:=D) hx
 simp [execOp,ho,e]
theorem rv_assign (ho:o.op=.assign x)(h:Fr n l t)(hx:ev l x=some V)(w:World):(execOp (⟨t,D⟩:Act).eval o).run P w=.ok (.value V) w:=by
 have e:=h.ev (D:=D) hx
 simp [execOp,ho,e]
theorem rv_extract {xs:Array Value}{i:Nat}(ho:o.op=.extract x i)(h:Fr n l t)(hx:ev l x=some (.tuple xs))(hi:xs[i]?=some V)(w:World):(execOp (⟨t,D⟩:Act).eval o).run P w=.ok (.value V) w:=by
 have e:=h.ev (D:=D) hx
 simp [execOp,ho,e,Instr.extract,hi]
theorem rv_pick {b:Bool}(ho:o.op=.pick x y z)(h:Fr n l t)(hx:ev l x=some (.bool b))(hy:ev l y=some X)(hz:ev l z=some Y)(hv:(if b then X else Y)=V)(w:World):(execOp (⟨t,D⟩:Act).eval o).run P w=.ok (.value V) w:=by
 have e1:=h.ev (D:=D) hx
 have e2:=h.ev (D:=D) hy
 have e3:=h.ev (D:=D) hz
 simp [execOp,ho,e1,e2,e3,asBool,←hv]
theorem rv_un {op:UnOp}{ty:TypeId}(ho:o.op=.unOp op ty x)(h:Fr n l t)(hx:ev l x=some X)(hr:∀ w,(Go.Op.unary op X).run P w=.ok V w)(w:World):(execOp (⟨t,D⟩:Act).eval o).run P w=.ok (.value V) w:=by
 have e:=h.ev (D:=D) hx
 simp [execOp,ho,e,hr]
theorem rv_bin {op:BinOp}{ty s:TypeId}(ho:o.op=.binOp op ty x y s)(h:Fr n l t)(hx:ev l x=some X)(hy:ev l y=some Y)(hr:∀ w,(do eqGuard op ty x y X Y;binOp op ty X Y:Sem Value).run P w=.ok V w)(w:World):(execOp (⟨t,D⟩:Act).eval o).run P w=.ok (.value V) w:=by
 have e1:=h.ev (D:=D) hx
 have e2:=h.ev (D:=D) hy
 have:=hr w
 simp only [execOp,ho,e1,e2,Sem.run_bind]at this ⊢
 simp only [this,Result.andThen_ok]
 rfl
theorem rv_load {ty:TypeId}{ad:Addr}(ho:o.op=.load ty x)(h:Fr n l t)(hx:ev l x=some (.pointer (some ad)))(hr:(loadVar ty ad).run P w=.ok V w):(execOp (⟨t,D⟩:Act).eval o).run P w=.ok (.value V) w:=by
 have e:=h.ev (D:=D) hx
 simp [execOp,ho,e,Instr.loadAt,Instr.sureAddr,hr]
theorem rv_call1 {f:FuncId}{ats:Array TypeId}(ho:o.op=.call { callee:=.value (.func f),args:=#[x],argTypes:=ats })(hr:∀ args w,(callFunc f args).run P w=.ok (.enter f args) w)(h:Fr n l t)(hx:ev l x=some X)(w:World):(execOp (⟨t,D⟩:Act).eval o).run P w=.ok (.enter f #[X]) w:=by
 rw [execOp_call_func ho,hr]
 simp [h.ev (D:=D) hx]
theorem rv_call0 {f:FuncId}{ats:Array TypeId}(ho:o.op=.call { callee:=.value (.func f),args:=#[],argTypes:=ats })(hr:∀ args w,(callFunc f args).run P w=.ok (.enter f args) w)(w:World):(execOp (⟨t,D⟩:Act).eval o).run P w=.ok (.enter f #[]) w:=by
 rw [execOp_call_func ho,hr]
 simp
theorem rv_call2 {f:FuncId}{ats:Array TypeId}(ho:o.op=.call { callee:=.value (.func f),args:=#[x,y],argTypes:=ats })(hr:∀ args w,(callFunc f args).run P w=.ok (.enter f args) w)(h:Fr n l t)(hx:ev l x=some X)(hy:ev l y=some Y)(w:World):(execOp (⟨t,D⟩:Act).eval o).run P w=.ok (.enter f #[X,Y]) w:=by
 rw [execOp_call_func ho,hr]
 simp [h.ev (D:=D) hx,h.ev (D:=D) hy]
theorem rv_call3 {f:FuncId}{ats:Array TypeId}{Z:Value}(ho:o.op=.call { callee:=.value (.func f),args:=#[x,y,z],argTypes:=ats })(hr:∀ args w,(callFunc f args).run P w=.ok (.enter f args) w)(h:Fr n l t)(hx:ev l x=some X)(hy:ev l y=some Y)(hz:ev l z=some Z)(w:World):(execOp (⟨t,D⟩:Act).eval o).run P w=.ok (.enter f #[X,Y,Z]) w:=by
 rw [execOp_call_func ho,hr]
 simp [h.ev (D:=D) hx,h.ev (D:=D) hy,h.ev (D:=D) hz]
end
section
variable {S:Frame→List Frame→World→Prop} {ops:Array Oper} {Q:Exit→Act→World→Prop} {v w0:World} {rest:List Oper} {o:Oper} {L:List Bx} {W:List Sw} {n d:Nat} {l:Kl} {t:Array Value} {V X Y:Value} {x y z:Operand} {ty T:TypeId} {ps:String} {af:Array Edge}
theorem o_val (hg:o.guard=none)(ho:o.dst=some d)(hF:Fr n l t)(hd:Nat.blt d n=true)(hO:OwnU w0 L W v)(hr:∀ w,OwnU w0 L W w→(execOp (⟨t,[]⟩:Act).eval o).run P w=.ok (.value V) w)(h:∀ t' v',Fr n ((d,V)::l) t'→OwnU w0 L W v'→WlL S ops Q rest ⟨t',[]⟩ v'):WlL S ops Q (o::rest) ⟨t,[]⟩ v:=
 wlL_any hg hO fun K hK v' hO'=>NextO.at_ (hr v' hO') (by
  refine hK _ _ ?_
  rw [ho]
  exact h _ _ (hF.put hd) hO')
theorem o_call {f:FuncId}{args:Array Value}{R:Value→World→Prop}(hg:o.guard=none)(ho:o.dst=some d)(hF:Fr n l t)(hd:Nat.blt d n=true)(hO:OwnU w0 L W v)(hne:f≠nG)(hr:∀ w,(execOp (⟨t,[]⟩:Act).eval o).run P w=.ok (.enter f args) w)(hc:∀ v',OwnU w0 L W v'→CallsF S f args v' R)(h:∀ X t' v',R X v'→Fr n ((d,X)::l) t'→WlL S ops Q rest ⟨t',[]⟩ v'):WlL S ops Q (o::rest) ⟨t,[]⟩ v:=
 wlL_any hg hO fun K hK v' hO'=>NextO.at_ (hr v') ⟨hne,(hc v' hO').mono fun X w hX=>by
  refine hK _ _ ?_
  rw [ho]
  exact h X _ _ hX (hF.put hd)⟩
theorem o_alloc (hF:Fr n l t)(hd:Nat.blt d n=true)(hO:OwnU w0 L W v){Z:Value}(hz:∀ w,(zeroValue T).run P w=.ok Z w){cs:List Value}(hcs:Z.cells=cs.toArray)(hu:cs.any isU=false)(h:∀ g t' v',Fr n ((d,.pointer (some ⟨g,0,none⟩))::l) t'→OwnU w0 (⟨g,T,cs⟩::L) W v'→WlL S ops Q rest ⟨t',[]⟩ v') :
  WlL S ops Q ({ dst:=some d,op:=.alloc T,type:=ty,pos:=ps,after:=af,guard:=none }::rest) ⟨t,[]⟩ v:=
 wlL_alloc hO hz hcs hu fun g w' hO'=>h g _ _ (hF.put hd) hO'
theorem o_slice {tt e:TypeId}{len:Nat}{parts:Array (Nat×Operand)}{cs:List Value}(hF:Fr n l t)(hd:Nat.blt d n=true)(hO:OwnU w0 L W v){ps':Array (Nat×Value)}(hp:(parts.map fun (i,x)=>(i,(⟨t,[]⟩:Act).eval x))=ps')(hr:∀ w,(Instr.buildSlice tt len ps').run P w=.ok (.slice (some ⟨w.heap.size,0,none⟩) len len) (w.alloc (.cells cs.toArray e)))(hn:cs.any isU=false)
  (h:∀g t' v',Fr n ((d,.slice (some ⟨g,0,none⟩) len len)::l) t'→OwnU w0 (⟨g,e,cs⟩::L) W v'→WlL S ops Q rest ⟨t',[]⟩ v'):
  WlL S ops Q ({ dst:=some d,op:=.buildSlice tt len parts,type:=ty,pos:=ps,after:=af,guard:=none }::rest) ⟨t,[]⟩ v:=
 wlL_slice hO (fun w=>by rw [hp];exact hr w) hn fun g w' hO'=>h g _ _ (hF.put hd) hO'
theorem o_store (hF:Fr n l t)(hO:OwnU w0 L W v)(i:Nat){b:Bx}(hb:L[i]?=some b){off:Nat}(hx:ev l x=some (.pointer (some ⟨b.g,off,none⟩)))(hy:ev l y=some Y){vs:List Value}(hvs:Y.cells=vs.toArray)
  (hsz:∀w,(sizeOf T).run P w=.ok vs.length w) (h1:vs.all Value.oneCell'=true) (hu:vs.any isU=false) (hle:Nat.ble (off+vs.length) b.cs.length=true) {L':List Bx} (hL:L.set i ⟨b.g,b.t,spl b.cs off vs⟩=L')
  (h:∀v',OwnU w0 L' W v'→WlL S ops Q rest ⟨t,[]⟩ v'):
  WlL S ops Q ({ dst:=none,op:=.store T x y,type:=ty,pos:=ps,after:=af,guard:=none }::rest) ⟨t,[]⟩ v:=
 wlL_store hO i hb (hF.ev hx) (by rw [hF.ev hy];exact hvs) hsz h1 hu hle fun w' hO'=>h w' (hL▸hO')
end
section
variable {S:World→Prop} {ops:Array Oper} {Q:Act→Prop} {rest:List Oper} {o:Oper} {n d d' k:Nat} {l:Kl} {t:Array Value} {V:Value} {b c:Bool}
theorem wanted_none (hg:o.guard=none):Region.wanted o (yielded ops t)=true:=by simp [Region.wanted,hg]
theorem wanted_at (hF:Fr n l t)(hg:o.guard=some (k,b))(hd:((ops[k]?).bind (·.dst))=some d')(hn:Nat.blt d' n=true)(hl:lk l d'=some (.bool c))(e:(c == b)=true):Region.wanted o (yielded ops t)=true:=by
 have hn:d'<n:=by simpa [Nat.blt_eq]using hn
 have h1:=hF.2 _ _ hl
 have h2:t[d']?=some (.bool c):=by
  rw [Array.getElem?_eq_getElem (by rw [hF.1];exact hn)]
  rw [Array.getD_eq_getD_getElem?,Array.getElem?_eq_getElem (by rw [hF.1];exact hn)]at h1
  exact congrArg some h1
 unfold Region.wanted yielded
 rw [hg]
 dsimp only
 rw [hd]
 simp only [Option.bind_some,h2]
 cases c<;>cases b<;>first|rfl|cases e
theorem g_val (hw:Region.wanted o (yielded ops t)=true)(ho:o.dst=some d)(hF:Fr n l t)(hd:Nat.blt d n=true)(hr:∀ w,S w→(execOp (⟨t,[]⟩:Act).eval o).run P w=.ok (.value V) w)(h:∀ t',Fr n ((d,V)::l) t'→wpG P ops S Q rest ⟨t',[]⟩):wpG P ops S Q (o::rest) ⟨t,[]⟩:=by
 unfold wpG
 rw [if_pos hw]
 refine⟨V,fun w hS=>by rw [hr w hS];exact⟨rfl,hS⟩,?_⟩
 rw [ho]
 exact h _ (hF.put hd)
theorem g_call {f:FuncId}{args:Array Value}(hw:Region.wanted o (yielded ops t)=true)(ho:o.dst=some d)(hF:Fr n l t)(hd:Nat.blt d n=true)(hr:∀ w,(execOp (⟨t,[]⟩:Act).eval o).run P w=.ok (.enter f args) w)(hc:∀ w,S w→Calls P f args w fun e w'=>e=.returned V∧S w')(h:∀ t',Fr n ((d,V)::l) t'→wpG P ops S Q rest ⟨t',[]⟩):wpG P ops S Q (o::rest) ⟨t,[]⟩:=by
 unfold wpG
 rw [if_pos hw]
 refine⟨V,fun w hS=>by rw [hr w];exact hc w hS,?_⟩
 rw [ho]
 exact h _ (hF.put hd)
end
theorem wpG_mono {S:World→Prop}{ops:Array Oper}{Q Q':Act→Prop}(hQ:∀ a,Q a→Q' a):∀{os:List Oper} {a:Act},wpG P ops S Q os a→wpG P ops S Q' os a
 |[],a,h=>hQ a h
 |o::os,a,h=>by
  unfold wpG at h ⊢
  split
  ·rename_i hw
   rw [if_pos hw]at h
   obtain⟨v,h1,h2⟩:=h
   exact⟨v,h1,wpG_mono hQ h2⟩
  ·rename_i hw
   rw [if_neg hw]at h
   exact wpG_mono hQ h
section
variable {S:Frame→List Frame→World→Prop} {Q:Exit→Act→World→Prop} {v w0:World} {L:List Bx} {W:List Sw} {n:Nat} {l l':Kl} {t:Array Value}
theorem wpF_steady {id:Nat}{os:List Oper}(hc:niceCode P fb (.region id os.toArray true)=true)(hB:Region.lexB .any os.toArray=true)(hF:Fr n l t)(hO:OwnU w0 L W v)(h:∀ z,z.heap.size=w0.heap.size→wpG P os.toArray (Own z L W) (fun a'=>a'.defers=[]∧Fr n l' a'.tmps) os ⟨t,[]⟩)(k:∀ t' v',Fr n l' t'→OwnU w0 L W v'→Q .normal ⟨t',[]⟩ v'):WpF S (.region id os.toArray true) Q ⟨t,[]⟩ v:=by
 intro fn k0 cs hne hcs hA T hT
 refine .self fun r hw ha=>.piece hc (N:=fun t w=>Fr n l' t∧OwnU w0 L W w) (N':=fun _ _=>False) (tree_of_wp hFb Gt.hF Gt.hG hc hw ha (fun t w U h=>⟨h.1,h.2.tp U⟩) (fun t w U h=>h) fun U hU=>?_) (fun t w h1=>?_) (fun _ _ _ h=>h.elim)
 ·have hO1:=hO.at U
  refine wp_region_steady (Own (Lk.tp w0 U) L W) (by kernel_rfl) hB (hO1.ext (Ext.refl _).drew) ?_
  have:=h (Lk.tp w0 U) rfl
  exact wpG_mono (fun a ha w' hS=>⟨ha.2,toU (w0:=w0) (T:=U) hS⟩) this
 ·exact hA .normal ⟨t,[]⟩ w (k t w h1.1 h1.2) w.tape fun _ _ _ _=>rfl
end
end Go.Proofs.YtngdldcgkaplbaaGreat.Fd