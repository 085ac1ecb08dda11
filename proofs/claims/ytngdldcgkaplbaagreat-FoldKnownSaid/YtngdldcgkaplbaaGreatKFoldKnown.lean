import Derived.Test.YtngdldcgkaplbaaGreatK26
import Derived.ChangeOld
import Derived.OpenShut
import Derived.Carry
import Derived.Lib.SmallJoins
set_option linter.unusedVariables false
set_option linter.unusedSimpArgs false
set_option maxRecDepth 100000
namespace Go.Proofs.YtngdldcgkaplbaaGreat.foldKnown
open Go.ChangeShapes Go.WideShapes Go.ChangeAt Go.RowKit Go.Joins Go.Conc Go.Proofs.YtngdldcgkaplbaaGreat Go.Proofs.YtngdldcgkaplbaaGreat.Lk Go.Proofs.YtngdldcgkaplbaaGreat.Fd
open Go.Proofs.YtngdldcgkaplbaaGreat.Gt (P FF GG nG gz fb)
theorem body:Tryz.f5.body=some (Tryz.f5.body.getD .skip):=by kernel_rfl
theorem nice:niceCode P fo (Tryz.f5.body.getD .skip)=true:=by kernel_rfl
theorem slots:(#[]:Array Value)++Array.replicate (Tryz.f5.ntmps-(#[]:Array Value).size) undef=Array.replicate 233 undef:=by
 have:Tryz.f5.ntmps=233:=by kernel_rfl
 rw [this]
 simp
theorem tree (w:World)(hg:gz≤w.heap.size):TrO P fb fo FF GG nG GaF GpF (Lk.Left P 5 fun x _=>x=.bool true) (Frame.enter P 5 #[] .normal) [catcher P] w:=by
 refine law_tro Tryz.func5 body (by kernel_rfl) (by decide) ?_
 rw [slots]
 exact known_o hg (OwnU.start w)
theorem wins (w:World)(hg:gz≤w.heap.size):Win P (fun x w'=>x=.bool true∧Below w.heap.size w w') (solo (G (Frame.enter P 5 #[] .normal) []) w) #[]:=by
 refine law_wins (R:=fun x _=>x=.bool true) (v:=w) (r:=fun _=>none) Tryz.func5 body nice (by kernel_rfl) (wr_none hg) ⟨rfl,fun i a b h=>by simp at h⟩ (tree w hg) ?_
 intro r1 v1 w1 x x' d hx hv hs
 subst hx
 cases hv
 exact⟨rfl,below_none hs d⟩
theorem lifted (os:Os)(started:os.Started)(H:Type)(enc:TypeId×Value→H) :
  ReturnsInLeavingWide {} Tryz.checked os 5 .any (Rows.foldKnownSpec.pre6 enc P Tryz.f5 Rows.foldKnownRow.domain false) (Rows.foldKnownSpec.post enc P Tryz.f5 false true false false):=by
 refine leaving_of started Tryz.func5
  (ChangeSpec.witness6 (enc:=enc) (C:=Tryz.checked) false ⟨#[],#[],[]⟩ 8 (by kernel_rfl) (by kernel_rfl) (by kernel_rfl) (by kernel_rfl)) ?_
 intro W base args ds gs before hg hval hW hcnd _
 have hW':=hW
 obtain⟨p,q,hA0,hV,rfl,hfz,hnd⟩:=hW
 have hA:DataW.TrodAll enc P W 0 (fun _=>true) true Tryz.f5.params.toList args.toList ds p:=hA0
 rw [Tryz.params5]at hA
 obtain⟨rfl,rfl,rfl⟩:=trodAll_none hA
 obtain⟨rfl,rfl⟩:=trodVars_none hV
 clear hA0 hval
 simp only [List.append_nil]at hW'
 obtain⟨M,last,o,w',t',h1,h2,h3,h4⟩:=wins W hg
 refine⟨M,last,o,w',t',h1,h2,h3,h4.mono fun v hv=>?_⟩
 obtain⟨rfl,bel⟩:=hv
 exact⟨_,_,_,[],_,[],hW',trodAll_mk1 (shut_bool Tryz.underlying4 _),(by first|exact⟨rfl,rfl,rfl⟩|exact rfl|simp [DataW.TrodAll]),rfl,bel.frame _,fun h=>by cases h⟩
theorem over:Rows.foldKnownRow.holds Tryz.pinned (OpenSpec.ofChange Rows.foldKnownSpec):=
 OpenClaim.holds_of_wide_leaving 5 Tryz.f5 rfl rfl rfl rfl rfl rfl rfl ⟨rfl,rfl,rfl,rfl,rfl⟩ rfl rfl rfl rfl rfl (by kernel_rfl) Tryz.func5 (by kernel_rfl)
  (of_decide_eq_true (by kernel_rfl)) (by unfold Func.isWrapper;first|(rw [if_pos (by decide +kernel)];kernel_rfl)|(rw [if_neg (by decide +kernel)];exact⟨rfl,rfl⟩))
  (fun os started H enc _=>lifted os started H enc)
theorem proved:Rows.FoldKnownSaid:=
 over
#print axioms proved
end Go.Proofs.YtngdldcgkaplbaaGreat.foldKnown