import Derived.Test.YtngdldcgkaplbaaGreatK25
set_option linter.unusedVariables false
set_option linter.unusedSimpArgs false
set_option maxHeartbeats 40000000
set_option maxRecDepth 100000
namespace Go.Proofs.YtngdldcgkaplbaaGreat.Fd
open Go Go.RowKit Go.Conc Nm Rn
open Gt hiding Sm
open Lk
section
variable {n:Nat} {l:Kl} {t:Array Value} {x y z:Operand} {X Y Z:Value}
theorem parts1 (h:Fr n l t)(hx:ev l x=some X):((#[(0,x)]:Array (Nat×Operand)).map fun(i,x)=>(i,(⟨t,[]⟩:Act).eval x))=#[(0,X)]:=by simp [h.ev (D:=[]) hx]
theorem parts2 (h:Fr n l t)(hx:ev l x=some X)(hy:ev l y=some Y):((#[(0,x),(1,y)]:Array (Nat×Operand)).map fun(i,x)=>(i,(⟨t,[]⟩:Act).eval x))=#[(0,X),(1,Y)]:=by simp [h.ev (D:=[]) hx,h.ev (D:=[]) hy]
theorem parts3 (h:Fr n l t)(hx:ev l x=some X)(hy:ev l y=some Y)(hz:ev l z=some Z):((#[(0,x),(1,y),(2,z)]:Array (Nat×Operand)).map fun(i,x)=>(i,(⟨t,[]⟩:Act).eval x))=#[(0,X),(1,Y),(2,Z)]:=by simp [h.ev (D:=[]) hx,h.ev (D:=[]) hy,h.ev (D:=[]) hz]
end
section
variable {S:Frame→List Frame→World→Prop} {v w0:World} {L:List Bx} {W:List Sw}
theorem lone_o {f:FuncId}{args:Array Value}{V:Value}(hf:GG f)(hO:OwnU w0 L W v)(h:∀ v',Calls P f args v' fun e w'=>e=.returned V∧Ext v' w'):CallsF S f args v fun x w'=>x=V∧OwnU w0 L W w':=callsF_val hf hO (fun v' _=>h v') fun w' hw=>⟨rfl,hw⟩
end
theorem rd_iv {z w:World}{L:List Bx}{W:List Sw}(h:Own z L W w)(i:Nat){g:Nat}{T:TypeId}{a b:Nat}(hi:L[i]?=some ⟨g,T,[.float .f64 a,.float .f64 b]⟩):(loadVar 32 ⟨g,0,none⟩).run P w=.ok (.agg #[.float .f64 a,.float .f64 b]) w:=run_loadBox (h.blk i hi) (agg_iv w) (size_iv w)
theorem eqv_iv (x y:Operand){a b c d:Nat}(ha:a < 18446744073709551616)(hb:b < 18446744073709551616)(hc:c < 18446744073709551616)(hd:d < 18446744073709551616){E:Bool}(h:(eqB a c && eqB b d)=E)(w:World):(do eqGuard .eql 32 x y (.agg #[.float .f64 a,.float .f64 b]) (.agg #[.float .f64 c,.float .f64 d]);binOp .eql 32 (.agg #[.float .f64 a,.float .f64 b]) (.agg #[.float .f64 c,.float .f64 d]):Sem Value).run P w=.ok (.bool E) w:=by
 have e1:∀w,(eqGuard .eql 32 x y (.agg #[.float .f64 a,.float .f64 b]) (.agg #[.float .f64 c,.float .f64 d])).run Tryz.prog w=.ok () w:=fun w=>by cases x<;>cases y<;>go_simp
 have e2:=eqF ha hb hc hd w
 rw [Sem.run_bind,e1,Result.andThen_ok,←h]
 exact e2
theorem neF {a b c d:Nat}(ha:a < 18446744073709551616)(hb:b < 18446744073709551616)(hc:c < 18446744073709551616)(hd:d < 18446744073709551616)(w:World):(binOp .neq 32 (.agg #[.float .f64 a,.float .f64 b]) (.agg #[.float .f64 c,.float .f64 d])).run Tryz.prog w=.ok (.bool (!(eqB a c&&eqB b d))) w:=by
 rw [←fo_eq ha hc,←fo_eq hb hd]
 cases h1:(FloatKind.f64.format.order a c==some .eq)<;>cases h2:(FloatKind.f64.format.order b d==some .eq)<;>go_simp<;>simp [h1,h2]
theorem nev_iv (x y:Operand){a b c d:Nat}(ha:a < 18446744073709551616)(hb:b < 18446744073709551616)(hc:c < 18446744073709551616)(hd:d < 18446744073709551616){E:Bool}(h:(!(eqB a c && eqB b d))=E)(w:World):(do eqGuard .neq 32 x y (.agg #[.float .f64 a,.float .f64 b]) (.agg #[.float .f64 c,.float .f64 d]);binOp .neq 32 (.agg #[.float .f64 a,.float .f64 b]) (.agg #[.float .f64 c,.float .f64 d]):Sem Value).run P w=.ok (.bool E) w:=by
 have e1:∀w,(eqGuard .neq 32 x y (.agg #[.float .f64 a,.float .f64 b]) (.agg #[.float .f64 c,.float .f64 d])).run Tryz.prog w=.ok () w:=fun w=>by cases x<;>cases y<;>go_simp
 have e2:=neF ha hb hc hd w
 rw [Sem.run_bind,e1,Result.andThen_ok,←h]
 exact e2
theorem eqv_no (x y:Operand)(a b:Int){E:Bool}(h:(a == b)=E)(w:World):(do eqGuard .eql 36 x y (.int .i64 a) (.int .i64 b);binOp .eql 36 (.int .i64 a) (.int .i64 b):Sem Value).run P w=.ok (.bool E) w:=by
 subst h
 have e1:∀w,(eqGuard .eql 36 x y (.int .i64 a) (.int .i64 b)).run Tryz.prog w=.ok () w:=fun w=>by cases x<;>cases y<;>go_simp
 have e2:∀w,(binOp .eql 36 (.int .i64 a) (.int .i64 b)).run Tryz.prog w=.ok (.bool (a==b)) w:=fun w=>by go_simp
 rw [Sem.run_bind,e1,Result.andThen_ok]
 exact e2 w
theorem nev_no (x y:Operand)(a b:Int){E:Bool}(h:(a != b)=E)(w:World):(do eqGuard .neq 36 x y (.int .i64 a) (.int .i64 b);binOp .neq 36 (.int .i64 a) (.int .i64 b):Sem Value).run P w=.ok (.bool E) w:=by
 subst h
 have e1:∀w,(eqGuard .neq 36 x y (.int .i64 a) (.int .i64 b)).run Tryz.prog w=.ok () w:=fun w=>by cases x<;>cases y<;>go_simp
 have e2:∀w,(binOp .neq 36 (.int .i64 a) (.int .i64 b)).run Tryz.prog w=.ok (.bool (a != b)) w:=fun w=>by go_simp
 rw [Sem.run_bind,e1,Result.andThen_ok]
 exact e2 w
theorem not_b (b:Bool)(w:World):(Go.Op.unary .not (.bool b)).run P w=.ok (.bool (!b)) w:=by cases b<;>rfl
theorem run_ng' (a b:Nat)(ha:a < 18446744073709551616)(h:ng a=b)(w:World):(Go.Op.unary .neg (.float .f64 a)).run P w=.ok (.float .f64 b) w:=by rw [←h];exact run_ng ha w
theorem of_run (args:Array Value)(w:World):(callFunc 13 args).run P w=.ok (.enter 13 args) w:=callee_run Tryz.func13 (by kernel_rfl) (by kernel_rfl) args w
theorem lives_run (args:Array Value)(w:World):(callFunc 25 args).run P w=.ok (.enter 25 args) w:=callee_run Tryz.func25 (by kernel_rfl) (by kernel_rfl) args w
theorem sum_run (args:Array Value)(w:World):(callFunc 32 args).run P w=.ok (.enter 32 args) w:=callee_run Tryz.func32 (by kernel_rfl) (by kernel_rfl) args w
theorem abs_run (args:Array Value)(w:World):(callFunc 33 args).run P w=.ok (.enter 33 args) w:=callee_run Tryz.func33 (by kernel_rfl) (by kernel_rfl) args w
theorem squares_run (args:Array Value)(w:World):(callFunc 34 args).run P w=.ok (.enter 34 args) w:=callee_run Tryz.func34 (by kernel_rfl) (by kernel_rfl) args w
theorem mean_run (args:Array Value)(w:World):(callFunc 36 args).run P w=.ok (.enter 36 args) w:=callee_run Tryz.func36 (by kernel_rfl) (by kernel_rfl) args w
theorem norm2_run (args:Array Value)(w:World):(callFunc 35 args).run P w=.ok (.enter 35 args) w:=callee_run Tryz.func35 (by kernel_rfl) (by kernel_rfl) args w
theorem dot3_run (args:Array Value)(w:World):(callFunc 37 args).run P w=.ok (.enter 37 args) w:=callee_run Tryz.func37 (by kernel_rfl) (by kernel_rfl) args w
theorem inf_run (args:Array Value)(w:World):(callFunc 31 args).run P w=.ok (.enter 31 args) w:=callee_run Tryz.func31 (by kernel_rfl) (by kernel_rfl) args w
theorem inf_ext (w:World):Calls P 31 #[.int .i64 1] w fun e w'=>e=.returned (.float .f64 9218868437227405312)∧Ext w w':=(inf_p w).mono fun e w' ⟨h1,h2⟩=>⟨h1,h2▸Ext.refl _⟩
theorem gg_inf:GG 31:=body_gg Tryz.func31 (by kernel_rfl)
theorem own_ext {z w:World}{L:List Bx}{W:List Sw}{f:FuncId}{args:Array Value}{V:Value}(hS:Own z L W w)(h:Calls P f args w fun e w'=>e=.returned V∧Ext w w'):Calls P f args w fun e w'=>e=.returned V∧Own z L W w':=h.mono fun e w' he=>⟨he.1,hS.ext he.2⟩
section
variable {n d:Nat} {l:Kl} {L:List Bx} {W:List Sw} {o:Oper} {V X Y:Value} {x y z:Operand} {ty T s:TypeId} {a b c e:Nat}
def RV (n:Nat)(l:Kl)(L:List Bx)(W:List Sw)(o:Oper)(V:Value):Prop:=∀t:Array Value,Fr n l t→∀z w:World,Own z L W w→(execOp (⟨t,[]⟩:Act).eval o).run P w=.ok (.value V) w
theorem rM (ho:o.op=.move x)(hx:ev l x=some V):RV n l L W o V:=fun t h _ w _=>rv_move ho h hx w
theorem rA (ho:o.op=.assign x)(hx:ev l x=some V):RV n l L W o V:=fun t h _ w _=>rv_assign ho h hx w
theorem rX0 (ho:o.op=.extract x 0)(hx:ev l x=some (.tuple #[X,Y])):RV n l L W o X:=fun t h _ w _=>rv_extract ho h hx rfl w
theorem rX1 (ho:o.op=.extract x 1)(hx:ev l x=some (.tuple #[X,Y])):RV n l L W o Y:=fun t h _ w _=>rv_extract ho h hx rfl w
theorem rPt (ho:o.op=.pick x y z)(hx:ev l x=some (.bool true))(hy:ev l y=some X)(hz:ev l z=some Y):RV n l L W o X:=fun t h _ w _=>rv_pick ho h hx hy hz rfl w
theorem rPf (ho:o.op=.pick x y z)(hx:ev l x=some (.bool false))(hy:ev l y=some X)(hz:ev l z=some Y):RV n l L W o Y:=fun t h _ w _=>rv_pick ho h hx hy hz rfl w
theorem rN (ho:o.op=.unOp .not ty x)(hx:ev l x=some (.bool true)):RV n l L W o (.bool false):=fun t h _ w _=>rv_un ho h hx (not_b _) w
theorem rG (ho:o.op=.unOp .neg ty x)(hx:ev l x=some (.float .f64 a))(ha:a < 18446744073709551616):RV n l L W o (.float .f64 (ng a)):=fun t h _ w _=>rv_un ho h hx (run_ng' a _ ha rfl) w
def eqI (a b c e:Nat):Bool:=(decide (a<18446744073709551616)&&decide (b<18446744073709551616))&&(decide (c<18446744073709551616)&&decide (e<18446744073709551616))&&(eqB a c&&eqB b e)
theorem eqI_all (h:eqI a b c e=true):(a<18446744073709551616∧b<18446744073709551616)∧(c<18446744073709551616∧e<18446744073709551616)∧(eqB a c&&eqB b e)=true:=by
 unfold eqI at h
 simp only [Bool.and_eq_true,decide_eq_true_eq]at h ⊢
 exact⟨h.1.1,h.1.2,h.2⟩
theorem rNi (ho:o.op=.binOp .neq 32 x y s)(hx:ev l x=some (.agg #[.float .f64 a,.float .f64 b]))(hy:ev l y=some (.agg #[.float .f64 c,.float .f64 e]))(h:eqI a b c e=true):RV n l L W o (.bool false):=fun t hF _ w _=>
 have k:=eqI_all h
 rv_bin ho hF hx hy (nev_iv _ _ k.1.1 k.1.2 k.2.1.1 k.2.1.2 (by rw [k.2.2];rfl)) w
theorem rEi (ho:o.op=.binOp .eql 32 x y s)(hx:ev l x=some (.agg #[.float .f64 a,.float .f64 b]))(hy:ev l y=some (.agg #[.float .f64 c,.float .f64 e]))(h:eqI a b c e=true):RV n l L W o (.bool true):=fun t hF _ w _=>
 have k:=eqI_all h
 rv_bin ho hF hx hy (eqv_iv _ _ k.1.1 k.1.2 k.2.1.1 k.2.1.2 k.2.2) w
theorem rNo {i j:Int}(ho:o.op=.binOp .neq 36 x y s)(hx:ev l x=some (.int .i64 i))(hy:ev l y=some (.int .i64 j))(h:(i != j)=false):RV n l L W o (.bool false):=fun t hF _ w _=>rv_bin ho hF hx hy (nev_no _ _ _ _ h) w
theorem rEo {i j:Int}(ho:o.op=.binOp .eql 36 x y s)(hx:ev l x=some (.int .i64 i))(hy:ev l y=some (.int .i64 j))(h:(i == j)=true):RV n l L W o (.bool true):=fun t hF _ w _=>rv_bin ho hF hx hy (eqv_no _ _ _ _ h) w
theorem rL (i:Nat){g:Nat}(ho:o.op=.load 32 x)(hx:ev l x=some (.pointer (some ⟨g,0,none⟩)))(hi:L[i]?=some ⟨g,T,[.float .f64 a,.float .f64 b]⟩):RV n l L W o (.agg #[.float .f64 a,.float .f64 b]):=fun t hF _ w hS=>rv_load ho hF hx (rd_iv hS i hi)
def RK (n:Nat)(l:Kl)(o:Oper)(V:Value):Prop:=∃(f:FuncId) (args:Array Value),GG f∧f≠nG∧(∀t:Array Value,Fr n l t→∀w,(execOp (⟨t,[]⟩:Act).eval o).run P w=.ok (.enter f args) w)∧∀w,Calls P f args w fun e w'=>e=.returned V∧Ext w w'
theorem kO {ats:Array TypeId}(ho:o.op=.call { callee:=.value (.func 13),args:=#[x,y],argTypes:=ats })(hx:ev l x=some (.float .f64 a))(hy:ev l y=some (.float .f64 b)):RK n l o (.agg #[.float .f64 a,.float .f64 b]):=⟨_,_,gg_of,by decide,fun t h w=>rv_call2 ho of_run h hx hy w,of_any _ _⟩
theorem kI {ats:Array TypeId}(ho:o.op=.call { callee:=.value (.func 31),args:=#[x],argTypes:=ats })(hx:ev l x=some (.int .i64 1)):RK n l o (.float .f64 9218868437227405312):=⟨_,_,gg_inf,by decide,fun t h w=>rv_call1 ho inf_run h hx w,inf_ext⟩
def okL (xs:List (Nat×Nat)):Bool:=xs.all (fun q=>decide (q.1<18446744073709551616)&&decide (q.2<18446744073709551616))&&decide (xs.length<4611686018427387904)
def Li (L:List Bx)(A:Option Addr)(n:Nat)(xs:List (Nat×Nat)):Prop:=n<4611686018427387904∧∀(w0:World) (W:List Sw),Known w0 L W A n n xs
theorem li0:Li L none 0 []:=⟨by decide,fun _ _ v' h'=>⟨rfl,Nat.le_refl _,by decide,(fun q hq=>by cases hq),fun h=>absurd h (by decide)⟩⟩
theorem liB (i:Nat){g m:Nat}{xs:List (Nat×Nat)}(hi:L[i]?=some ⟨g,T,ivC xs⟩)(e:xs.length=m)(h:okL xs=true):Li L (some ⟨g,0,none⟩) m xs:=by
 subst e
 unfold okL at h
 simp only [Bool.and_eq_true,List.all_eq_true,decide_eq_true_eq]at h
 exact⟨h.2,fun _ _=>known_box hi h.1 (by omega)⟩
end
def nn (e:Bool)(a b:Nat):Bool:=e||(!isNaN a&&!isNaN b)
theorem nn_of {e:Bool}{a b:Nat}(h:nn e a b=true)(he:e=false):isNaN a=false∧isNaN b=false:=by
 subst he
 unfold nn at h
 simpa using h
section
variable {S:Frame→List Frame→World→Prop} {ops:Array Oper} {Q:Exit→Act→World→Prop} {w0:World} {rest:List Oper} {o:Oper} {L L':List Bx} {W:List Sw} {n d:Nat} {l l':Kl} {V X Y:Value} {x y z:Operand} {ty T:TypeId} {ps:String} {af:Array Edge} {a b c e p q:Nat} {A A2:Option Addr} {m m2:Nat} {xs ys:List (Nat×Nat)} {N:Int} {ats:Array TypeId} {rs:Code} {id:Nat} {os:List Oper}
def RH (S:Frame→List Frame→World→Prop)(w0:World)(W:List Sw)(n:Nat)(l:Kl)(L:List Bx)(o:Oper)(V:Value):Prop:=∃(f:FuncId) (args:Array Value),f≠nG∧(∀t:Array Value,Fr n l t→∀w,(execOp (⟨t,[]⟩:Act).eval o).run P w=.ok (.enter f args) w)∧∀v,OwnU w0 L W v→CallsF S f args v fun x w'=>x=V∧OwnU w0 L W w'
theorem kL (hg:gz≤w0.heap.size)(ho:o.op=.call { callee:=.value (.func 25),args:=#[],argTypes:=ats }):RH S w0 W n l L o (.bool true):=⟨_,_,by decide,fun t h w=>rv_call0 ho lives_run w,fun v h=>lives_o hg h⟩
theorem kSum (hg:gz≤w0.heap.size)(ho:o.op=.call { callee:=.value (.func 32),args:=#[x,y],argTypes:=ats })(hx:ev l x=some (.slice A m m))(hy:ev l y=some (.int .i64 N))(hl:Li L A m xs)(h:(wrongW N || nn (totS 0 xs).e ((totS 0 xs).lo.round (-1)) ((totS 0 xs).hi.round 1))=true):RH S w0 W n l L o (ansV (foldI 0 xs N)):=⟨_,_,by decide,fun t h w=>rv_call2 ho sum_run h hx hy w,fun v k=>sum_o N hg hl.1 (hl.2 _ _) (fun hw he=>nn_of (by rw [hw]at h;exact h) he) k⟩
theorem kAbs (hg:gz≤w0.heap.size)(ho:o.op=.call { callee:=.value (.func 33),args:=#[x,y],argTypes:=ats })(hx:ev l x=some (.slice A m m))(hy:ev l y=some (.int .i64 N))(hl:Li L A m xs)(h:(wrongW N || nn (totS 1 xs).e ((totS 1 xs).lo.round (-1)) ((totS 1 xs).hi.round 1))=true):RH S w0 W n l L o (ansV (foldI 1 xs N)):=⟨_,_,by decide,fun t h w=>rv_call2 ho abs_run h hx hy w,fun v k=>abs_o N hg hl.1 (hl.2 _ _) (fun hw he=>nn_of (by rw [hw]at h;exact h) he) k⟩
theorem kSquares (hg:gz≤w0.heap.size)(ho:o.op=.call { callee:=.value (.func 34),args:=#[x,y],argTypes:=ats })(hx:ev l x=some (.slice A m m))(hy:ev l y=some (.int .i64 N))(hl:Li L A m xs)(h:(wrongW N || nn (totS 2 xs).e ((totS 2 xs).lo.round (-1)) ((totS 2 xs).hi.round 1))=true):RH S w0 W n l L o (ansV (foldI 2 xs N)):=⟨_,_,by decide,fun t h w=>rv_call2 ho squares_run h hx hy w,fun v k=>squares_o N hg hl.1 (hl.2 _ _) (fun hw he=>nn_of (by rw [hw]at h;exact h) he) k⟩
theorem kMean (hg:gz≤w0.heap.size)(ho:o.op=.call { callee:=.value (.func 36),args:=#[x,y],argTypes:=ats })(hx:ev l x=some (.slice A m m))(hy:ev l y=some (.int .i64 N))(hl:Li L A m xs)(h:(Nat.beq m 0 || nn (totS 0 xs).e ((totS 0 xs).lo.over (-1) m) ((totS 0 xs).hi.over 1 m))=true):RH S w0 W n l L o (ansV (meanR xs N)):=⟨_,_,by decide,fun t h w=>rv_call2 ho mean_run h hx hy w,fun v k=>mean_o N hg hl.1 (hl.2 _ _) (fun hw he=>nn_of (by cases m with|zero=>exact absurd hw (by decide)|succ m=>exact h) he) k⟩
theorem kNorm (hg:gz≤w0.heap.size)(ho:o.op=.call { callee:=.value (.func 35),args:=#[x,y],argTypes:=ats })(hx:ev l x=some (.slice A m m))(hy:ev l y=some (.int .i64 N))(hl:Li L A m xs)(h:nn (totS 2 xs).e ((totS 2 xs).lo.root (-1)) ((totS 2 xs).hi.root 1)=true):RH S w0 W n l L o (ansV (normR xs N)):=⟨_,_,by decide,fun t h w=>rv_call2 ho norm2_run h hx hy w,fun v k=>norm2_o N hg hl.1 (hl.2 _ _) (nn_of h) k⟩
theorem kDot (hg:gz≤w0.heap.size)(ho:o.op=.call { callee:=.value (.func 37),args:=#[x,y,z],argTypes:=ats })(hx:ev l x=some (.slice A m m))(hy:ev l y=some (.slice A2 m2 m2))(hz:ev l z=some (.int .i64 N))(hl:Li L A m xs)(hm:Li L A2 m2 ys)(h:nn (totP xs ys).e ((totP xs ys).lo.round (-1)) ((totP xs ys).hi.round 1)=true):RH S w0 W n l L o (ansV (dotR xs ys N)):=⟨_,_,by decide,fun t h w=>rv_call3 ho dot3_run h hx hy hz w,fun v k=>dot_o N hg hl.1 (hl.2 _ _) (hm.2 _ _) (nn_of h) k⟩
structure GL (S:Frame→List Frame→World→Prop)(ops:Array Oper)(Q:Exit→Act→World→Prop)(w0:World)(W:List Sw)(n:Nat)(l:Kl)(L:List Bx)(os:List Oper):Prop where
 go:∀t v,Fr n l t→OwnU w0 L W v→WlL S ops Q os ⟨t,[]⟩ v
structure GW (ops:Array Oper)(Q:Act→Prop)(z:World)(W:List Sw)(n:Nat)(l:Kl)(L:List Bx)(os:List Oper):Prop where
 go:∀t,Fr n l t→wpG P ops (Own z L W) Q os ⟨t,[]⟩
structure GC (c:Code)(S:Frame→List Frame→World→Prop)(Q:Exit→Act→World→Prop)(w0:World)(W:List Sw)(n:Nat)(l:Kl)(L:List Bx):Prop where
 go:∀t v,Fr n l t→OwnU w0 L W v→WpF S c Q ⟨t,[]⟩ v
abbrev op1 (d:Nat)(op:Op)(ty:TypeId)(ps:String)(af:Array Edge):Oper:={ dst:=some d,op:=op,type:=ty,pos:=ps,after:=af,guard:=none }
theorem gV (hg:o.guard=none)(ho:o.dst=some d)(hd:Nat.blt d n=true)(hr:RV n l L W o V)(h:GL S ops Q w0 W n ((d,V)::l) L rest):GL S ops Q w0 W n l L (o::rest):=⟨fun t v hF hO=>o_val hg ho hF hd hO (fun w hS=>hr t hF _ w hS) h.go⟩
theorem gK (hg:o.guard=none)(ho:o.dst=some d)(hd:Nat.blt d n=true)(hr:RK n l o V)(h:GL S ops Q w0 W n ((d,V)::l) L rest):GL S ops Q w0 W n l L (o::rest):=by
 obtain⟨f,args,h1,h2,h3,h4⟩:=hr
 exact⟨fun t v hF hO=>o_call (R:=fun x w'=>x=V∧OwnU w0 L W w') hg ho hF hd hO h2 (h3 t hF) (fun v' h'=>lone_o h1 h' h4) fun X t' v' hX hF'=>by
  obtain⟨rfl,hO'⟩:=hX
  exact h.go _ _ hF' hO'⟩
theorem gH (hg:o.guard=none)(ho:o.dst=some d)(hd:Nat.blt d n=true)(hr:RH S w0 W n l L o V)(hs:L'.Sublist L)(h:GL S ops Q w0 W n ((d,V)::l) L' rest):GL S ops Q w0 W n l L (o::rest):=by
 obtain⟨f,args,h2,h3,h4⟩:=hr
 exact⟨fun t v hF hO=>o_call (R:=fun x w'=>x=V∧OwnU w0 L W w') hg ho hF hd hO h2 (h3 t hF) (fun v' h'=>h4 v' h') fun X t' v' hX hF'=>by
  obtain⟨rfl,hO'⟩:=hX
  exact h.go _ _ hF' (hO'.sub hs)⟩
theorem s0:L.Sublist L:=List.Sublist.refl _
theorem s1 {b:Bx}:L.Sublist (b::L):=List.sublist_cons_self _ _
theorem s2 {b c:Bx}:L.Sublist (b::c::L):=s1.trans s1
theorem gA (hd:Nat.blt d n=true)(h:∀ g,GL S ops Q w0 W n ((d,.pointer (some ⟨g,0,none⟩))::l) (⟨g,32,[.float .f64 0,.float .f64 0]⟩::L) rest):GL S ops Q w0 W n l L (op1 d (.alloc 32) ty ps af::rest):=⟨fun t v hF hO=>o_alloc hF hd hO zero_iv rfl rfl fun g t' v' hF hO=>(h g).go _ _ hF hO⟩
theorem gS (M:List Bx){g:Nat}(hx:ev l x=some (.pointer (some ⟨g,0,none⟩)))(hy:ev l y=some (.agg #[.float .f64 a,.float .f64 b]))(h:GL S ops Q w0 W n l (M++⟨g,T,[.float .f64 a,.float .f64 b]⟩::L) rest):GL S ops Q w0 W n l (M++⟨g,T,[.float .f64 p,.float .f64 q]⟩::L) ({ dst:=none,op:=.store 32 x y,type:=ty,pos:=ps,after:=af,guard:=none }::rest):=⟨fun t v hF hO=>o_store (vs:=[.float .f64 a,.float .f64 b]) (b:=⟨g,T,[.float .f64 p,.float .f64 q]⟩) hF hO M.length (by simp) hx hy rfl size_iv rfl rfl rfl rfl fun v' hO=>h.go _ _ hF (by simpa [spl]using hO)⟩
theorem gS0 {g:Nat}(hx:ev l x=some (.pointer (some ⟨g,0,none⟩)))(hy:ev l y=some (.agg #[.float .f64 a,.float .f64 b]))(h:GL S ops Q w0 W n l (⟨g,T,[.float .f64 a,.float .f64 b]⟩::L) rest):GL S ops Q w0 W n l (⟨g,T,[.float .f64 p,.float .f64 q]⟩::L) ({ dst:=none,op:=.store 32 x y,type:=ty,pos:=ps,after:=af,guard:=none }::rest):=gS [] hx hy h
theorem gS1 {g:Nat}{b0:Bx}(hx:ev l x=some (.pointer (some ⟨g,0,none⟩)))(hy:ev l y=some (.agg #[.float .f64 a,.float .f64 b]))(h:GL S ops Q w0 W n l (b0::⟨g,T,[.float .f64 a,.float .f64 b]⟩::L) rest):GL S ops Q w0 W n l (b0::⟨g,T,[.float .f64 p,.float .f64 q]⟩::L) ({ dst:=none,op:=.store 32 x y,type:=ty,pos:=ps,after:=af,guard:=none }::rest):=gS [b0] hx hy h
theorem gS2 {g:Nat}{b0 b1:Bx}(hx:ev l x=some (.pointer (some ⟨g,0,none⟩)))(hy:ev l y=some (.agg #[.float .f64 a,.float .f64 b]))(h:GL S ops Q w0 W n l (b0::b1::⟨g,T,[.float .f64 a,.float .f64 b]⟩::L) rest):GL S ops Q w0 W n l (b0::b1::⟨g,T,[.float .f64 p,.float .f64 q]⟩::L) ({ dst:=none,op:=.store 32 x y,type:=ty,pos:=ps,after:=af,guard:=none }::rest):=gS [b0,b1] hx hy h
theorem gB1 (hd:Nat.blt d n=true)(hx:ev l x=some (.agg #[.float .f64 a,.float .f64 b]))(h:∀ g,GL S ops Q w0 W n ((d,.slice (some ⟨g,0,none⟩) 1 1)::l) (⟨g,32,ivC [(a,b)]⟩::L) rest):GL S ops Q w0 W n l L (op1 d (.buildSlice 24 1 #[(0,x)]) ty ps af::rest):=⟨fun t v hF hO=>o_slice (cs:=ivC [(a,b)]) hF hd hO (parts1 hF hx) (build1 a b) rfl fun g t' v' hF hO=>(h g).go _ _ hF hO⟩
theorem gB2 (hd:Nat.blt d n=true)(hx:ev l x=some (.agg #[.float .f64 a,.float .f64 b]))(hy:ev l y=some (.agg #[.float .f64 c,.float .f64 e]))(h:∀ g,GL S ops Q w0 W n ((d,.slice (some ⟨g,0,none⟩) 2 2)::l) (⟨g,32,ivC [(a,b),(c,e)]⟩::L) rest):GL S ops Q w0 W n l L (op1 d (.buildSlice 24 2 #[(0,x),(1,y)]) ty ps af::rest):=⟨fun t v hF hO=>o_slice (cs:=ivC [(a,b),(c,e)]) hF hd hO (parts2 hF hx hy) (build2 a b c e) rfl fun g t' v' hF hO=>(h g).go _ _ hF hO⟩
theorem gB3 (hd:Nat.blt d n=true)(hx:ev l x=some (.agg #[.float .f64 a,.float .f64 b]))(hy:ev l y=some (.agg #[.float .f64 c,.float .f64 e]))(hz:ev l z=some (.agg #[.float .f64 p,.float .f64 q]))(h:∀ g,GL S ops Q w0 W n ((d,.slice (some ⟨g,0,none⟩) 3 3)::l) (⟨g,32,ivC [(a,b),(c,e),(p,q)]⟩::L) rest):GL S ops Q w0 W n l L (op1 d (.buildSlice 24 3 #[(0,x),(1,y),(2,z)]) ty ps af::rest):=⟨fun t v hF hO=>o_slice (cs:=ivC [(a,b),(c,e),(p,q)]) hF hd hO (parts3 hF hx hy hz) (build3 a b c e p q) rfl fun g t' v' hF hO=>(h g).go _ _ hF hO⟩
def Wt (ops:Array Oper)(n:Nat)(l:Kl)(o:Oper):Prop:=∀t:Array Value,Fr n l t→Region.wanted o (yielded ops t)=true
theorem wN (hg:o.guard=none):Wt ops n l o:=fun _ _=>wanted_none hg
theorem wA {k d':Nat}{b c:Bool}(hg:o.guard=some (k,b))(hd:((ops[k]?).bind (·.dst))=some d')(hn:Nat.blt d' n=true)(hl:lk l d'=some (.bool c))(e:(c == b)=true):Wt ops n l o:=fun _ hF=>wanted_at hF hg hd hn hl e
section
variable {Q:Act→Prop} {z:World}
theorem hV (hw:Wt ops n l o)(ho:o.dst=some d)(hd:Nat.blt d n=true)(hr:RV n l L W o V)(h:GW ops Q z W n ((d,V)::l) L rest):GW ops Q z W n l L (o::rest):=⟨fun t hF=>g_val (hw t hF) ho hF hd (fun w hS=>hr t hF _ w hS) h.go⟩
theorem hK (hw:Wt ops n l o)(ho:o.dst=some d)(hd:Nat.blt d n=true)(hr:RK n l o V)(h:GW ops Q z W n ((d,V)::l) L rest):GW ops Q z W n l L (o::rest):=by
 obtain⟨f,args,h1,h2,h3,h4⟩:=hr
 exact⟨fun t hF=>g_call (hw t hF) ho hF hd (h3 t hF) (fun w hS=>own_ext hS (h4 w)) h.go⟩
theorem hE:GW ops (fun a=>a.defers=[]∧Fr n l a.tmps) z W n l L []:=⟨fun t hF=>wpG_nil ⟨rfl,hF⟩⟩
end
theorem gE (h:GC rs S Q w0 W n l L):GL S ops (Exit.then (fun a w=>WpF S rs Q a w) Q) w0 W n l L []:=⟨fun t v hF hO=>wlL_nil (h.go t v hF hO)⟩
theorem gR (h:GL S os.toArray (Exit.then (fun a w=>WpF S rs Q a w) Q) w0 W n l L os):GC (.seq (.region id os.toArray false) rs) S Q w0 W n l L:=⟨fun t v hF hO=>wpo_seq (wpF_region (h.go t v hF hO))⟩
theorem gW (hc:niceCode P fb (.region id os.toArray true)=true)(hB:Region.lexB .any os.toArray=true)(h:∀ z,GW os.toArray (fun a=>a.defers=[]∧Fr n l' a.tmps) z W n l L os)(k:GC rs S Q w0 W n l' L):GC (.seq (.region id os.toArray true) rs) S Q w0 W n l L:=⟨fun t v hF hO=>wpo_seq (wpF_steady hc hB hF hO (fun z _=>(h z).go t hF) fun t' v' hF hO=>k.go t' v' hF hO)⟩
theorem gG {r c:Code}(h:GC (.seq r c) S (Exit.then (fun a w=>WpF S rs Q a w) Q) w0 W n l L):GC (.seq (.seq r c) rs) S Q w0 W n l L:=⟨fun t v hF hO=>wpo_seq (h.go t v hF hO)⟩
theorem gI {c:Code}(hx:ev l x=some (.bool false))(h:GC rs S Q w0 W n l L):GC (.cond x c .skip) S (Exit.then (fun a w=>WpF S rs Q a w) Q) w0 W n l L:=⟨fun t v hF hO=>wpF_if_f (hF.ev hx) (wpo_skip (h.go t v hF hO))⟩
theorem gZ (h:lk l 0=some (.bool true)):GC .ret S (BodyL fun _=>True) w0 W n l L:=⟨fun t v hF hO=>wpo_ret ⟨hF.2 0 _ h,trivial⟩⟩
theorem known_o {v:World}(hg:gz≤w0.heap.size)(hO:OwnU w0 [] [] v):WpF S (Tryz.f5.body.getD .skip) (BodyL fun _=>True) ⟨Array.replicate 233 undef,[]⟩ v:=by
 refine(?_:GC (Tryz.f5.body.getD .skip) S (BodyL fun _=>True) w0 [] 233 [] []).go _ _ (Fr.start 233) hO
 conv=>arg 1;whnf
 repeat
  first
  |refine gV rfl rfl rfl (rM rfl rfl) ?_
  |refine gK rfl rfl rfl (kO rfl rfl rfl) ?_
  |refine gE ?_
  |refine gR ?_
  |refine gG ?_
  |refine gI rfl ?_
  |refine gV rfl rfl rfl (rA rfl rfl) ?_
  |refine gV rfl rfl rfl (rX0 rfl rfl) ?_
  |refine gV rfl rfl rfl (rX1 rfl rfl) ?_
  |refine gV rfl rfl rfl (rPf rfl rfl rfl rfl) ?_
  |refine gV rfl rfl rfl (rG rfl rfl (by decide)) ?_
  |refine gV rfl rfl rfl (rN rfl rfl) ?_
  |refine gV rfl rfl rfl (rPt rfl rfl rfl rfl) ?_
  |refine gB2 rfl rfl rfl fun g=>?_
  |refine gB3 rfl rfl rfl rfl fun g=>?_
  |refine gB1 rfl rfl fun g=>?_
  |refine gA rfl fun g=>?_
  |refine gS0 rfl rfl ?_
  |refine gS1 rfl rfl ?_
  |refine gS2 rfl rfl ?_
  |refine gK rfl rfl rfl (kI rfl rfl) ?_
  |refine gH rfl rfl rfl (kL hg rfl) s0 ?_
  |refine gH rfl rfl rfl (kSum hg rfl rfl rfl (liB 0 rfl rfl (by decide +kernel)) (by decide +kernel)) s1 ?_
  |refine gH rfl rfl rfl (kAbs hg rfl rfl rfl (liB 0 rfl rfl (by decide +kernel)) (by decide +kernel)) s1 ?_
  |refine gH rfl rfl rfl (kSquares hg rfl rfl rfl (liB 0 rfl rfl (by decide +kernel)) (by decide +kernel)) s1 ?_
  |refine gH rfl rfl rfl (kNorm hg rfl rfl rfl (liB 0 rfl rfl (by decide +kernel)) (by decide +kernel)) s1 ?_
  |refine gH rfl rfl rfl (kMean hg rfl rfl rfl (liB 0 rfl rfl (by decide +kernel)) (by decide +kernel)) s1 ?_
  |refine gH rfl rfl rfl (kSum hg rfl rfl rfl li0 (by decide +kernel)) s0 ?_
  |refine gH rfl rfl rfl (kMean hg rfl rfl rfl li0 (by decide +kernel)) s0 ?_
  |refine gH rfl rfl rfl (kDot hg rfl rfl rfl rfl (liB 1 rfl rfl (by decide +kernel)) (liB 0 rfl rfl (by decide +kernel)) (by decide +kernel)) s2 ?_
  |exact gZ rfl
  |refine gW (l':=?_) (by kernel_rfl) (by kernel_rfl) (fun z=>?_) ?_
   rotate_left
   ·repeat
     first
     |exact hE
     |refine hV (by first|exact wN rfl|exact wA rfl rfl rfl rfl rfl) rfl rfl (rM rfl rfl) ?_
     |refine hV (by first|exact wN rfl|exact wA rfl rfl rfl rfl rfl) rfl rfl (rPf rfl rfl rfl rfl) ?_
     |refine hV (by first|exact wN rfl|exact wA rfl rfl rfl rfl rfl) rfl rfl (rPt rfl rfl rfl rfl) ?_
     |refine hV (by first|exact wN rfl|exact wA rfl rfl rfl rfl rfl) rfl rfl (rL 0 rfl rfl rfl) ?_
     |refine hV (by first|exact wN rfl|exact wA rfl rfl rfl rfl rfl) rfl rfl (rL 1 rfl rfl rfl) ?_
     |refine hV (by first|exact wN rfl|exact wA rfl rfl rfl rfl rfl) rfl rfl (rL 2 rfl rfl rfl) ?_
     |refine hV (by first|exact wN rfl|exact wA rfl rfl rfl rfl rfl) rfl rfl (rNi rfl rfl rfl (by decide +kernel)) ?_
     |refine hV (by first|exact wN rfl|exact wA rfl rfl rfl rfl rfl) rfl rfl (rNo rfl rfl rfl (by decide +kernel)) ?_
     |refine hV (by first|exact wN rfl|exact wA rfl rfl rfl rfl rfl) rfl rfl (rEi rfl rfl rfl (by decide +kernel)) ?_
     |refine hV (by first|exact wN rfl|exact wA rfl rfl rfl rfl rfl) rfl rfl (rEo rfl rfl rfl (by decide +kernel)) ?_
     |refine hV (by first|exact wN rfl|exact wA rfl rfl rfl rfl rfl) rfl rfl (rG rfl rfl (by decide)) ?_
     |refine hV (by first|exact wN rfl|exact wA rfl rfl rfl rfl rfl) rfl rfl (rA rfl rfl) ?_
     |refine hK (by first|exact wN rfl|exact wA rfl rfl rfl rfl rfl) rfl rfl (kO rfl rfl rfl) ?_
end
end Go.Proofs.YtngdldcgkaplbaaGreat.Fd