import Derived.Test.YtngdldcgkaplbaaGreatK01
import Derived.Laws.Externs
import Derived.Laws.DeepNot64
import Derived.StillTailTactics
import Derived.Deep.QuietTactic
import Derived.BigQuiet
import Derived.Deep.RegionWith
import Derived.Outline
set_option linter.unusedVariables false
set_option linter.unusedSimpArgs false
set_option maxHeartbeats 40000000
set_option maxRecDepth 100000
namespace Go.Proofs.YtngdldcgkaplbaaGreat
open Go.RowKit Nm Rn
@[go_sem] theorem run_store_float (P:Program) (w:World) (a:Addr) (m:Mode) (k:FloatKind) (b:Nat):(store a (.float k b) m).run P w=stored P w a (.float k b) m:=run_store P w a _ m rfl
theorem callF64b (args:Array Value)(w:World):(callFunc 75 args).run Tryz.prog w=((Extern.MathFloatBits.float64bits args).run Tryz.prog w).andThen fun v w'=>.ok (.value v) w':=
 run_callFunc_extern Tryz.func75 (by kernel_rfl) (by kernel_rfl) (by kernel_rfl) (by kernel_rfl) args w
@[go_sem] theorem callF64b' (b:Nat) (w:World):(callFunc 75 #[.float .f64 b]).run Tryz.prog w=.ok (.value (.int .u64 (b:Int))) w:=by
 rw [callF64b];rfl
theorem callF64f (args:Array Value)(w:World):(callFunc 11 args).run Tryz.prog w=((Extern.MathFloatBits.float64frombits args).run Tryz.prog w).andThen fun v w'=>.ok (.value v) w':=
 run_callFunc_extern Tryz.func11 (by kernel_rfl) (by kernel_rfl) (by kernel_rfl) (by kernel_rfl) args w
@[go_sem] theorem callF64f' (n:Int) (w:World):(callFunc 11 #[.int .u64 n]).run Tryz.prog w=.ok (.value (.float .f64 n.toNat)) w:=by
 rw [callF64f];rfl
theorem andNot_top (b:Nat)(h:b < 18446744073709551616):bits .andNot .u64 (b:Int) 9223372036854775808=(mg b:Int):=by
 have e:(9223372036854775808:Int)=((9223372036854775808:Nat):Int):=rfl
 rw [e,u64_andNot_nat _ _ h (by omega)]
 congr 1
 have e2:(18446744073709551615-9223372036854775808:Nat)=2^63-1:=by decide
 rw [e2,Nat.and_two_pow_sub_one_eq_mod]
 rfl
end Go.Proofs.YtngdldcgkaplbaaGreat
namespace Go.Proofs.YtngdldcgkaplbaaGreat
open Go.RowKit Nm
def Blk (w:World)(g:Nat)(t:TypeId)(cs:Array Value):Prop:=w.heap[g]?=some (.cells cs t (0,0))
section
variable {w w':World} {g:Nat} {t:TypeId} {cs:Array Value}
theorem Blk.lt (h:Blk w g t cs):g<w.heap.size:=by
 rcases Nat.lt_or_ge g w.heap.size with hlt|hge
 ·exact hlt
 ·unfold Blk at h;rw [Array.getElem?_eq_none hge]at h;cases h
theorem Blk.cell (h:Blk w g t cs)(i:Nat):w.cell? ⟨g,i,none⟩=cs[i]?:=cell_of_row w g i cs t (0,0) h
theorem Blk.frozen (h:Blk w g t cs)(i:Nat):w.frozen? ⟨g,i,none⟩=false:=by
 unfold Blk at h
 simp [World.frozen?,h]
theorem Blk.new (w:World)(t:TypeId)(cs:Array Value):Blk (w.alloc (.cells cs t)) w.heap.size t cs:=heap_alloc_new w _
theorem Blk.ext (h:Blk w g t cs)(hb:Ext w w'):Blk w' g t cs:=(Below.block hb g h.lt).trans h
theorem Blk.set_ (h:Blk w g t cs)(i:Nat)(u:Value):Blk (w.setCell ⟨g,i,none⟩ u) g t (cs.setIfInBounds i u):=by
 unfold Blk at h ⊢
 simp [World.setCell,Array.getElem?_modify,h]
theorem Blk.far (h:Blk w g t cs){p:Addr}(hp:g≠p.block)(u:Value):Blk (w.setCell p u) g t cs:=(Below.heap_setCell w p u g hp).trans h
end
end Go.Proofs.YtngdldcgkaplbaaGreat
namespace Go.Proofs.YtngdldcgkaplbaaGreat
open Go.RowKit Nm Rn
theorem Blk.new2 (w:World)(o:Obj)(t:TypeId)(cs:Array Value):Blk ((w.alloc o).alloc (.cells cs t)) (w.heap.size+1) t cs:=by
 have:=Blk.new (w.alloc o) t cs
 rwa [show(w.alloc o).heap.size=w.heap.size+1 by simp]at this
theorem empty_rd {lo hi:Nat}(h:sndB lo hi=false):infR=rdLo lo hi∧minf=rdHi lo hi:=by
 unfold rdLo rdHi
 rw [if_neg (by simp [h]),if_neg (by simp [h])]
 exact⟨rfl,rfl⟩
theorem fo_lt {x y:Nat}(hx:x < 18446744073709551616)(hy:y < 18446744073709551616):(FloatKind.f64.format.order x y==some .lt)=ltB x y:=order_lt hx hy
theorem fo_eq {x y:Nat}(hx:x < 18446744073709551616)(hy:y < 18446744073709551616):(FloatKind.f64.format.order x y==some .eq)=eqB x y:=order_eqv hx hy
theorem fo_ne {x y:Nat}(hx:x < 18446744073709551616)(hy:y < 18446744073709551616):(FloatKind.f64.format.order x y != some .eq)=!eqB x y:=by rw [bne,fo_eq hx hy]
theorem fo_gt {x y:Nat}(hx:x < 18446744073709551616)(hy:y < 18446744073709551616):(FloatKind.f64.format.order x y==some .gt)=ltB y x:=order_gt hx hy
theorem fo_le {x y:Nat}(hx:x < 18446744073709551616)(hy:y < 18446744073709551616):(FloatKind.f64.format.order x y==some .lt||FloatKind.f64.format.order x y==some .eq)=leB x y:=order_le hx hy
theorem fo_ge {x y:Nat}(hx:x < 18446744073709551616)(hy:y < 18446744073709551616):(FloatKind.f64.format.order x y==some .gt||FloatKind.f64.format.order x y==some .eq)=leB y x:=order_ge hx hy
theorem infR_lt:infR<18446744073709551616:=by rw [infR_val];omega
theorem minf_lt:minf<18446744073709551616:=by rw [minf_val];omega
theorem inf_p (w:World):Calls Tryz.prog 31 #[.int .i64 1] w fun e w'=>e=.returned (.float .f64 infR)∧w=w':=by
 go_enter Tryz.func31,Tryz.ntmps31
 go_wp2
 go_ret
 exact⟨rfl,rfl⟩
theorem inf_m (w:World):Calls Tryz.prog 31 #[.int .i64 (-1)] w fun e w'=>e=.returned (.float .f64 minf)∧w=w':=by
 go_enter Tryz.func31,Tryz.ntmps31
 go_wp2
 go_ret
 exact⟨rfl,rfl⟩
theorem mg_lt64 (b:Nat):mg b<18446744073709551616:=by have:=mg_lt b;omega
theorem sg_mg (b:Nat):sg (mg b)=false:=by unfold sg;exact decide_eq_false (by have:=mg_lt b;omega)
theorem mg_mg (b:Nat):mg (mg b)=mg b:=by unfold mg;omega
theorem key_mg (b:Nat):key (mg b)=(mg b:Int):=by unfold key;rw [sg_mg,mg_mg];rfl
theorem nan_mg (b:Nat):isNaN (mg b)=isNaN b:=by unfold isNaN;rw [mg_mg]
theorem eqB_self (b:Nat):eqB b b=!isNaN b:=by unfold eqB;cases isNaN b<;>simp
theorem lt_max (b:Nat):ltB 9218868437227405311 (mg b)=isInf b:=by
 unfold ltB
 rw [nan_mg,key_mg,show isNaN 9218868437227405311=false from rfl,show key 9218868437227405311=9218868437227405311 from rfl]
 unfold isNaN isInf
 rw [infR_val,Bool.eq_iff_iff]
 simp
 omega
theorem mabs_any (b:Nat)(w:World)(h:b < 18446744073709551616) :
  Calls Tryz.prog 63 #[.float .f64 b] w fun e w'=>e=.returned (.float .f64 (mg b))∧w=w':=by
 have g:=andNot_top b h
 go_enter Tryz.func63,Tryz.ntmps63
 go_wp2
 go_ret
 exact⟨rfl,rfl⟩
theorem mnan_any (b:Nat)(w:World)(h:b < 18446744073709551616) :
  Calls Tryz.prog 57 #[.float .f64 b] w fun e w'=>e=.returned (.bool (isNaN b))∧w=w':=by
 have hq:=fo_ne h h
 rw [eqB_self,Bool.not_not]at hq
 clear h
 go_enter Tryz.func57,Tryz.ntmps57
 go_wp2
 go_ret
 exact⟨rfl,rfl⟩
theorem misinf_any (b:Nat)(w:World)(h:b < 18446744073709551616) :
  Calls Tryz.prog 58 #[.float .f64 b,.int .i64 0] w fun e w'=>e=.returned (.bool (isInf b))∧w=w':=by
 have hq:=fo_gt (mg_lt64 b) (show 9218868437227405311<18446744073709551616 by omega)
 rw [lt_max]at hq
 have HA:=Lib.hid (fun w=>mabs_any b w h)
 clear h
 go_enter Tryz.func58,Tryz.ntmps58
 go_wp2_with (go_at_call 63;refine(HA.out _).mono ?_;rintro e w' ⟨rfl,rfl⟩)
 go_ret
 exact⟨rfl,rfl⟩
theorem iplain_any (b:Nat)(w:World)(h:b < 18446744073709551616) :
  Calls Tryz.prog 151 #[.float .f64 b] w fun e w'=>e=.returned (.float .f64 (pl b))∧w=w':=by
 have hq:=fo_eq h (show 0<18446744073709551616 by omega)
 rw [eq0 h]at hq
 by_cases h0:b=0∨b=9223372036854775808
 ·rw [decide_eq_true h0]at hq
  have HF:Hid (0=pl b):=Lib.hid (by unfold pl;rcases h0 with h0|h0<;>subst h0<;>rfl)
  clear h0 h
  go_enter Tryz.func151,Tryz.ntmps151
  go_wp2
  go_ret
  exact⟨ret_float HF.out,rfl⟩
 ·rw [decide_eq_false h0]at hq
  have HF:Hid (b=pl b):=Lib.hid (by unfold pl;rw [if_neg (fun h=>h0 (.inr h))])
  clear h0 h
  go_enter Tryz.func151,Tryz.ntmps151
  go_wp2
  go_ret
  exact⟨ret_float HF.out,rfl⟩
theorem isound_any (lo hi:Nat)(w:World)(hl:lo < 18446744073709551616)(hh:hi < 18446744073709551616) :
  Calls Tryz.prog 150 #[.float .f64 lo,.float .f64 hi] w fun e w'=>e=.returned (.bool (sndB lo hi))∧w=w':=by
 have h1:=fo_lt hl hh
 have h1':=fo_eq hl hh
 have h12:=fo_le hl hh
 rw [h1,h1']at h12
 have h2:=fo_lt hl infR_lt
 have h3:=fo_gt hh minf_lt
 have hF:sndB lo hi=(leB lo hi&&ltB lo infR&&ltB minf hi):=rfl
 obtain⟨a,ha⟩:∃a,a=ltB lo hi:=⟨_,rfl⟩
 obtain⟨a',ha'⟩:∃a',a'=eqB lo hi:=⟨_,rfl⟩
 obtain⟨b,hb⟩:∃b,b=ltB lo infR:=⟨_,rfl⟩
 obtain⟨c,hc⟩:∃c,c=ltB minf hi:=⟨_,rfl⟩
 rw [←h12,←ha,←ha',←hb,←hc]at hF
 rw [←ha]at h1
 rw [←ha']at h1'
 rw [←hb]at h2
 rw [←hc]at h3
 have HF:=Lib.hid hF
 clear h12 hF ha ha' hb hc hl hh
 cases a<;>cases a'<;>cases b<;>cases c
 all_goals
  go_enter Tryz.func150,Tryz.ntmps150
  go_wp2_with (first|(go_at_call 31;((with_reducible refine(inf_p _).mono ?_);rintro e w' ⟨rfl,rfl⟩))|(go_at_call 31;((with_reducible refine(inf_m _).mono ?_);rintro e w' ⟨rfl,rfl⟩)))
  go_ret
  exact⟨ret_bool (by rw [HF.out];rfl),rfl⟩
end Go.Proofs.YtngdldcgkaplbaaGreat
namespace Go.Proofs.YtngdldcgkaplbaaGreat.Rn
open Nm
theorem K75_pow:K75=2^1075:=K75_def
def K1024:Nat:=2^1024
theorem K1024_def:K1024=2^1024:=by
 unfold K1024
 exact Eq.refl _
attribute [irreducible] K1024
theorem over_gen {n m u t q:Nat}(hm:0 < m)(he:u+53=t+q)(h:m*2^t≤n):u*4503599627370496+4503599627370496≤rung (zq (n*2^q) m/4):=by
 rw [le_rung_iff,rv_form u 4503599627370496 (by omega) (fun _=>Nat.le_refl _)]
 have hz:=(zq_le (N:=n*2^q) (T:=2*(4503599627370496*2^u)) hm).2 (by
  have e:2*(4503599627370496*2^u)=2^(t+q):=by
   have e52:4503599627370496=2^52:=rfl
   rw [e52,←Nat.pow_add,←Nat.pow_succ']
   congr 1
   omega
  rw [e,Nat.pow_add,Nat.mul_right_comm,Nat.mul_comm (2^t) m]
  exact Nat.mul_le_mul_right _ h)
 generalize zq (n*2^q) m=Z at *
 generalize 4503599627370496*2^u=T at *
 omega
theorem rr_over {n m:Nat}(hm:0 < m)(h:m*K1024≤n)(d:Int)(neg:Bool) :
  rr d neg (zr n m)=if(d=1∧neg=true)∨(d=-1∧neg=false)then infR-1 else infR:=by
 have hr:infR≤rung (zr n m/4):=by
  rw [zr_eq,K75_pow]
  rw [K1024_def]at h
  have h1:=over_gen (u:=2046) hm (show 2046+53=1024+1075 by omega) h
  have e:infR=2046*4503599627370496+4503599627370496:=by rw [infR_val]
  rw [e]
  exact h1
 clear h
 unfold rr
 generalize rung (zr n m/4)=k at *
 split
 ·omega
 ·cases away d neg (zr n m)<;>simp<;>omega
def expo (n m:Nat):Int:=if m*2^((bl n:Int)-bl m).toNat≤n*2^(-((bl n:Int)-bl m)).toNat then(bl n:Int)-bl m else(bl n:Int)-bl m-1
theorem expo_lo {n m:Nat}(hn:n≠0)(hm:m≠0):m*2^(expo n m).toNat≤n*2^(-(expo n m)).toNat:=by
 unfold expo
 split
 ·assumption
 ·-- the number of bits alone gives the half
  have h1:=pow_le_of_bl hn
  have h2:=lt_pow_bl m
  have hb1:=bl_pos hn
  have hb2:=bl_pos hm
  generalize bl n=a at *
  generalize bl m=b at *
  have e1:m*2^((a:Int)-b-1).toNat≤2^b*2^((a:Int)-b-1).toNat:=Nat.mul_le_mul_right _ (by omega)
  have e2:2^(a-1)*2^(-((a:Int)-b-1)).toNat≤n*2^(-((a:Int)-b-1)).toNat:=Nat.mul_le_mul_right _ h1
  rw [←Nat.pow_add]at e1 e2
  have e3:b+((a:Int)-b-1).toNat=a-1+(-((a:Int)-b-1)).toNat:=by omega
  rw [e3]at e1
  omega
theorem expo_hi {n m:Nat}(hn:n≠0)(hm:m≠0):n*2^(-(expo n m)).toNat<m*2^(expo n m).toNat*2:=by
 unfold expo
 split
 ·have h1:=lt_pow_bl n
  have h2:=pow_le_of_bl hm
  have hb1:=bl_pos hn
  have hb2:=bl_pos hm
  generalize bl n=a at *
  generalize bl m=b at *
  have e1:n*2^(-((a:Int)-b)).toNat<2^a*2^(-((a:Int)-b)).toNat:=Nat.mul_lt_mul_of_pos_right h1 (two_pow_pos _)
  have e2:2^(b-1)*2^((a:Int)-b).toNat≤m*2^((a:Int)-b).toNat:=Nat.mul_le_mul_right _ h2
  rw [←Nat.pow_add]at e1 e2
  have e3:a+(-((a:Int)-b)).toNat=b-1+((a:Int)-b).toNat+1:=by omega
  rw [e3,Nat.pow_succ]at e1
  omega
 ·rename_i h
  generalize (bl n:Int)-bl m=f at *
  rcases Int.lt_or_le f 1 with hf|hf
  ·have e1:(f-1).toNat=0:=by omega
   have e2:f.toNat=0∨f.toNat=0:=by omega
   have e3:(-(f-1)).toNat=(-f).toNat+1:=by omega
   have e4:f.toNat=0:=by omega
   rw [e1,e3,Nat.pow_zero,Nat.mul_one,Nat.pow_succ,←Nat.mul_assoc]
   rw [e4,Nat.pow_zero,Nat.mul_one]at h
   omega
  ·have e1:f.toNat=(f-1).toNat+1:=by omega
   have e2:(-(f-1)).toNat=0:=by omega
   have e3:(-f).toNat=0:=by omega
   rw [e2,Nat.pow_zero,Nat.mul_one]
   rw [e1,e3,Nat.pow_zero,Nat.mul_one,Nat.pow_succ,←Nat.mul_assoc]at h
   omega
def lastE (n m:Nat):Int:=max (expo n m-52) (-1074)
theorem rounded_lt {n m:Nat}{f e:Int}(he:f - 52≤e)(hm:0 < m)(h2:n*2^(-f).toNat < m*2^f.toNat*2) :
  n*2^(-e).toNat<9007199254740992*(m*2^e.toNat):=by
 have e53:9007199254740992=2^53:=rfl
 rw [e53,Nat.mul_comm (2^53),Nat.mul_assoc,←Nat.pow_add]
 rw [Nat.mul_assoc,←Nat.pow_succ]at h2
 have h3:n*2^(-f).toNat<m*2^(f.toNat+1+(e+52-f).toNat):=
  Nat.lt_of_lt_of_le h2 (Nat.mul_le_mul_left _ (Nat.pow_le_pow_right (by omega) (by omega)))
 exact(scale_lt (s:=m) (m:=n) (p:=e.toNat+53) (q:=(-e).toNat) (a:=(-f).toNat) (b:=f.toNat+1+(e+52-f).toNat) (by omega)).2 h3
theorem rounded_ge {n m:Nat}{f:Int}(h1:m*2^f.toNat≤n*2^(-f).toNat) :
  4503599627370496*(m*2^(f-52).toNat)≤n*2^(-(f-52)).toNat:=by
 have e:4503599627370496=2^52:=rfl
 rw [e,Nat.mul_comm (2^52),Nat.mul_assoc,←Nat.pow_add]
 exact(scale_le (s:=m) (m:=n) (p:=(f-52).toNat+52) (q:=(-(f-52)).toNat) (a:=(-f).toNat) (b:=f.toNat) (by omega)).2 h1
theorem rounded_w {n m:Nat}(hn:n≠0)(hm:m≠0):n*2^(-(lastE n m)).toNat/(m*2^(lastE n m).toNat)<9007199254740992 ∧
  ((lastE n m+1074).toNat≠0→4503599627370496≤n*2^(-(lastE n m)).toNat/(m*2^(lastE n m).toNat)):=by
 have hpos:0<m*2^(lastE n m).toNat:=Nat.mul_pos (by omega) (two_pow_pos _)
 constructor
 ·exact(Nat.div_lt_iff_lt_mul hpos).2 (rounded_lt (f:=expo n m) (by unfold lastE;omega) (by omega) (expo_hi hn hm))
 ·intro hne
  have he:lastE n m=expo n m-52:=by unfold lastE at *;omega
  rw [he]at hpos ⊢
  exact(Nat.le_div_iff_mul_le hpos).2 (rounded_ge (expo_lo hn hm))
theorem rr_min {u s b:Nat}(hb:b≤1)(hu:u≤2045)(hs:s < 9007199254740992):min (u*4503599627370496+s+b) infR=u*4503599627370496+(s+b):=by
 have hinf:infR=9218868437227405312:=infR_val
 rw [hinf];omega
theorem rr_min' {u s:Nat}(hu:u≤2045)(hs:s < 9007199254740992):min (u*4503599627370496+s) (infR-1)=u*4503599627370496+(s+0):=by
 have hinf:infR=9218868437227405312:=infR_val
 rw [hinf];omega
def fbSig (b:Nat):Nat:=if b/4503599627370496%2048=0 then b%4503599627370496 else b%4503599627370496+4503599627370496
def fbExp (b:Nat):Int:=(if b/4503599627370496%2048=0 then 0 else(b/4503599627370496%2048:Nat)-1:Int)-1074
def K74:Nat:=2^1074
theorem K74_def:K74=2^1074:=by
 unfold K74
 exact Eq.refl _
theorem K74_pos:0<K74:=by
 rw [K74_def]
 exact two_pow_pos 1074
attribute [irreducible] K74
theorem fb_rv (b:Nat):rv (mg b)=fbSig b*2^(fbExp b+1074).toNat:=by
 unfold fbSig fbExp
 have hm:mg b=b/4503599627370496%2048*4503599627370496+b%4503599627370496:=by unfold mg;omega
 rw [hm]
 by_cases h:b/4503599627370496%2048=0
 ·simp only [h,if_true]
  rw [rv_small (by omega)]
  simp
 ·simp only [h,if_false]
  have e:b/4503599627370496%2048*4503599627370496+b%4503599627370496=(b/4503599627370496%2048-1)*4503599627370496+(b%4503599627370496+4503599627370496):=by omega
  rw [e,rv_form _ _ (by omega) (fun _=>by omega)]
  congr 2
  omega
theorem fbSig_lt (b:Nat):fbSig b<9007199254740992:=by unfold fbSig;split<;>omega
theorem fbExp_lo (b:Nat):-1074≤fbExp b:=by unfold fbExp;split<;>omega
theorem fbExp_hi (b:Nat):fbExp b≤972:=by unfold fbExp;split<;>omega
theorem over_le {n m:Nat}(hn:n≠0)(hm:m≠0)(h:1023 < expo n m):m*K1024≤n:=by
 have h1:=expo_lo hn hm
 rw [show(-(expo n m)).toNat=0 by omega,Nat.pow_zero,Nat.mul_one]at h1
 obtain⟨x,hx⟩:∃x,(expo n m).toNat=1024+x:=⟨(expo n m).toNat-1024,by omega⟩
 rw [hx,Nat.pow_add,←K1024_def]at h1
 exact Nat.le_trans (Nat.mul_le_mul_left _ (Nat.le_mul_of_pos_right _ (two_pow_pos x))) h1
def twB (d:Int)(neg:Bool):Bool:=decide ((d=1∧neg=true)∨(d=-1∧neg=false))
theorem rnd_over {n m:Nat}(hn:n≠0)(hm:m≠0)(h:1023 < expo n m)(d:Int)(neg:Bool):rnd d neg (zr n m)=pat neg (if twB d neg then infR-1 else infR):=by
 unfold rnd twB
 rw [rr_over (by omega) (over_le hn hm h)]
 simp
theorem two_pow_s (k:Nat):2^(k+1)=2*2^k:=by rw [Nat.pow_succ,Nat.mul_comm]
def sn (neg:Bool)(n:Nat):Int:=if neg then -(n:Int)else(n:Int)
theorem sn_mul (neg:Bool)(n k:Nat):sn neg n*(k:Int)=sn neg (n*k):=by
 unfold sn;cases neg<;>simp [Int.neg_mul]
end Go.Proofs.YtngdldcgkaplbaaGreat.Rn
namespace Go.Proofs.YtngdldcgkaplbaaGreat.Rn
def nr (Q:Nat):Nat:=if away 0 false (4*Q)then rung Q+1 else rung Q
theorem near_nr (Q:Nat):near (4*Q)=min (nr Q) infR:=by
 unfold near rr nr
 rw [show 4*Q/4=Q by omega,if_neg (by omega)]
theorem rv_dvd (k:Nat):∃s,rv k=s*2^(k/4503599627370496-1)∧rv (k+1)=(s+1)*2^(k/4503599627370496-1)∧s<9007199254740992∧(k/4503599627370496-1≠0→4503599627370496≤s):=by
 obtain⟨u,s,h1,h2,h3⟩:=form k
 have e:k/4503599627370496-1=u:=by
  by_cases h0:u=0
  ·subst h0;omega
  ·have:=h3 h0;omega
 rw [e,h1]
 refine⟨s,rv_form u s (by omega) h3,?_,h2,h3⟩
 rw [rv_succ,rv_form u s (by omega) h3,ulp_form u s h2 h3,Nat.add_mul,Nat.one_mul]
theorem pow_mono {a b:Nat}(h:a≤b):2^a≤2^b:=Nat.pow_le_pow_right (by omega) h
def Rp (Q:Nat):Prop:=∃k,rv k=Q
theorem Rp.rung {Q:Nat}(h:Rp Q):rv (rung Q)=Q:=by
 obtain⟨k,rfl⟩:=h
 rw [rung_rv]
theorem pow_dvd {a b:Nat}(h:a≤b):2^a ∣ 2^b:=Nat.pow_dvd_pow 2 h
theorem nr_rv (k:Nat):nr (rv k)=k:=by
 unfold nr away
 rw [show 4*rv k/4=rv k by omega,rung_rv,if_pos rfl]
 rfl
def rn (S:Int):Int:=if S<0 then -(rv (nr S.natAbs):Int)else(rv (nr S.natAbs):Int)
def RpZ (S:Int):Prop:=Rp S.natAbs
theorem RpZ.neg {S:Int}(h:RpZ S):RpZ (-S):=by unfold RpZ;rw [Int.natAbs_neg];exact h
theorem rn_zero:rn 0=0:=by
 have h:=nr_rv 0
 rw [rv_zero]at h
 unfold rn
 simp [h,rv_zero]
theorem rn_neg (S:Int):rn (-S)=-rn S:=by
 rcases Int.lt_trichotomy S 0 with h|h|h
 ·unfold rn;rw [if_neg (by omega),if_pos h,Int.natAbs_neg];omega
 ·subst h;rw [Int.neg_zero,rn_zero];rfl
 ·unfold rn;rw [if_pos (by omega),if_neg (by omega),Int.natAbs_neg]
theorem rn_nat (Q:Nat):rn (Q:Int)=(rv (nr Q):Int):=by
 unfold rn;rw [if_neg (by omega),Int.natAbs_natCast]
theorem by_sign {C:Int→Prop}(h1:∀ Q:Nat,C Q)(h2:∀ S,C S→C (-S))(S:Int):C S:=by
 obtain⟨n,rfl|rfl⟩:=Int.eq_nat_or_neg S
 ·exact h1 n
 ·exact h2 _ (h1 n)
theorem rn_of {S:Int}(h:RpZ S):rn S=S:=by
 revert h
 refine by_sign (C:=fun S=>RpZ S→rn S=S) (fun Q h=>?_) (fun S ih h=>?_) S
 ·obtain⟨k,hk⟩:=h
  rw [Int.natAbs_natCast]at hk
  rw [rn_nat,←hk,nr_rv]
 ·rw [rn_neg,ih (by have:=h.neg;rwa [Int.neg_neg]at this)]
def Dv (u:Nat)(S:Int):Prop:=2^u ∣ S.natAbs
def kp (k:Int):Nat:=pat (decide (k<0)) k.natAbs
end Go.Proofs.YtngdldcgkaplbaaGreat.Rn
namespace Go.Proofs.YtngdldcgkaplbaaGreat
open Go.RowKit Nm Rn
def RetF (lo hi:Nat)(w:World)(e:Ending)(w':World):Prop:=e=.returned (.agg #[.float .f64 lo,.float .f64 hi])∧Ext w w'
theorem iempty_any (w:World):Calls Tryz.prog 91 #[] w (RetF infR minf w):=by
 go_enter Tryz.func91,Tryz.ntmps91
 go_wp2_with (first|(go_at_call 31;((with_reducible refine(inf_p _).mono ?_);rintro e w' ⟨rfl,rfl⟩))|(go_at_call 31;((with_reducible refine(inf_m _).mono ?_);rintro e w' ⟨rfl,rfl⟩)))
 exact bodyPost_ret (v:=.agg #[.float .f64 infR,.float .f64 minf]) (by simp [results,Tryz.results91,go_sem]) rfl ⟨rfl,(Ext.refl w).alloc _⟩
theorem iread_any (lo hi:Nat)(w:World)(hl:lo < 18446744073709551616)(hh:hi < 18446744073709551616) :
  Calls Tryz.prog 95 #[.agg #[.float .f64 lo,.float .f64 hi]] w (RetF (rdLo lo hi) (rdHi lo hi) w):=by
 have hs:=fun w=>isound_any lo hi w hl hh
 have hp1:=fun w=>iplain_any lo w hl
 have hp2:=fun w=>iplain_any hi w hh
 cases hb:sndB lo hi
 ·rw [hb]at hs
  obtain⟨e1,e2⟩:=empty_rd hb
  rw [←e1,←e2]
  have HS:=Lib.hid hs
  clear hs hp1 hp2 hb e1 e2 hl hh
  go_enter Tryz.func95,Tryz.ntmps95
  go_wp2_with fail
  refine(HS.out _).mono ?_
  rintro e w1 ⟨rfl,rfl⟩
  go_wp2_with fail
  refine(iempty_any _).mono ?_
  rintro e w2 ⟨rfl,hE⟩
  have hblk:=(Blk.new2 w (.cells #[.float .f64 lo,.float .f64 hi] 32) 32 #[.float .f64 0,.float .f64 0]).ext hE
  have hEw:Ext w w2:=(((Ext.refl w).alloc _).alloc _).trans hE
  obtain⟨G,hG⟩:∃G,G=w.heap.size+1:=⟨_,rfl⟩
  rw [←hG]at hblk
  rw [←hG]
  have hGw:w.heap.size≤G:=by omega
  have hGl:=hblk.lt
  have q0:w2.cell? ⟨G,0,none⟩=some (.float .f64 0):=hblk.cell 0
  have q1:w2.cell? ⟨G,1,none⟩=some (.float .f64 0):=hblk.cell 1
  have f0:=hblk.frozen 0
  have f1:=hblk.frozen 1
  clear hG hE
  go_wp2
  exact bodyPost_ret (v:=.agg #[.float .f64 infR,.float .f64 minf]) (by simp [results,Tryz.results95,go_sem,hGl,q0,q1]) rfl ⟨rfl,(hEw.setCell hGw _).setCell hGw _⟩
 ·rw [hb]at hs
  have e1:pl lo=rdLo lo hi:=by unfold rdLo;rw [if_pos hb]
  have e2:pl hi=rdHi lo hi:=by unfold rdHi;rw [if_pos hb]
  rw [e1]at hp1
  rw [e2]at hp2
  obtain⟨a,ha⟩:∃a,a=rdLo lo hi:=⟨_,rfl⟩
  obtain⟨b,hb'⟩:∃b,b=rdHi lo hi:=⟨_,rfl⟩
  rw [←ha]at hp1 ⊢
  rw [←hb']at hp2 ⊢
  have HS:=Lib.hid hs
  have HP1:=Lib.hid hp1
  have HP2:=Lib.hid hp2
  clear hs hp1 hp2 hb e1 e2 hl hh ha hb'
  go_enter Tryz.func95,Tryz.ntmps95
  go_wp2_with fail
  refine(HS.out _).mono ?_
  rintro e w1 ⟨rfl,rfl⟩
  generalize hX:(w.alloc (.cells #[.float .f64 lo,.float .f64 hi] 32)).alloc (.cells #[.float .f64 0,.float .f64 0] 32)=w1
  have hE1:Ext ((w.alloc (.cells #[.float .f64 lo,.float .f64 hi] 32)).alloc (.cells #[.float .f64 0,.float .f64 0] 32)) w1:=by rw [←hX];exact Ext.refl _
  clear hX
  have hblk:=(Blk.new2 w (.cells #[.float .f64 lo,.float .f64 hi] 32) 32 #[.float .f64 0,.float .f64 0]).ext hE1
  have hbox:=((Blk.new w 32 #[.float .f64 lo,.float .f64 hi]).ext ((Ext.refl _).alloc (.cells #[.float .f64 0,.float .f64 0] 32))).ext hE1
  have hEw:Ext w w1:=(((Ext.refl w).alloc _).alloc _).trans hE1
  have b0:w1.cell? ⟨w.heap.size,0,none⟩=some (.float .f64 lo):=hbox.cell 0
  have b1:w1.cell? ⟨w.heap.size,1,none⟩=some (.float .f64 hi):=hbox.cell 1
  obtain⟨G,hG⟩:∃G,G=w.heap.size+1:=⟨_,rfl⟩
  rw [←hG]at hblk
  rw [←hG]
  have hGw:w.heap.size≤G:=by omega
  have hGl:=hblk.lt
  have q0:w1.cell? ⟨G,0,none⟩=some (.float .f64 0):=hblk.cell 0
  have q1:w1.cell? ⟨G,1,none⟩=some (.float .f64 0):=hblk.cell 1
  have f0:=hblk.frozen 0
  have f1:=hblk.frozen 1
  clear hG hE1
  go_wp2_with fail
  refine wp_region_still_tail 7 (by kernel_rfl) (by kernel_rfl) ?_
  simp only [List.take_succ_cons,List.take_zero,List.drop_succ_cons,List.drop_zero]
  still_step
  still_step
  still_call ((HP1.out _).mono fun _ _ h=>⟨h.1,h.2.symm⟩)
  still_step
  still_step
  still_call ((HP2.out _).mono fun _ _ h=>⟨h.1,h.2.symm⟩)
  still_step
  refine wpStill_nil ?_
  change wpList _ _ _ _ _ w1.drew
  go_wp2
  exact bodyPost_ret (v:=.agg #[.float .f64 a,.float .f64 b]) (by simp [results,Tryz.results95,go_sem,hGl,q0,q1]) rfl ⟨rfl,(hEw.drew.setCell hGw _).setCell hGw _⟩
theorem two_boxes (w:World)(s t:TypeId)(x y p q:Value):∃w1,w1=(w.alloc (.cells #[x,y] s)).alloc (.cells #[p,q] t)∧Ext w w1∧w1.cell? ⟨w.heap.size,0,none⟩=some x∧w1.cell? ⟨w.heap.size,1,none⟩=some y ∧
  Blk w1 (w.heap.size+1) t #[p,q]:=by
 have hb:=(Blk.new w s #[x,y]).ext ((Ext.refl _).alloc (.cells #[p,q] t))
 exact⟨_,rfl,((Ext.refl w).alloc _).alloc _,hb.cell 0,hb.cell 1,Blk.new2 w _ t #[p,q]⟩
end Go.Proofs.YtngdldcgkaplbaaGreat
namespace Go.Proofs.YtngdldcgkaplbaaGreat.Rn
open Nm
def ng (b:Nat):Nat:=if sg b then b-9223372036854775808 else b+9223372036854775808
theorem ng_lt {b:Nat}(h:b < 18446744073709551616):ng b<18446744073709551616:=by
 unfold ng sg;split<;>rename_i h1
 ·have:=of_decide_eq_true h1;omega
 ·have:=of_decide_eq_false (Bool.eq_false_iff.2 h1);omega
theorem mg_ng {b:Nat}(h:b < 18446744073709551616):mg (ng b)=mg b:=by
 unfold ng mg sg;split<;>rename_i h1
 ·have:=of_decide_eq_true h1;omega
 ·have:=of_decide_eq_false (Bool.eq_false_iff.2 h1);omega
theorem sg_ng {b:Nat}(h:b < 18446744073709551616):sg (ng b)=!sg b:=by
 unfold ng
 by_cases h1:9223372036854775808≤b
 ·have e:sg b=true:=decide_eq_true h1
  rw [e,if_pos rfl];unfold sg;exact decide_eq_false (by omega)
 ·have e:sg b=false:=decide_eq_false h1
  rw [e,if_neg (by simp)];unfold sg;exact decide_eq_true (by omega)
theorem sv_ng {b:Nat}(h:b < 18446744073709551616):sv (ng b)=-sv b:=by
 unfold sv;rw [sg_ng h,mg_ng h];cases sg b<;>simp
theorem key_ng {b:Nat}(h:b < 18446744073709551616):key (ng b)=-key b:=by
 unfold key;rw [sg_ng h,mg_ng h];cases sg b<;>simp
theorem ng_xor {b:Nat}(h:b < 18446744073709551616):b ^^^ 9223372036854775808=ng b:=by
 have e:(9223372036854775808:Nat)=2^63:=by rfl
 unfold ng
 refine Nat.eq_of_testBit_eq fun i=>?_
 rw [Nat.testBit_xor,e,Nat.testBit_two_pow]
 by_cases h1:sg b=true
 ·rw [if_pos h1]
  have h2:=of_decide_eq_true h1
  have e2:b=2^63+(b-2^63):=by omega
  by_cases hi:63=i
  ·subst hi
   have:(b-2^63).testBit 63=false:=Nat.testBit_lt_two_pow (by omega)
   rw [this]
   have:b.testBit 63=true:=by rw [e2,Nat.testBit_two_pow_add_eq,this];rfl
   rw [this];simp
  ·rw [show decide (63=i)=false from decide_eq_false hi,Bool.xor_false]
   rcases Nat.lt_or_ge i 63 with h3|h3
   ·conv=>lhs;rw [e2]
    exact Nat.testBit_two_pow_add_gt h3 _
   ·rw [Nat.testBit_lt_two_pow (Nat.lt_of_lt_of_le h (Nat.pow_le_pow_right (n:=2) (by omega) (show 64≤i by omega)))]
    rw [Nat.testBit_lt_two_pow (Nat.lt_of_lt_of_le (show b-2^63<2^64 by omega) (Nat.pow_le_pow_right (by omega) (show 64≤i by omega)))]
 ·rw [if_neg h1]
  have h2:=of_decide_eq_false (Bool.eq_false_iff.2 h1)
  rw [Nat.add_comm b]
  by_cases hi:63=i
  ·subst hi
   rw [Nat.testBit_two_pow_add_eq]
   simp
  ·rw [show decide (63=i)=false from decide_eq_false hi,Bool.xor_false]
   rcases Nat.lt_or_ge i 63 with h3|h3
   ·exact(Nat.testBit_two_pow_add_gt h3 _).symm
   ·rw [Nat.testBit_lt_two_pow (Nat.lt_of_lt_of_le h (Nat.pow_le_pow_right (n:=2) (by omega) (show 64≤i by omega)))]
    rw [Nat.testBit_lt_two_pow (Nat.lt_of_lt_of_le (show 2^63+b<2^64 by omega) (Nat.pow_le_pow_right (by omega) (show 64≤i by omega)))]
def ngLo (lo hi:Nat):Nat:=if rdLo lo hi=infR∧rdHi lo hi=minf then infR else pl (ng (rdHi lo hi))
def ngHi (lo hi:Nat):Nat:=if rdLo lo hi=infR∧rdHi lo hi=minf then minf else pl (ng (rdLo lo hi))
theorem rd_ends {lo hi:Nat}(hl:lo < 18446744073709551616)(hh:hi < 18446744073709551616)(h:¬ (rdLo lo hi=infR∧rdHi lo hi=minf)) :
  rdLo lo hi<18446744073709551616∧rdHi lo hi<18446744073709551616∧isNaN (rdLo lo hi)=false∧isNaN (rdHi lo hi)=false∧rdLo lo hi≠infR∧rdHi lo hi≠minf∧sndB lo hi=true∧key (rdLo lo hi)≤key (rdHi lo hi):=by
 cases hs:sndB lo hi
 ·exact absurd (by unfold rdLo rdHi;rw [hs];exact⟨rfl,rfl⟩) h
 ·have hn:=snd_nan hs
  have e1:rdLo lo hi=pl lo:=by unfold rdLo;rw [hs];rfl
  have e2:rdHi lo hi=pl hi:=by unfold rdHi;rw [hs];rfl
  have hs':=hs
  unfold sndB ltB leB at hs'
  simp only [Bool.and_eq_true,decide_eq_true_eq]at hs'
  have k1:=hs'.1.2.2
  have k2:=hs'.2.2
  have k3:=hs'.1.1.2
  have i1:=infR_val
  have i2:=minf_val
  have kp:∀b,key (pl b)=key b:=by
   intro b
   unfold pl
   split
   ·rename_i hb;subst hb;rfl
   ·rfl
  have np:∀b,isNaN b=false→isNaN (pl b)=false:=by
   intro b hb
   unfold pl
   split
   ·rfl
   ·exact hb
  rw [e1,e2]
  refine⟨pl_lt hl,pl_lt hh,np _ hn.1,np _ hn.2,fun hx=>?_,fun hx=>?_,rfl,by rw [kp,kp];exact k3⟩
  ·have:=kp lo;rw [hx]at this;omega
  ·have:=kp hi;rw [hx]at this;omega
end Go.Proofs.YtngdldcgkaplbaaGreat.Rn