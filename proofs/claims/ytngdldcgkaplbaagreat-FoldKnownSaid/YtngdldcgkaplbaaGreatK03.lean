import Derived.Test.YtngdldcgkaplbaaGreatK02
set_option linter.unusedVariables false
set_option linter.unusedSimpArgs false
set_option maxHeartbeats 40000000
set_option maxRecDepth 100000
namespace Go.Proofs.YtngdldcgkaplbaaGreat.Rn
theorem pow_add_ (a b:Nat):2^(a+b)=2^a*2^b:=Nat.pow_add 2 a b
structure Halves (u:Nat)(x h l:Int):Prop where
 sum:h+l=x
 dvh:Dv (27+u) h
 dvl:Dv u l
 lel:l.natAbs≤67108864*2^u
 leh:h.natAbs≤9007199254740992*2^u
structure Fl (b:Nat)(S:Int):Prop where
 lt:b<18446744073709551616
 fin:mg b<infR
 val:sv b=S
theorem sv_abs (b:Nat):(sv b).natAbs=rv (mg b):=by unfold sv;split<;>omega
theorem Fl.abs {b:Nat}{S:Int}(h:Fl b S):S.natAbs=rv (mg b):=by rw [←h.val,sv_abs]
theorem Fl.rp {b:Nat}{S:Int}(h:Fl b S):RpZ S:=by unfold RpZ;rw [h.abs];exact⟨_,rfl⟩
theorem Fl.nan {b:Nat}{S:Int}(h:Fl b S):isNaN b=false:=by unfold isNaN;exact decide_eq_false (by have:=h.fin;omega)
theorem near_lt' (Z:Nat):near Z<9223372036854775808:=rr_lt 0 false Z
theorem sv_word {neg:Bool}{r:Nat}(hr:r < 9223372036854775808):sv (Ieee.double.word neg r)=if neg then -(rv r:Int)else(rv r:Int):=by
 unfold sv
 rw [sg_word hr,mg_word hr]
theorem Fl.word {neg:Bool}{S:Int}(hn:S≠0→neg=decide (S < 0))(hS:nr S.natAbs < infR):Fl (Ieee.double.word neg (near (4*S.natAbs))) (rn S):=by
 have e:near (4*S.natAbs)=nr S.natAbs:=by rw [near_nr];exact Nat.min_eq_left (by omega)
 have h1:=near_lt' (4*S.natAbs)
 refine⟨word_lt h1,by rw [mg_word h1,e];exact hS,?_⟩
 rw [sv_word h1,e]
 unfold rn
 by_cases h0:S=0
 ·subst h0
  have:=nr_rv 0
  rw [rv_zero]at this
  rw [show(0:Int).natAbs=0 from rfl,this,rv_zero]
  cases neg<;>rfl
 ·rw [hn h0]
  by_cases h:S<0
  ·rw [decide_eq_true h,if_pos rfl,if_pos h]
  ·rw [decide_eq_false h,if_neg (by simp),if_neg h]
theorem Fl.sum {neg:Bool}{S:Int}(hS:nr S.natAbs < infR):Fl (sumPat neg S) (rn S):=by
 unfold sumPat
 by_cases h0:S=0
 ·subst h0
  rw [if_pos rfl]
  have:=Fl.word (neg:=neg) (S:=0) (fun h=>absurd rfl h) hS
  have e:near (4*(0:Int).natAbs)=0:=rr_zero 0 false
  rwa [e]at this
 ·rw [if_neg h0]
  exact Fl.word (fun _=>rfl) hS
theorem Fl.neg {b:Nat}{S:Int}(h:Fl b S):Fl (ng b) (-S):=⟨ng_lt h.lt,by rw [mg_ng h.lt];exact h.fin,by rw [sv_ng h.lt,h.val]⟩
theorem zq_mul_pow {q c:Nat}:zq (q*2^(c+1)) (2^c)=4*q:=by
 rw [show 4*q=2*(2*q) by omega]
 refine(zq_eq (two_pow_pos c)).2 ?_
 rw [two_pow_s,Nat.mul_left_comm,Nat.mul_assoc]
theorem Fl.mul {x y:Nat}{S T q:Int}(h:Fl x S)(k:Fl y T)(hq:q*((2^1074:Nat):Int)=S*T)(hS:nr q.natAbs < infR):∃r,Ieee.double.mul x y=some r∧Fl r (rn q):=by
 obtain⟨c,hc⟩:∃c:Nat,c=1073:=⟨_,rfl⟩
 have hm:=mul_fin h.lt k.lt h.fin k.fin
 rw [show(1074:Nat)=c+1 by omega]at hq
 rw [←hc]at hm
 have e:rv (mg x)*rv (mg y)=q.natAbs*2^(c+1):=by
  rw [←h.abs,←k.abs,←Int.natAbs_mul,←hq,Int.natAbs_mul,Int.natAbs_natCast]
 rw [e,zq_mul_pow]at hm
 refine⟨_,hm,Fl.word (fun h0=>?_) hS⟩
 have hp:(0:Int)<((2^(c+1):Nat):Int):=by have:=two_pow_pos (c+1);omega
 have hx:S=if sg x then -(rv (mg x):Int)else(rv (mg x):Int):=h.val.symm
 have hy:T=if sg y then -(rv (mg y):Int)else(rv (mg y):Int):=k.val.symm
 have h1:S*T≠0:=by rw [←hq];exact Int.mul_ne_zero h0 (by omega)
 have h2:rv (mg x)≠0:=fun h3=>h1 (by rw [hx,h3];cases sg x<;>simp)
 have h3:rv (mg y)≠0:=fun h3=>h1 (by rw [hy,h3];cases sg y<;>simp)
 have h4:(0:Int)<(rv (mg x):Int)*(rv (mg y):Int):=Int.mul_pos (by omega) (by omega)
 have h5:q<0↔S*T<0:=by
  rw [←hq]
  constructor
  ·intro h6;exact Int.mul_neg_of_neg_of_pos h6 hp
  ·intro h6
   rcases Int.lt_or_le q 0 with h7|h7
   ·exact h7
   ·have:=Int.mul_nonneg h7 (show(0:Int)≤((2^(c+1):Nat):Int) by omega);omega
 rw [show decide (q<0)=decide (S*T<0)from decide_eq_decide.2 h5]
 rw [hx,hy]
 cases sg x<;>cases sg y<;>simp [Int.neg_mul,Int.mul_neg]<;>omega
def Ks:Nat:=2^174
def Kg:Nat:=2^1974
attribute [irreducible] Ks Kg
end Go.Proofs.YtngdldcgkaplbaaGreat.Rn
namespace Go.Proofs.YtngdldcgkaplbaaGreat.Rn
open Nm
def upO (d:Int)(neg:Bool)(s r:Nat):Bool:=if r=0 then false else if d=1 then !neg else if d=-1 then neg else(decide (r=3)||(decide (r=2)&&decide (s%2=1)))
def stick (W:Nat)(f:Bool):Nat:=if f&&W%2==0 then W+1 else W
theorem stick_div (W:Nat)(f:Bool):stick W f/4=W/4:=by
 unfold stick
 split
 ·rename_i h
  simp at h
  omega
 ·rfl
theorem stick_mod (W:Nat)(f:Bool):stick W f%4=if f then(if W%4<2 then 1 else 3)else W%4:=by
 unfold stick
 cases f
 ·simp
 ·simp only [Bool.true_and,if_true]
  by_cases h:W%2=0
  ·rw [if_pos (by simpa using h)];split<;>omega
  ·rw [if_neg (by simpa using h)];split<;>omega
theorem or_one (W:Nat):W ||| 1=stick W true:=by
 unfold stick
 by_cases h:W%2=0
 ·rw [if_pos (by simpa using h)]
  have:=Nat.two_pow_add_eq_or_of_lt (i:=1) (b:=1) (by omega) (W/2)
  have e:2^1*(W/2)=W:=by omega
  rw [e]at this
  exact this.symm
 ·rw [if_neg (by simpa using h)]
  have:=Nat.two_pow_add_eq_or_of_lt (i:=1) (b:=1) (by omega) (W/2)
  have e:2^1*(W/2)+1=W:=by omega
  rw [e]at this
  rw [this,Nat.or_assoc,Nat.or_self]
theorem rr_parts {mag a b G W t u:Nat}{place L:Int}(hu0:(u:Int)=L+1074)(hab:(a:Int) - b=place - L)(hG:2^b=4*G)(hx:mag*2^a=W*G+t)(ht:t < G)
  (hs:W/4<9007199254740992) (hu:u≠0→4503599627370496≤W/4) (huu:u≤2045) (d:Int) (neg:Bool) {v:Nat} (hv:v=stick W (decide (t≠0))):
  rnd d neg (zd mag place)=pat neg (u*4503599627370496+(v/4+(upO d neg (v/4) (v%4)).toNat)):=by
 have hd:v/4=W/4:=by rw [hv,stick_div]
 have hm:v%4=if t≠0 then(if W%4<2 then 1 else 3)else W%4:=by rw [hv,stick_mod];simp only [decide_eq_true_eq]
 obtain⟨s,hse⟩:∃s,s=W/4:=⟨_,rfl⟩
 obtain⟨r,hre⟩:∃r,r=W%4:=⟨_,rfl⟩
 rw [←hse]at hs hu hd
 rw [←hre]at hm
 have hr4:r<4:=by omega
 have hW:W*G=s*(4*G)+r*G:=by
  have:W=s*4+r:=by omega
  rw [this,Nat.add_mul,Nat.mul_assoc]
 rw [hW,Nat.add_assoc]at hx
 rw [hd]
 have e0:r*G+t<4*G:=by
  have:r*G≤3*G:=Nat.mul_le_mul_right _ (by omega)
  omega
 have hup:upO d neg s (v%4)=if mag*2^a=s*2^b then false else if d=1 then !neg else if d=-1 then neg else
   decide ((2*s+1)*2^b<2*(mag*2^a))||(decide (2*(mag*2^a)=(2*s+1)*2^b)&&decide (s%2=1)):=by
  rw [hG,hx]
  unfold upO
  have c1:v%4=0↔s*(4*G)+(r*G+t)=s*(4*G):=by
   rw [hm]
   constructor
   ·intro h
    by_cases h0:t≠0
    ·rw [if_pos h0]at h;split at h<;>omega
    ·rw [if_neg h0]at h
     have:t=0:=Decidable.not_not.1 h0
     rw [this,h];simp
   ·intro h
    have h1:r*G+t=0:=by omega
    have h2:t=0:=by omega
    have h3:r*G=0:=by omega
    rw [if_neg (by omega)]
    rcases Nat.mul_eq_zero.1 h3 with h4|h4
    ·exact h4
    ·omega
  have e1:(2*s+1)*(4*G)=2*(s*(4*G))+4*G:=by rw [Nat.add_mul,Nat.mul_assoc];omega
  have e2:2*(s*(4*G)+(r*G+t))=2*(s*(4*G))+2*(r*G+t):=by omega
  have hrG:r=0∧r*G=0∨r=1∧r*G=G∨r=2∧r*G=2*G∨r=3∧r*G=3*G:=by
   have:r=0∨r=1∨r=2∨r=3:=by omega
   rcases this with h|h|h|h<;>subst h<;>simp
  have c3:v%4=3↔(2*s+1)*(4*G)<2*(s*(4*G)+(r*G+t)):=by
   rw [hm,e1,e2]
   rcases hrG with ⟨h1,h2⟩|⟨h1,h2⟩|⟨h1,h2⟩|⟨h1,h2⟩<;>rw [h2,h1]<;>by_cases h0:t=0<;>simp [h0]<;>omega
  have c2:v%4=2↔2*(s*(4*G)+(r*G+t))=(2*s+1)*(4*G):=by
   rw [hm,e1,e2]
   rcases hrG with ⟨h1,h2⟩|⟨h1,h2⟩|⟨h1,h2⟩|⟨h1,h2⟩<;>rw [h2,h1]<;>by_cases h0:t=0<;>simp [h0]<;>omega
  simp only [c1,c2,c3]
 have hlo:s*2^b≤mag*2^a:=by rw [hG,hx];omega
 have hhi:mag*2^a<(s+1)*2^b:=by rw [hG,hx,Nat.add_mul];omega
 have hf:=rr_form hu0 hab hs hu hlo hhi d neg _ hup
 unfold rnd
 rw [hf]
 have hb1:(upO d neg s (v%4)).toNat≤1:=by cases upO d neg s (v%4)<;>simp
 split
 ·rename_i htw
  have:upO d neg s (v%4)=false:=by
   unfold upO
   rcases htw with ⟨h1,h2⟩|⟨h1,h2⟩
   ·rw [h1,h2];split<;>simp
   ·rw [h1,h2];split<;>simp
  rw [this,rr_min' huu hs];rfl
 ·rw [rr_min hb1 huu hs]
theorem zd_zr (mag:Nat)(place:Int):zd mag place=zr (mag*2^place.toNat) (2^(-place).toNat):=by
 rw [zr_eq,K75_pow]
 obtain⟨c,hc⟩:∃c,c=1075:=⟨_,rfl⟩
 rw [←hc,zd_of (A:=place.toNat+c) (B:=(-place).toNat) (by omega),Nat.mul_assoc,←Nat.pow_add]
theorem rnd_big {V m:Nat}{exp:Int}(hV:V≠0)(h:1023 < (bl V:Int) - 1+exp)(d:Int)(neg:Bool):rnd d neg (zd (2*V+m) (exp-1))=pat neg (if twB d neg then infR-1 else infR):=by
 unfold rnd twB
 rw [zd_zr,rr_over (two_pow_pos _) ?_]
 ·simp
 ·have h1:=pow_le_of_bl hV
  have hb:=bl_pos hV
  have h2:2^(bl V)≤2*V+m:=by
   have:2^(bl V)=2*2^(bl V-1):=by rw [←Nat.pow_succ'];congr 1;omega
   omega
  obtain⟨c,hc⟩:∃c,c=1024:=⟨_,rfl⟩
  have hK:K1024=2^c:=by rw [hc];exact K1024_def
  rw [hK,←Nat.pow_add]
  refine Nat.le_trans ?_ (Nat.mul_le_mul_right _ h2)
  rw [←Nat.pow_add]
  exact Nat.pow_le_pow_right (by omega) (by omega)
def ofW (V:Nat)(cut:Int):Nat:=if 0<cut then V/2^cut.toNat else V*2^(-cut).toNat
def ofF (V:Nat)(cut:Int)(more:Bool):Bool:=(decide (0<cut)&&decide (V%2^cut.toNat≠0))||more
def ofE (V:Nat)(exp:Int):Int:=max ((bl V:Int)-53+exp) (-1074)
theorem ofW_lt {V:Nat}{exp cut:Int}(hV:V≠0)(hc:cut=ofE V exp - 2 - exp):ofW V cut<36028797018963968∧(ofE V exp≠-1074→18014398509481984≤ofW V cut)∧(cut≤0→bl V+(-cut).toNat≤55):=by
 have h1:=pow_le_of_bl hV
 have h2:=lt_pow_bl V
 have hb:=bl_pos hV
 unfold ofE at hc ⊢
 unfold ofW
 have e55:(36028797018963968:Nat)=2^55:=rfl
 have e54:(18014398509481984:Nat)=2^54:=rfl
 by_cases hcut:0<cut
 ·rw [if_pos hcut]
  obtain⟨c,hcc⟩:∃c:Nat,cut=c:=⟨cut.toNat,by omega⟩
  rw [hcc,Int.toNat_natCast]
  refine⟨?_,fun hne=>?_,fun h=>by omega⟩
  ·rw [Nat.div_lt_iff_lt_mul (two_pow_pos c),e55,←Nat.pow_add]
   exact Nat.lt_of_lt_of_le h2 (Nat.pow_le_pow_right (by omega) (by omega))
  ·rw [Nat.le_div_iff_mul_le (two_pow_pos c),e54,←Nat.pow_add]
   exact Nat.le_trans (Nat.pow_le_pow_right (by omega) (by omega)) h1
 ·rw [if_neg hcut]
  obtain⟨c,hcc⟩:∃c:Nat,-cut=c:=⟨(-cut).toNat,by omega⟩
  rw [hcc,Int.toNat_natCast]
  refine⟨?_,fun hne=>?_,fun h=>by omega⟩
  ·have:V*2^c<2^bl V*2^c:=Nat.mul_lt_mul_of_pos_right h2 (two_pow_pos c)
   rw [←Nat.pow_add]at this
   rw [e55]
   exact Nat.lt_of_lt_of_le this (Nat.pow_le_pow_right (by omega) (by omega))
  ·have:2^(bl V-1)*2^c≤V*2^c:=Nat.mul_le_mul_right _ h1
   rw [←Nat.pow_add]at this
   rw [e54]
   exact Nat.le_trans (Nat.pow_le_pow_right (by omega) (by omega)) this
theorem rnd_ofW {V:Nat}{exp cut:Int}{more:Bool}(hV:V≠0)(hm:more=true→55≤bl V)(hc:cut=ofE V exp - 2 - exp)(hf:(bl V:Int) - 1+exp≤1023)(d:Int)(neg:Bool){v u:Nat}(hv:v=stick (ofW V cut) (ofF V cut more))(hu:(u:Int)=ofE V exp+1074) :
  rnd d neg (zd (2*V+more.toNat) (exp-1))=pat neg (u*4503599627370496+(v/4+(upO d neg (v/4) (v%4)).toNat))∧u≤2045∧v/4+(upO d neg (v/4) (v%4)).toNat≤9007199254740992∧(u≠0→4503599627370496≤v/4+(upO d neg (v/4) (v%4)).toNat):=by
 obtain⟨w1,w2,w3⟩:=ofW_lt hV hc
 have hu45:u≤2045:=by unfold ofE at hu;omega
 have hb1:∀s r,(upO d neg s r).toNat≤1:=fun s r=>by cases upO d neg s r<;>simp
 have hsd:v/4=ofW V cut/4:=by rw [hv,stick_div]
 have hu2:u≠0→4503599627370496≤ofW V cut/4:=fun h=>by have:=w2 (by omega);omega
 refine⟨?_,hu45,by have:=hb1 (v/4) (v%4);omega,fun h=>by have:=hu2 h;omega⟩
 by_cases hcut:0<cut
 ·obtain⟨c,hcc⟩:∃c:Nat,cut=c:=⟨cut.toNat,by omega⟩
  have hWe:ofW V cut=V/2^c:=by unfold ofW;rw [if_pos hcut,hcc,Int.toNat_natCast]
  have hFe:ofF V cut more=decide (2*(V%2^c)+more.toNat≠0):=by
   unfold ofF
   rw [decide_eq_true hcut,Bool.true_and,hcc,Int.toNat_natCast]
   cases more
   ·simp only [Bool.or_false,Bool.toNat_false,Nat.add_zero]
    exact decide_eq_decide.2 (by omega)
   ·rw [Bool.or_true];symm;exact decide_eq_true (by simp)
  have hlt:=Nat.mod_lt V (two_pow_pos c)
  have hdm:=Nat.div_add_mod V (2^c)
  have hm1:more.toNat≤1:=by cases more<;>simp
  refine rr_parts (a:=0) (b:=c+3) (G:=2*2^c) (W:=ofW V cut) (t:=2*(V%2^c)+more.toNat) (L:=ofE V exp) hu (by omega) ?_ ?_ (by omega) (by omega) hu2 hu45 d neg (by rw [hv,hFe])
  ·rw [Nat.pow_add,show(2^3:Nat)=8 from rfl];omega
  ·rw [hWe,Nat.pow_zero,Nat.mul_one]
   have e1:V/2^c*(2*2^c)=2*(2^c*(V/2^c)):=by
    simp only [Nat.mul_assoc,Nat.mul_comm,Nat.mul_left_comm]
   rw [e1]
   omega
 ·obtain⟨c,hcc⟩:∃c:Nat,-cut=c:=⟨(-cut).toNat,by omega⟩
  have hWe:ofW V cut=V*2^c:=by unfold ofW;rw [if_neg hcut,hcc,Int.toNat_natCast]
  have hFe:ofF V cut more=decide (more.toNat≠0):=by
   unfold ofF
   rw [decide_eq_false hcut,Bool.false_and,Bool.false_or]
   cases more<;>rfl
  refine rr_parts (a:=c) (b:=3) (G:=2) (W:=ofW V cut) (t:=more.toNat) (L:=ofE V exp) hu (by omega) (by omega) ?_ (by cases more<;>simp) (by omega) hu2 hu45 d neg (by rw [hv,hFe])
  rw [hWe,Nat.add_mul]
  have e2:more.toNat*2^c=more.toNat:=by
   cases hmo:more
   ·simp
   ·have h55:=hm hmo
    have:=w3 (by omega)
    have hc0:c=0:=by omega
    rw [hc0];simp
  rw [e2,Nat.mul_assoc,Nat.mul_comm 2]
def rT (d:Int)(T:Int):Nat:=rnd d (decide (T<0)) (zq T.natAbs (2^1073))
theorem rT_zero (d:Int):rT d 0=0:=by
 unfold rT
 have:zq (0:Int).natAbs (2^1073)=0:=by
  show zq 0 (2^1073)=0
  generalize 2^1073=c
  simp [zq]
 rw [this,rnd_zero]
theorem sn_abs (neg:Bool)(n:Nat):(sn neg n).natAbs=n:=by unfold sn;cases neg<;>simp
theorem sn_neg {neg:Bool}{n:Nat}(h:n≠0):decide (sn neg n<0)=neg:=by
 unfold sn;cases neg
 ·simp
 ·simp;omega
theorem rT_gen {d:Int}{neg:Bool}{N A B Z:Nat}{T:Int}(hA:0 < A)(hB:0 < B)(h:sn neg N*(A:Int)=T*(B:Int))(hZ:N*A=T.natAbs*B→N=0∧Z=0∨Z=zq T.natAbs (2^1073)):rnd d neg Z=rT d T:=by
 have h1:N*A=T.natAbs*B:=by
  have:=congrArg Int.natAbs h
  rw [Int.natAbs_mul,Int.natAbs_mul,sn_abs,Int.natAbs_natCast,Int.natAbs_natCast]at this
  exact this
 rcases Nat.eq_zero_or_pos N with h0|h0
 ·have hT:T=0:=by
   rw [h0,Nat.zero_mul]at h1
   rcases Nat.mul_eq_zero.1 h1.symm with h2|h2
   ·omega
   ·omega
  rcases hZ h1 with ⟨-,hz⟩|hz
  ·rw [hz,rnd_zero,hT,rT_zero]
  ·have:=rT_zero d
   unfold rT at this
   rw [hT]at hz ⊢
   rw [hz,rT_zero]
   have e:zq (0:Int).natAbs (2^1073)=0:=by
    show zq 0 (2^1073)=0
    generalize 2^1073=c
    simp [zq]
   rw [e,rnd_zero]
 ·rcases hZ h1 with ⟨hz,-⟩|hz
  ·omega
  ·unfold rT
   rw [hz]
   congr 1
   rw [←sn_neg (neg:=neg) (n:=N) (by omega)]
   refine decide_eq_decide.2 ?_
   have hA':(0:Int)<A:=by omega
   have hB':(0:Int)<B:=by omega
   constructor
   ·intro hs
    have:=Int.mul_neg_of_neg_of_pos hs hA'
    rw [h]at this
    rcases Int.lt_or_le T 0 with h3|h3
    ·exact h3
    ·have:=Int.mul_nonneg h3 (Int.le_of_lt hB');omega
   ·intro hs
    have:=Int.mul_neg_of_neg_of_pos hs hB'
    rw [←h]at this
    rcases Int.lt_or_le (sn neg N) 0 with h3|h3
    ·exact h3
    ·have:=Int.mul_nonneg h3 (Int.le_of_lt hA');omega
theorem rT_dy {d:Int}{neg:Bool}{V A B:Nat}{e T:Int}(hAB:(A:Int) - B=e+2148)(h:sn neg V*((2^A:Nat):Int)=T*((2^B:Nat):Int)):rnd d neg (zd (2*V) (e-1))=rT d T:=by
 refine rT_gen (two_pow_pos A) (two_pow_pos B) h fun h1=>.inr ?_
 obtain⟨c,hc⟩:∃c,c=1073:=⟨_,rfl⟩
 rw [←hc,zd_of (A:=A) (B:=B+(c+1)) (by omega)]
 refine zq_congr (two_pow_pos _) (two_pow_pos _) ?_
 rw [pow_add_,two_pow_s c,Nat.mul_assoc,Nat.mul_assoc,show 2*(V*(2^A*2^c))=2*(V*2^A*2^c) by rw [Nat.mul_assoc],h1,Nat.mul_assoc,Nat.mul_left_comm 2,Nat.mul_left_comm 2]
theorem part_sv (b:Nat):sn (sg b) (fbSig b)*((2^(fbExp b+1074).toNat:Nat):Int)=sv b:=by
 rw [sn_mul,←fb_rv]
 rfl
def NaNc:Nat:=9221120237041090561
theorem NaNc_val:NaNc=9221120237041090561:=rfl
def cn (b:Nat):Nat:=if isNaN b then NaNc else b
def infP (s:Bool):Nat:=if s then minf else infR
def mulR (d:Int)(x y:Nat):Nat:=
 if isNaN x||isNaN y then NaNc
 else if isInf x||isInf y then(if mg x=0∨mg y=0 then NaNc else infP (sg x != sg y))
 else rT d (sv x*sv y)
theorem sn_bne (a b:Bool)(m n:Nat):sn (a != b) (m*n)=sn a m*sn b n:=by
 unfold sn
 cases a<;>cases b<;>simp [Int.neg_mul,Int.mul_neg]
theorem part_mul (x y:Nat):sn (sg x != sg y) (fbSig x*fbSig y)*((2^((fbExp x+1074).toNat+(fbExp y+1074).toNat):Nat):Int)=sv x*sv y:=by
 rw [sn_bne,pow_add_,←part_sv x,←part_sv y]
 push_cast
 rw [Int.mul_assoc,Int.mul_assoc,Int.mul_left_comm (sn (sg y) (fbSig y))]
theorem write_inf (s:Bool):Ieee.double.write (.infinity s)=infP s:=by cases s<;>rfl
theorem isNaN_iff (b:Nat):isNaN b=true↔infR<mg b:=by unfold isNaN;exact decide_eq_true_iff
theorem kind (b:Nat):(isNaN b=true∧isInf b=false∧infR<mg b)∨(isNaN b=false∧isInf b=true∧mg b=infR)∨(isNaN b=false∧isInf b=false∧mg b<infR):=by
 unfold isNaN isInf
 rcases Nat.lt_trichotomy (mg b) infR with h|h|h
 ·right;right;exact⟨decide_eq_false (by omega),decide_eq_false (by omega),h⟩
 ·right;left;exact⟨decide_eq_false (by omega),decide_eq_true h,h⟩
 ·left;exact⟨decide_eq_true h,decide_eq_false (by omega),h⟩
theorem mul_odd {x y:Nat}(hx:x < 18446744073709551616)(hy:y < 18446744073709551616)(h:(isNaN x || isInf x || (isNaN y || isInf y))=true) :
  (Ieee.double.mul x y=none∧∀d,mulR d x y=NaNc)∨∃s,Ieee.double.mul x y=some (infP s)∧∀d,mulR d x y=infP s:=by
 unfold mulR Ieee.Format.mul
 have z:∀{b m:Nat} {e:Int},m*2^(e+1074).toNat=rv (mg b)→(m=0↔mg b=0):=by
  intro b m e h
  constructor
  ·intro hm;rw [hm,Nat.zero_mul]at h;exact rv_eq_zero.1 h.symm
  ·intro hm;rw [hm,rv_zero]at h;rcases Nat.mul_eq_zero.1 h with h2|h2;exact h2;have:=two_pow_pos (e+1074).toNat;omega
 rcases kind x with ⟨n1,i1,k1⟩|⟨n1,i1,k1⟩|⟨n1,i1,k1⟩
 ·left
  rw [read_nan hx k1,n1]
  exact⟨rfl,fun d=>rfl⟩
 ·rcases kind y with ⟨n2,i2,k2⟩|⟨n2,i2,k2⟩|⟨n2,i2,k2⟩
  ·left
   rw [read_nan hy k2,read_inf hx k1,n2,n1]
   exact⟨rfl,fun d=>rfl⟩
  ·right
   refine⟨sg x ^^ sg y,?_,fun d=>?_⟩
   ·rw [read_inf hy k2,read_inf hx k1]
    show some (Ieee.double.write _)=_
    rw [write_inf]
   ·rw [n1,n2,i1,i2,k1,k2]
    show(if infR=0∨infR=0 then NaNc else infP (sg x != sg y))=_
    rw [infR_val,if_neg (by omega)]
  ·obtain⟨m,e,hr,-,hv⟩:=read_fin hy k2
   rw [hr,read_inf hx k1,n1,n2,i1,i2,k1]
   by_cases h0:mg y=0
   ·left
    have hm:=(z hv).2 h0
    subst hm
    refine⟨rfl,fun d=>?_⟩
    show(if infR=0∨mg y=0 then NaNc else infP (sg x != sg y))=_
    rw [if_pos (.inr h0)]
   ·right
    have hm:m≠0:=fun h=>h0 ((z hv).1 h)
    refine⟨sg x ^^ sg y,?_,fun d=>?_⟩
    ·show Option.map _ (if m=0 then none else some _)=_
     rw [if_neg hm]
     show some (Ieee.double.write _)=_
     rw [write_inf]
    ·show(if infR=0∨mg y=0 then NaNc else infP (sg x != sg y))=_
     rw [infR_val,if_neg (by omega)]
 ·rcases kind y with ⟨n2,i2,k2⟩|⟨n2,i2,k2⟩|⟨n2,i2,k2⟩
  ·left
   obtain⟨m,e,hr,-,hv⟩:=read_fin hx k1
   rw [read_nan hy k2,hr,n2,n1]
   exact⟨rfl,fun d=>rfl⟩
  ·obtain⟨m,e,hr,-,hv⟩:=read_fin hx k1
   rw [hr,read_inf hy k2,n1,n2,i1,i2,k2]
   by_cases h0:mg x=0
   ·left
    have hm:=(z hv).2 h0
    subst hm
    refine⟨rfl,fun d=>?_⟩
    show(if mg x=0∨infR=0 then NaNc else infP (sg x != sg y))=_
    rw [if_pos (.inl h0)]
   ·right
    have hm:m≠0:=fun h=>h0 ((z hv).1 h)
    refine⟨sg x ^^ sg y,?_,fun d=>?_⟩
    ·show Option.map _ (if m=0 then none else some _)=_
     rw [if_neg hm]
     show some (Ieee.double.write (.infinity (sg y ^^ sg x)))=_
     rw [write_inf,Bool.xor_comm]
    ·show(if mg x=0∨infR=0 then NaNc else infP (sg x != sg y))=_
     rw [infR_val,if_neg (by omega)]
  ·rw [n1,n2,i1,i2]at h
   cases h
end Go.Proofs.YtngdldcgkaplbaaGreat.Rn
namespace Go.Proofs.YtngdldcgkaplbaaGreat
open Nm Rn
def emp (lo hi:Nat):Prop:=rdLo lo hi=infR∧rdHi lo hi=minf
instance (lo hi:Nat):Decidable (emp lo hi):=by unfold emp;exact inferInstance
theorem rdLo_lt (lo hi:Nat)(h:lo < 18446744073709551616):rdLo lo hi<18446744073709551616:=by
 unfold rdLo;split
 ·exact pl_lt h
 ·rw [infR_val];omega
theorem rdHi_lt (lo hi:Nat)(h:hi < 18446744073709551616):rdHi lo hi<18446744073709551616:=by
 unfold rdHi;split
 ·exact pl_lt h
 ·rw [minf_val];omega
end Go.Proofs.YtngdldcgkaplbaaGreat
namespace Go.Proofs.YtngdldcgkaplbaaGreat
open Go.RowKit Nm Rn
theorem zero_iv (w:World):(zeroValue 32).run Tryz.prog w=.ok (.agg #[.float .f64 0,.float .f64 0]) w:=by kernel_rfl
theorem agg_iv (w:World):(isAgg 32).run Tryz.prog w=.ok true w:=by kernel_rfl
theorem size_iv (w:World):(sizeOf 32).run Tryz.prog w=.ok 2 w:=by kernel_rfl
theorem iemp_any (lo hi:Nat)(w:World)(hl:lo < 18446744073709551616)(hh:hi < 18446744073709551616) :
  Calls Tryz.prog 173 #[.agg #[.float .f64 lo,.float .f64 hi]] w fun e w'=>e=.returned (.bool (ltB hi lo))∧Ext w w':=by
 have hq:=fo_gt hl hh
 obtain⟨R,hR⟩:∃R,R=ltB hi lo:=⟨_,rfl⟩
 rw [←hR]at hq ⊢
 clear hR hl hh
 go_enter Tryz.func173,Tryz.ntmps173
 go_wp2
 go_ret
 exact⟨ret_bool (by first|rfl|exact hq),(Ext.refl w).alloc _⟩
theorem iturned_any (lo hi:Nat)(w:World)(hl:lo < 18446744073709551616)(hh:hi < 18446744073709551616) :
  Calls Tryz.prog 174 #[.agg #[.float .f64 lo,.float .f64 hi]] w (RetF (pl (ng hi)) (pl (ng lo)) w):=by
 have hp1:=fun w=>iplain_any (ng hi) w (ng_lt hh)
 have hp2:=fun w=>iplain_any (ng lo) w (ng_lt hl)
 have n1:Go.Op.negFloat .f64 hi=ng hi:=ng_xor hh
 have n2:Go.Op.negFloat .f64 lo=ng lo:=ng_xor hl
 obtain⟨a,ha⟩:∃a,a=pl (ng hi):=⟨_,rfl⟩
 obtain⟨b,hb⟩:∃b,b=pl (ng lo):=⟨_,rfl⟩
 obtain⟨x,hx⟩:∃x,x=ng hi:=⟨_,rfl⟩
 obtain⟨y,hy⟩:∃y,y=ng lo:=⟨_,rfl⟩
 rw [←ha,←hx]at hp1
 rw [←hb,←hy]at hp2
 rw [←hx]at n1
 rw [←hy]at n2
 have u1:∀w,(Go.Op.unary .neg (.float .f64 hi)).run Tryz.prog w=.ok (.float .f64 x) w:=by
  intro w;rw [←n1];rfl
 have u2:∀w,(Go.Op.unary .neg (.float .f64 lo)).run Tryz.prog w=.ok (.float .f64 y) w:=by
  intro w;rw [←n2];rfl
 clear n1 n2
 rw [←ha,←hb]
 have HP1:=Lib.hid hp1
 have HP2:=Lib.hid hp2
 clear hp1 hp2 ha hb hx hy hl hh
 obtain⟨w1,hw1,hEw,b0,b1,hblk⟩:=two_boxes w 32 32 (.float .f64 lo) (.float .f64 hi) (.float .f64 0) (.float .f64 0)
 go_enter Tryz.func174,Tryz.ntmps174
 go_wp2_with fail
 rw [←hw1]
 clear hw1
 obtain⟨G,hG⟩:∃G,G=w.heap.size+1:=⟨_,rfl⟩
 rw [←hG]at hblk
 rw [←hG]
 have hGw:w.heap.size≤G:=by omega
 have hGl:=hblk.lt
 have q0:w1.cell? ⟨G,0,none⟩=some (.float .f64 0):=hblk.cell 0
 have q1:w1.cell? ⟨G,1,none⟩=some (.float .f64 0):=hblk.cell 1
 have f0:=hblk.frozen 0
 have f1:=hblk.frozen 1
 clear hG
 refine wp_region_still_tail 9 (by kernel_rfl) (by kernel_rfl) ?_
 simp only [List.take_succ_cons,List.take_zero,List.drop_succ_cons,List.drop_zero]
 still_step
 still_step
 still_step
 still_call ((HP1.out _).mono fun _ _ h=>⟨h.1,h.2.symm⟩)
 still_step
 still_step
 still_step
 still_call ((HP2.out _).mono fun _ _ h=>⟨h.1,h.2.symm⟩)
 still_step
 refine wpStill_nil ?_
 change wpList _ _ _ _ _ w1.drew
 go_wp2
 exact bodyPost_ret (v:=.agg #[.float .f64 a,.float .f64 b]) (by simp [results,Tryz.results174,go_sem,hGl,q0,q1]) rfl ⟨rfl,(hEw.drew.setCell hGw _).setCell hGw _⟩
theorem box_set2 {w w2:World}{H:Nat}{t:TypeId}{x y:Value}(a b:Value)(hb:Blk w2 H t #[x,y])(hE:Ext w w2)(hH:w.heap.size≤H) :
  Blk ((w2.setCell ⟨H,0,none⟩ a).setCell ⟨H,1,none⟩ b) H t #[a,b]∧Ext w ((w2.setCell ⟨H,0,none⟩ a).setCell ⟨H,1,none⟩ b):=
 ⟨(hb.set_ 0 a).set_ 1 b,(hE.setCell hH _).setCell (by show w.heap.size≤H;exact hH) _⟩
theorem ineg_any (lo hi:Nat)(w:World)(hl:lo < 18446744073709551616)(hh:hi < 18446744073709551616) :
  Calls Tryz.prog 141 #[.agg #[.float .f64 lo,.float .f64 hi]] w (RetF (ngLo lo hi) (ngHi lo hi) w):=by
 have hr:=fun w=>iread_any lo hi w hl hh
 have key1:∃(a b r1 r2:Nat) (E:Bool),a=rdLo lo hi∧b=rdHi lo hi∧(∀w,Calls Tryz.prog 173 #[.agg #[.float .f64 a,.float .f64 b]] w fun e w'=>e=.returned (.bool E)∧Ext w w')∧(∀w,Calls Tryz.prog 174 #[.agg #[.float .f64 a,.float .f64 b]] w (RetF r1 r2 w))∧((E=true∧ngLo lo hi=a∧ngHi lo hi=b)∨(E=false∧ngLo lo hi=r1∧ngHi lo hi=r2)):=by
  by_cases he:rdLo lo hi=infR∧rdHi lo hi=minf
  ·refine⟨infR,minf,_,_,_,he.1.symm,he.2.symm,fun w=>iemp_any infR minf w infR_lt minf_lt,fun w=>iturned_any infR minf w infR_lt minf_lt,.inl ⟨rfl,?_,?_⟩⟩
   ·unfold ngLo;rw [if_pos he]
   ·unfold ngHi;rw [if_pos he]
  ·obtain⟨g1,g2,g3,g4,g5,g6,_,g8⟩:=rd_ends hl hh he
   refine⟨_,_,_,_,_,rfl,rfl,fun w=>iemp_any _ _ w g1 g2,fun w=>iturned_any _ _ w g1 g2,.inr ⟨?_,?_,?_⟩⟩
   ·unfold ltB
    rw [decide_eq_false (p:=key (rdHi lo hi)<key (rdLo lo hi)) (by omega),Bool.and_false]
   ·unfold ngLo;rw [if_neg he]
   ·unfold ngHi;rw [if_neg he]
 obtain⟨a,b,r1,r2,E,ha,hb,hem,htu,hcase⟩:=key1
 rw [←ha,←hb]at hr
 have HR:=Lib.hid hr
 have HEM:=Lib.hid hem
 have HTU:=Lib.hid htu
 clear hr hem htu ha hb hl hh
 rcases hcase with ⟨rfl,e1,e2⟩|⟨rfl,e1,e2⟩
 all_goals
  rw [e1,e2]
  clear e1 e2
  go_enter Tryz.func141,Tryz.ntmps141
  go_wp2_with fail
  refine(HR.out _).mono ?_
  rintro e w2 ⟨rfl,hE2⟩
  have hbH:=((Blk.new w 32 #[.float .f64 lo,.float .f64 hi]).ext ((Ext.refl _).alloc (.cells #[.float .f64 0,.float .f64 0] 32))).ext hE2
  have hbG:=(Blk.new2 w (.cells #[.float .f64 lo,.float .f64 hi] 32) 32 #[.float .f64 0,.float .f64 0]).ext hE2
  have hEw:Ext w w2:=(((Ext.refl w).alloc _).alloc _).trans hE2
  have hbH3:=(box_set2 (.float .f64 a) (.float .f64 b) hbH hEw (Nat.le_refl _)).1
  have hE3:=(box_set2 (.float .f64 a) (.float .f64 b) hbH hEw (Nat.le_refl _)).2
  have hbG3:Blk ((w2.setCell ⟨w.heap.size,0,none⟩ (.float .f64 a)).setCell ⟨w.heap.size,1,none⟩ (.float .f64 b)) (w.heap.size+1) 32 #[.float .f64 0,.float .f64 0]:=
   (hbG.far (by show w.heap.size+1≠w.heap.size;omega) _).far (by show w.heap.size+1≠w.heap.size;omega) _
  have s0:w2.cell? ⟨w.heap.size,0,none⟩=some (.float .f64 lo):=hbH.cell 0
  have s1:w2.cell? ⟨w.heap.size,1,none⟩=some (.float .f64 hi):=hbH.cell 1
  have fs0:=hbH.frozen 0
  have fs1:=hbH.frozen 1
  have hsl:=hbH.lt
  obtain⟨G,hG⟩:∃G,G=w.heap.size+1:=⟨_,rfl⟩
  rw [←hG]at hbG3
  rw [←hG]
  have hGw:w.heap.size≤G:=by omega
  have b0:((w2.setCell ⟨w.heap.size,0,none⟩ (.float .f64 a)).setCell ⟨w.heap.size,1,none⟩ (.float .f64 b)).cell? ⟨w.heap.size,0,none⟩=some (.float .f64 a):=hbH3.cell 0
  have b1:((w2.setCell ⟨w.heap.size,0,none⟩ (.float .f64 a)).setCell ⟨w.heap.size,1,none⟩ (.float .f64 b)).cell? ⟨w.heap.size,1,none⟩=some (.float .f64 b):=hbH3.cell 1
  clear hG hE2 hbG hEw hbH
  go_wp2_with fail
  refine(HEM.out _).mono ?_
  rintro e w4 ⟨rfl,hE4⟩
  have hbH4:=hbH3.ext hE4
  have hbG4:=hbG3.ext hE4
  have hEE:=hE3.trans hE4
  clear s0 s1 fs0 fs1 hsl b0 b1 hbH3 hbG3 hE3 hE4
  have b0:w4.cell? ⟨w.heap.size,0,none⟩=some (.float .f64 a):=hbH4.cell 0
  have b1:w4.cell? ⟨w.heap.size,1,none⟩=some (.float .f64 b):=hbH4.cell 1
  have hGl:=hbG4.lt
  have q0:w4.cell? ⟨G,0,none⟩=some (.float .f64 0):=hbG4.cell 0
  have q1:w4.cell? ⟨G,1,none⟩=some (.float .f64 0):=hbG4.cell 1
  have f0:=hbG4.frozen 0
  have f1:=hbG4.frozen 1
  clear hbH4
  go_wp2_with fail
 ·exact bodyPost_ret (v:=.agg #[.float .f64 a,.float .f64 b]) (by simp [results,Tryz.results141,go_sem,hGl,q0,q1]) rfl ⟨rfl,(hEE.setCell hGw _).setCell hGw _⟩
 ·refine(HTU.out _).mono ?_
  rintro e w5 ⟨rfl,hE5⟩
  have hbG5:=hbG4.ext hE5
  have hEF:=hEE.trans hE5
  clear hE5 hEE hbG4 q0 q1 f0 f1 hGl b0 b1
  have hGl:=hbG5.lt
  have q0:w5.cell? ⟨G,0,none⟩=some (.float .f64 0):=hbG5.cell 0
  have q1:w5.cell? ⟨G,1,none⟩=some (.float .f64 0):=hbG5.cell 1
  have f0:=hbG5.frozen 0
  have f1:=hbG5.frozen 1
  go_wp2
  exact bodyPost_ret (v:=.agg #[.float .f64 r1,.float .f64 r2]) (by simp [results,Tryz.results141,go_sem,hGl,q0,q1]) rfl ⟨rfl,(hEF.setCell hGw _).setCell hGw _⟩
theorem lt_key {x y:Nat}(nx:isNaN x=false)(ny:isNaN y=false):ltB x y=decide (key x<key y):=by unfold ltB;rw [nx,ny];rfl
theorem eq_key {x y:Nat}(nx:isNaN x=false)(ny:isNaN y=false):eqB x y=decide (key x=key y):=by unfold eqB;rw [nx,ny];rfl
theorem le_key {x y:Nat}(nx:isNaN x=false)(ny:isNaN y=false):leB x y=decide (key x≤key y):=by unfold leB;rw [nx,ny];rfl
theorem max_run {x y:Nat}(hx:x < 18446744073709551616)(hy:y < 18446744073709551616)(nx:isNaN x=false)(ny:isNaN y=false)(h:key x=key y→x=y)(P:Program)(w:World)(ats:Array TypeId)(ty:TypeId) :
  (Builtin.max_ ats ty #[.float .f64 x,.float .f64 y]).run P w=.ok (.float .f64 (if key x<key y then y else x)) w:=by
 have h1:=fo_lt hx hy
 have h2:=fo_eq hx hy
 have h3:=fo_gt hx hy
 rw [lt_key nx ny]at h1
 rw [eq_key nx ny]at h2
 rw [lt_key ny nx]at h3
 have hm:(Builtin.max2 (.float .f64 x) (.float .f64 y)).run P w=.ok (.float .f64 (if key x<key y then y else x)) w:=by
  rcases Int.lt_trichotomy (key x) (key y)with g|g|g
  ·rw [decide_eq_true g]at h1
   rw [if_pos g]
   have e:=eq_of_beq h1
   simp only [Builtin.max2,Builtin.min2,e];rfl
  ·rw [decide_eq_true g]at h2
   have e:=eq_of_beq h2
   have:=h g
   subst this
   rw [if_neg (by omega)]
   simp only [Builtin.max2,Builtin.min2,e,ite_self];rfl
  ·rw [decide_eq_true g]at h3
   rw [if_neg (by omega)]
   have e:=eq_of_beq h3
   simp only [Builtin.max2,Builtin.min2,e];rfl
 unfold Builtin.max_
 simp only [List.foldlM]
 simpa using hm
end Go.Proofs.YtngdldcgkaplbaaGreat
namespace Go.Proofs.YtngdldcgkaplbaaGreat
open Nm Rn
theorem plN_pl {b:Nat}(h:isNaN b=false):plN (pl b)=pl b:=by
 have h0:isNaN 0=false:=rfl
 unfold plN pl
 by_cases h1:b=9223372036854775808
 ·rw [if_pos h1,h0];rfl
 ·rw [if_neg h1,if_neg h1,h];rfl
theorem rdLo_pl (lo hi:Nat):plN (rdLo lo hi)=rdLo lo hi:=by
 unfold rdLo
 cases h:sndB lo hi
 ·rw [if_neg (by simp)];unfold plN;rw [nan_inf,infR_val];rfl
 ·rw [if_pos rfl];exact plN_pl (snd_nan h).1
theorem rdHi_pl (lo hi:Nat):plN (rdHi lo hi)=rdHi lo hi:=by
 unfold rdHi
 cases h:sndB lo hi
 ·rw [if_neg (by simp)];unfold plN;rw [nan_minf,minf_val];rfl
 ·rw [if_pos rfl];exact plN_pl (snd_nan h).2
def mx (x:Nat):Nat:=if key x<0 then mg x else x
theorem mx_lt {x:Nat}(hx:x < 18446744073709551616):mx x<18446744073709551616:=by unfold mx mg;split<;>omega
theorem mx_nan {x:Nat}(hx:isNaN x=false):isNaN (mx x)=false:=by
 unfold mx;split
 ·have:mg (mg x)=mg x:=by unfold mg;omega
  unfold isNaN at hx ⊢;rw [this];exact hx
 ·exact hx
theorem mx_key {x:Nat}:key (mx x)=if key x<0 then -key x else key x:=by
 unfold mx
 split
 ·rename_i h
  have hm:mg x<9223372036854775808:=by unfold mg;omega
  have e2:mg (mg x)=mg x:=by unfold mg;omega
  have e3:sg (mg x)=false:=decide_eq_false (by omega)
  unfold key at h ⊢
  rw [e2,e3]
  revert h
  cases sg x
  ·intro h;rw [if_neg (by simp)]at h;omega
  ·intro _;simp
 ·rfl
def szHi (p q:Nat):Nat:=if key (mx q)<key (mx p)then mx p else mx q
def szLo (p q:Nat):Nat:=if key p≤0∧0≤key q then 0 else if key (mx q)<key (mx p)then mx q else mx p
def abLo (lo hi:Nat):Nat:=if rdLo lo hi=infR∧rdHi lo hi=minf then infR else pl (szLo (rdLo lo hi) (rdHi lo hi))
def abHi (lo hi:Nat):Nat:=if rdLo lo hi=infR∧rdHi lo hi=minf then minf else pl (szHi (rdLo lo hi) (rdHi lo hi))
end Go.Proofs.YtngdldcgkaplbaaGreat
namespace Go.Proofs.YtngdldcgkaplbaaGreat
open Go.RowKit Nm Rn
end Go.Proofs.YtngdldcgkaplbaaGreat