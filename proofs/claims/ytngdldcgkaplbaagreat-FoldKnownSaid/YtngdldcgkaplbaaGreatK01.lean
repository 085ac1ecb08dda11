import Derived.Test.YtngdldcgkaplbaaGreatRows
import Derived.WalkKit
import Derived.WalkSpells
import Derived.WalkLawsBesides
import Derived.Below
import Derived.Laws.OwnMore
import Derived.Deep.AppendLies
import Derived.Deep.Draws
import Derived.Lib.Hide
import Ieee.Arith
set_option linter.unusedVariables false
set_option linter.unusedSimpArgs false
namespace Go.Proofs.YtngdldcgkaplbaaGreat.Nm
def nv:List Nat→Nat
 |[]=>0
 |x::l=>x+4294967296*nv l
def ndf:Nat→Nat→List Nat
 |0,_=>[]
 |f+1,n=>if n=0 then []else(n%4294967296)::ndf f (n/4294967296)
def nd (n:Nat):List Nat:=ndf (n+1) n
def nw (n:Nat):Nat:=(nd n).length
theorem ndf_fuel:∀(f g n:Nat),n<f→n<g→ndf f n=ndf g n:=by
 intro f
 induction f with
 |zero=>intro g n h;omega
 |succ f ih=>
  intro g n hf hg
  match g with
  |0=>omega
  |g+1=>
   unfold ndf
   split
   ·rfl
   ·rw [ih g (n/4294967296) (by omega) (by omega)]
theorem nd_zero:nd 0=[]:=by simp [nd,ndf]
theorem nd_pos {n:Nat}(h:n≠0):nd n=(n%4294967296)::nd (n/4294967296):=by
 unfold nd
 rw [show ndf (n+1) n=if n=0 then []else(n%4294967296)::ndf n (n/4294967296)from rfl,if_neg h]
 rw [ndf_fuel n (n/4294967296+1) (n/4294967296) (by omega) (by omega)]
theorem nv_nil:nv []=0:=rfl
theorem nv_cons (x:Nat)(l:List Nat):nv (x::l)=x+4294967296*nv l:=rfl
theorem nv_nd (n:Nat):nv (nd n)=n:=by
 induction n using Nat.strongRecOn with
 |_ n ih=>
  by_cases h:n=0
  ·subst h;rw [nd_zero];rfl
  ·rw [nd_pos h,nv_cons,ih (n/4294967296) (by omega)]
   omega
theorem nd_lt (n:Nat):∀x∈nd n,x<4294967296:=by
 induction n using Nat.strongRecOn with
 |_ n ih=>
  by_cases h:n=0
  ·subst h;rw [nd_zero];simp
  ·rw [nd_pos h]
   intro x hx
   rcases List.mem_cons.1 hx with e|e
   ·omega
   ·exact ih (n/4294967296) (by omega) x e
def Ws (l:List Nat):Prop:=∀x∈l,x<4294967296
theorem Ws.nil:Ws []:=by intro x h;cases h
theorem Ws.cons {x:Nat}{l:List Nat}(hx:x < 4294967296)(h:Ws l):Ws (x::l):=by
 intro y hy
 rcases List.mem_cons.1 hy with e|e
 ·omega
 ·exact h y e
theorem Ws.tail {x:Nat}{l:List Nat}(h:Ws (x::l)):Ws l:=fun y hy=>h y (List.mem_cons_of_mem _ hy)
theorem Ws.head {x:Nat}{l:List Nat}(h:Ws (x::l)):x<4294967296:=h x List.mem_cons_self
theorem Ws.take {l:List Nat}(h:Ws l)(k:Nat):Ws (l.take k):=fun y hy=>h y (List.mem_of_mem_take hy)
theorem Ws.drop {l:List Nat}(h:Ws l)(k:Nat):Ws (l.drop k):=fun y hy=>h y (List.mem_of_mem_drop hy)
theorem Ws.get {l:List Nat}(h:Ws l){k:Nat}(hk:k < l.length):l[k]<4294967296:=h _ (List.getElem_mem hk)
theorem Ws.append {l m:List Nat}(h:Ws l)(h':Ws m):Ws (l++m):=by
 intro y hy
 rcases List.mem_append.1 hy with e|e
 ·exact h y e
 ·exact h' y e
theorem Ws.nd (n:Nat):Ws (nd n):=nd_lt n
theorem Ws.set {l:List Nat}(h:Ws l)(k:Nat){x:Nat}(hx:x < 4294967296):Ws (l.set k x):=by
 intro y hy
 rcases List.mem_or_eq_of_mem_set hy with e|e
 ·exact h y e
 ·omega
theorem Ws.replicate (n:Nat){x:Nat}(hx:x < 4294967296):Ws (List.replicate n x):=by
 intro y hy
 have:=List.eq_of_mem_replicate hy
 omega
theorem nv_append (l m:List Nat):nv (l++m)=nv l+4294967296^l.length*nv m:=by
 induction l with
 |nil=>simp [nv]
 |cons x l ih=>
  rw [List.cons_append,nv_cons,ih,nv_cons,List.length_cons,Nat.pow_succ,Nat.mul_add]
  rw [Nat.mul_comm (4294967296^l.length) 4294967296,Nat.mul_assoc]
  omega
theorem nv_lt {l:List Nat}(h:Ws l):nv l<4294967296^l.length:=by
 induction l with
 |nil=>simp [nv]
 |cons x l ih=>
  have h1:=ih h.tail
  have h2:=h.head
  rw [nv_cons,List.length_cons,Nat.pow_succ]
  omega
theorem nv_replicate (n:Nat):nv (List.replicate n 0)=0:=by
 induction n with
 |zero=>rfl
 |succ n ih=>rw [List.replicate_succ,nv_cons,ih]
theorem nv_take_succ {l:List Nat}{k:Nat}(hk:k < l.length):nv (l.take (k+1))=nv (l.take k)+4294967296^k*l[k]:=by
 rw [List.take_succ_eq_append_getElem hk,nv_append,List.length_take,Nat.min_eq_left (by omega)]
 simp [nv]
theorem nv_take_drop (l:List Nat)(k:Nat)(hk:k≤l.length):nv l=nv (l.take k)+4294967296^k*nv (l.drop k):=by
 have h:=nv_append (l.take k) (l.drop k)
 rw [List.take_append_drop,List.length_take,Nat.min_eq_left hk]at h
 exact h
theorem nv_drop_eq {l:List Nat}{k:Nat}(hk:k < l.length):nv (l.drop k)=l[k]+4294967296*nv (l.drop (k+1)):=by
 rw [List.drop_eq_getElem_cons hk,nv_cons]
theorem nv_eq_zero {l:List Nat}(h:nv l=0):∀k,(hk:k<l.length)→l[k]=0:=by
 induction l with
 |nil=>intro k hk;simp at hk
 |cons x l ih=>
  rw [nv_cons]at h
  intro k hk
  match k with
  |0=>simp;omega
  |k+1=>
   simp only [List.getElem_cons_succ]
   exact ih (by omega) k (by simpa using hk)
theorem nd_nv {l:List Nat}(h:Ws l)(ht:∀ k,(hk:k < l.length)→k+1=l.length→l[k]≠0):nd (nv l)=l:=by
 induction l with
 |nil=>exact nd_zero
 |cons x l ih=>
  have hx:=h.head
  have h1:nd (nv l)=l:=ih h.tail fun k hk e=>by
   have:=ht (k+1) (by simp;omega) (by simp;omega)
   simpa using this
  have hne:x+4294967296*nv l≠0:=by
   intro h0
   have hx0:x=0:=by omega
   have hl0:nv l=0:=by omega
   rw [hl0,nd_zero]at h1
   have:=ht 0 (by simp) (by rw [←h1];rfl)
   simp at this
   omega
  rw [nv_cons,nd_pos hne]
  have e1:(x+4294967296*nv l)%4294967296=x:=by omega
  have e2:(x+4294967296*nv l)/4294967296=nv l:=by omega
  rw [e1,e2,h1]
theorem take_trim {l:List Nat}(h:Ws l){n:Nat}(hn:n≤l.length)(hz:∀ k,(hk:k < l.length)→n≤k→l[k]=0)
  (ht:∀k,(hk:k<l.length)→k+1=n→l[k]≠0):nd (nv l)=l.take n∧nw (nv l)=n∧nv (l.take n)=nv l:=by
 have h0:nv (l.drop n)=0:=by
  have:∀(m:List Nat),(∀k,(hk:k<m.length)→m[k]=0)→nv m=0:=by
   intro m
   induction m with
   |nil=>intro _;rfl
   |cons x m ih=>
    intro hm
    have h1:=hm 0 (by simp)
    have h2:=ih fun k hk=>by
     have:=hm (k+1) (by simp;omega)
     simpa using this
    rw [nv_cons,h2]
    simpa using h1
  refine this _ fun k hk=>?_
  rw [List.getElem_drop]
  exact hz (n+k) (by simp at hk;omega) (by omega)
 have hv:nv l=nv (l.take n):=by
  rw [nv_take_drop l n hn,h0];omega
 have e:nd (nv (l.take n))=l.take n:=by
  refine nd_nv (h.take n) fun k hk hk1=>?_
  rw [List.getElem_take]
  have hl:(l.take n).length=n:=by rw [List.length_take];omega
  exact ht k (by omega) (by omega)
 refine⟨by rw [hv,e],?_,hv.symm⟩
 unfold nw
 rw [hv,e,List.length_take]
 omega
theorem nw_zero:nw 0=0:=by simp [nw,nd_zero]
theorem nw_pos {n:Nat}(h:n≠0):nw n=nw (n/4294967296)+1:=by
 unfold nw;rw [nd_pos h];rfl
theorem nw_eq_zero {n:Nat}:nw n=0↔n=0:=by
 constructor
 ·intro h
  by_cases e:n=0
  ·exact e
  ·rw [nw_pos e]at h;omega
 ·intro h;subst h;exact nw_zero
theorem nw_le_iff (n k:Nat):nw n≤k↔n<4294967296^k:=by
 induction k generalizing n with
 |zero=>
  rw [Nat.pow_zero]
  constructor
  ·intro h;have:=nw_eq_zero.1 (Nat.le_zero.1 h);omega
  ·intro h
   have:n=0:=by omega
   subst this
   rw [nw_zero];omega
 |succ k ih=>
  by_cases e:n=0
  ·subst e
   rw [nw_zero]
   have:0<4294967296^(k+1):=Nat.pow_pos (by omega)
   omega
  ·rw [nw_pos e,Nat.pow_succ]
   have h1:=ih (n/4294967296)
   constructor
   ·intro h
    have:=h1.1 (by omega)
    omega
   ·intro h
    have:=h1.2 (by omega)
    omega
theorem lt_pow_nw (n:Nat):n<4294967296^nw n:=(nw_le_iff n _).1 (Nat.le_refl _)
theorem pow_le_of_nw {n:Nat}(h:n≠0):4294967296^(nw n-1)≤n:=by
 have h0:nw n≠0:=fun e=>h (nw_eq_zero.1 e)
 rcases Nat.lt_or_ge n (4294967296^(nw n-1))with hlt|hge
 ·have:=(nw_le_iff n (nw n-1)).2 hlt
  omega
 ·exact hge
theorem nw_mono {a b:Nat}(h:a≤b):nw a≤nw b:=(nw_le_iff a _).2 (Nat.lt_of_le_of_lt h (lt_pow_nw b))
theorem nw_nv_le {l:List Nat}(h:Ws l):nw (nv l)≤l.length:=(nw_le_iff _ _).2 (nv_lt h)
theorem nd_length (n:Nat):(nd n).length=nw n:=rfl
theorem nv_lt_of_top {l m:List Nat}(hl:Ws l)(hlen:l.length=m.length){k:Nat}(hk:k < l.length)
  (hsame:∀j,(hj:j<l.length)→k<j→l[j]=m[j]'(by omega)) (hlt:l[k]<m[k]'(by omega)):nv l<nv m:=by
 have e1:=nv_take_drop l k (by omega)
 have e2:=nv_take_drop m k (by omega)
 have d1:=nv_drop_eq hk
 have d2:=nv_drop_eq (l:=m) (k:=k) (by omega)
 have hd:l.drop (k+1)=m.drop (k+1):=by
  apply List.ext_getElem
  ·simp [hlen]
  ·intro i h1 h2
   rw [List.getElem_drop,List.getElem_drop]
   simp at h1
   exact hsame _ (by omega) (by omega)
 have b1:=nv_lt (hl.take k)
 rw [List.length_take,Nat.min_eq_left (by omega)]at b1
 rw [e1,e2,d1,d2,hd]
 generalize nv (m.drop (k+1))=t at *
 have hle:l[k]+4294967296*t+1≤m[k]'(by omega)+4294967296*t:=by omega
 have hmul:=Nat.mul_le_mul_left (4294967296^k) hle
 rw [Nat.mul_add _ _ 1,Nat.mul_one]at hmul
 omega
def bl (n:Nat):Nat:=if n=0 then 0 else n.log2+1
theorem bl_zero:bl 0=0:=rfl
theorem bl_le_iff (n k:Nat):bl n≤k↔n<2^k:=by
 unfold bl
 by_cases h:n=0
 ·subst h
  have:0<2^k:=Nat.pow_pos (by omega)
  simp [this]
 ·rw [if_neg h]
  exact Nat.log2_lt h
theorem lt_pow_bl (n:Nat):n<2^bl n:=(bl_le_iff n _).1 (Nat.le_refl _)
theorem pow_le_of_bl {n:Nat}(h:n≠0):2^(bl n-1)≤n:=by
 have h0:bl n≠0:=by
  intro e
  have:=(bl_le_iff n 0).1 (by omega)
  simp at this
  exact h this
 rcases Nat.lt_or_ge n (2^(bl n-1))with hlt|hge
 ·have:=(bl_le_iff n (bl n-1)).2 hlt
  omega
 ·exact hge
theorem bl_eq_of {n k:Nat}(h1:2^k≤n)(h2:n < 2^(k+1)):bl n=k+1:=by
 have a:=(bl_le_iff n (k+1)).2 h2
 have b:¬bl n≤k:=fun h=>by have:=(bl_le_iff n k).1 h;omega
 omega
theorem bl_eq_zero {n:Nat}:bl n=0↔n=0:=by
 have:=bl_le_iff n 0
 rw [Nat.pow_zero]at this
 omega
theorem bl_pos {n:Nat}(h:n≠0):0<bl n:=by
 rcases Nat.eq_zero_or_pos (bl n)with h'|h'
 ·exact absurd (bl_eq_zero.1 h') h
 ·exact h'
theorem bl_mono {a b:Nat}(h:a≤b):bl a≤bl b:=(bl_le_iff a _).2 (Nat.lt_of_le_of_lt h (lt_pow_bl b))
theorem bl_half {n:Nat}(h:n≠0):bl n=bl (n/2)+1:=by
 have h1:=pow_le_of_bl h
 have h2:=lt_pow_bl n
 have h0:bl n≠0:=fun e=>h (bl_eq_zero.1 e)
 obtain⟨k,hk⟩:∃k,bl n=k+1:=⟨bl n-1,by omega⟩
 rw [hk]at h1 h2 ⊢
 simp only [Nat.add_sub_cancel]at h1
 have a:=(bl_le_iff (n/2) k).2 (by rw [Nat.pow_succ]at h2;omega)
 match k with
 |0=>omega
 |k+1=>
  have b:¬bl (n/2)≤k:=fun hh=>by
   have:=(bl_le_iff (n/2) k).1 hh
   rw [Nat.pow_succ]at h1
   omega
  omega
theorem pow32 (k:Nat):4294967296^k=2^(32*k):=by
 rw [Nat.pow_mul]
theorem bl_mul_pow {n:Nat}(k:Nat)(h:n≠0):bl (n*2^k)=bl n+k:=by
 have h1:=pow_le_of_bl h
 have h2:=lt_pow_bl n
 obtain⟨m,hm⟩:∃m,bl n=m+1:=⟨bl n-1,by have:=bl_pos h;omega⟩
 rw [hm]at h1 h2 ⊢
 simp only [Nat.add_sub_cancel]at h1
 have e:=bl_eq_of (n:=n*2^k) (k:=m+k) (by rw [Nat.pow_add];exact Nat.mul_le_mul_right _ h1)
  (by rw [show m+k+1=m+1+k by omega,Nat.pow_add];exact Nat.mul_lt_mul_of_pos_right h2 (Nat.pow_pos (by omega)))
 rw [e];omega
theorem bl_top {l:List Nat}(h:Ws l){n:Nat}(hn:l.length=n+1)(ht:l[n]'(by omega)≠0):bl (nv l)=32*n+bl (l[n]'(by omega)):=by
 have e:=nv_take_succ (l:=l) (k:=n) (by omega)
 rw [List.take_of_length_le (by omega)]at e
 have hb:=nv_lt (h.take n)
 rw [List.length_take,Nat.min_eq_left (by omega)]at hb
 generalize l[n]'(by omega)=t at *
 generalize nv (l.take n)=r at *
 rw [pow32]at e hb
 obtain⟨m,hm⟩:∃m,bl t=m+1:=⟨bl t-1,by have:=bl_pos ht;omega⟩
 have h1:=pow_le_of_bl ht
 have h2:=lt_pow_bl t
 rw [hm]at h1 h2 ⊢
 simp only [Nat.add_sub_cancel]at h1
 have hlow:2^(32*n+m)≤nv l:=by
  rw [Nat.pow_add,e]
  have:=Nat.mul_le_mul_left (2^(32*n)) h1
  omega
 have hhigh:nv l<2^(32*n+m+1):=by
  rw [show 32*n+m+1=32*n+(m+1) by omega,Nat.pow_add,e]
  have:2^(32*n)*(t+1)≤2^(32*n)*2^(m+1):=Nat.mul_le_mul_left _ h2
  rw [Nat.mul_add]at this
  omega
 rw [bl_eq_of hlow hhigh]
 omega
theorem nw_bl (n:Nat):nw n=(bl n+31)/32:=by
 have h (k:Nat):nw n≤k↔bl n≤32*k:=by rw [nw_le_iff,bl_le_iff,pow32]
 have h1:=(h (nw n)).1 (Nat.le_refl _)
 have h2:=(h ((bl n+31)/32)).2 (by omega)
 omega
theorem top_word {xs:List Nat}(h:Ws xs)(h0:nv xs≠0):∃hk:nw (nv xs)-1<xs.length,xs[nw (nv xs)-1]≠0∧bl (nv xs)=32*(nw (nv xs)-1)+bl xs[nw (nv xs)-1]:=by
 have hn:nw (nv xs)≠0:=fun e=>h0 (nw_eq_zero.1 e)
 have hl:=nw_nv_le h
 have hv:nv (xs.take (nw (nv xs)))=nv xs:=by
  have e:=nv_take_drop xs _ hl
  have h1:=lt_pow_nw (nv xs)
  generalize nv (xs.take (nw (nv xs)))=a at *
  rcases Nat.eq_zero_or_pos (nv (xs.drop (nw (nv xs))))with hz|hz
  ·rw [hz]at e;omega
  ·have:4294967296^nw (nv xs)*1≤4294967296^nw (nv xs)*nv (xs.drop (nw (nv xs))):=Nat.mul_le_mul_left _ hz
   omega
 have hk:nw (nv xs)-1<xs.length:=by omega
 refine⟨hk,?_⟩
 have ht:xs[nw (nv xs)-1]≠0:=by
  intro e0
  have e:=nv_take_succ hk
  rw [show nw (nv xs)-1+1=nw (nv xs) by omega,hv,e0]at e
  have hb:=nv_lt (h.take (nw (nv xs)-1))
  rw [List.length_take,Nat.min_eq_left (by omega)]at hb
  have h2:=pow_le_of_nw h0
  omega
 refine⟨ht,?_⟩
 have hlen:(xs.take (nw (nv xs))).length=(nw (nv xs)-1)+1:=by rw [List.length_take];omega
 have:=bl_top (h.take (nw (nv xs))) hlen (by rw [List.getElem_take];exact ht)
 rw [hv,List.getElem_take]at this
 exact this
theorem take_nw {xs:List Nat}(h:Ws xs):nv (xs.take (nw (nv xs)))=nv xs∧nd (nv xs)=xs.take (nw (nv xs)):=by
 by_cases h0:nv xs=0
 ·rw [h0,nw_zero,nd_zero,List.take_zero]
  exact⟨rfl,rfl⟩
 ·obtain⟨hk,ht,_⟩:=top_word h h0
  have hn:nw (nv xs)≠0:=fun e=>h0 (nw_eq_zero.1 e)
  have hl:=nw_nv_le h
  have hz:∀k,(hk:k<xs.length)→nw (nv xs)≤k→xs[k]=0:=by
   have e:=nv_take_drop xs _ hl
   have h1:=lt_pow_nw (nv xs)
   have h0':nv (xs.drop (nw (nv xs)))=0:=by
    rcases Nat.eq_zero_or_pos (nv (xs.drop (nw (nv xs))))with hz|hz
    ·exact hz
    ·have:4294967296^nw (nv xs)*1≤4294967296^nw (nv xs)*nv (xs.drop (nw (nv xs))):=Nat.mul_le_mul_left _ hz
     omega
   intro k hk hle
   have:=nv_eq_zero h0' (k-nw (nv xs)) (by rw [List.length_drop];omega)
   rw [List.getElem_drop]at this
   simpa [show nw (nv xs)+(k-nw (nv xs))=k by omega]using this
  have:=take_trim h hl hz (fun k hk e=>by
   have e:k=nw (nv xs)-1:=by omega
   subst e;exact ht)
  exact⟨this.2.2,this.1⟩
theorem nv_div_pow {l:List Nat}(h:Ws l){k:Nat}(hk:k≤l.length):nv l/4294967296^k=nv (l.drop k):=by
 have e:=nv_take_drop l k hk
 have hb:=nv_lt (h.take k)
 rw [List.length_take,Nat.min_eq_left hk]at hb
 rw [e,Nat.add_comm,Nat.mul_comm,Nat.add_comm,Nat.add_mul_div_right _ _ (Nat.pow_pos (by omega)),Nat.div_eq_of_lt hb,Nat.zero_add]
theorem nv_take_getD (l:List Nat)(k:Nat):nv (l.take (k+1))=nv (l.take k)+4294967296^k*l.getD k 0:=by
 by_cases hk:k<l.length
 ·rw [nv_take_succ hk]
  simp [List.getD,hk]
 ·rw [List.take_of_length_le (by omega),List.take_of_length_le (by omega)]
  simp [List.getD,hk]
theorem sum_step {l m acc:List Nat}{k cr x y lo:Nat}(hacc:acc.length=k)(hx:x=l.getD k 0)(hy:y=m.getD k 0)
  (h:nv acc+4294967296^k*cr=nv (l.take k)+nv (m.take k)) (hlo:lo=(cr+x+y)%4294967296):
  nv (acc++[lo])+4294967296^(k+1)*((cr+x+y)/4294967296)=nv (l.take (k+1))+nv (m.take (k+1)):=by
 rw [nv_append,nv_take_getD,nv_take_getD,hacc,←hx,←hy,nv_cons,nv_nil,hlo,Nat.pow_succ,Nat.mul_zero,Nat.add_zero]
 have e:(cr+x+y)%4294967296+4294967296*((cr+x+y)/4294967296)=cr+x+y:=Nat.mod_add_div _ _
 have e2:4294967296^k*((cr+x+y)%4294967296+4294967296*((cr+x+y)/4294967296))=4294967296^k*(cr+x+y):=by rw [e]
 rw [Nat.mul_add,←Nat.mul_assoc]at e2
 rw [Nat.mul_add,Nat.mul_add]at e2
 omega
theorem diff_step {l m acc:List Nat}{k br x y lo b':Nat}(hacc:acc.length=k)(hx:x=l.getD k 0)(hy:y=m.getD k 0)
  (h:nv acc+nv (m.take k)=nv (l.take k)+4294967296^k*br) (hlo:lo+(br+y)=x+4294967296*b'):
  nv (acc++[lo])+nv (m.take (k+1))=nv (l.take (k+1))+4294967296^(k+1)*b':=by
 rw [nv_append,nv_take_getD,nv_take_getD,hacc,←hx,←hy,nv_cons,nv_nil,Nat.pow_succ,Nat.mul_zero,Nat.add_zero,Nat.mul_assoc]
 have e2:4294967296^k*(lo+(br+y))=4294967296^k*(x+4294967296*b'):=by rw [hlo]
 rw [Nat.mul_add,Nat.mul_add,Nat.mul_add]at e2
 omega
theorem nv_take_of_lt {m:List Nat}{k:Nat}(h:nv m < 4294967296^k):nv (m.take k)=nv m:=by
 by_cases hk:k≤m.length
 ·have e:=nv_take_drop m k hk
  rcases Nat.eq_zero_or_pos (nv (m.drop k))with hz|hz
  ·rw [hz]at e;omega
  ·have:4294967296^k*1≤4294967296^k*nv (m.drop k):=Nat.mul_le_mul_left _ hz
   omega
 ·rw [List.take_of_length_le (by omega)]
theorem getD_of {l:List Nat}{k:Nat}(h:k < l.length):l[k]=l.getD k 0:=by simp [List.getD,h]
theorem getD_out {l:List Nat}{k:Nat}(h:l.length≤k):0=l.getD k 0:=by simp [List.getD,show ¬k<l.length by omega]
theorem nv_set {l:List Nat}{k:Nat}(hk:k < l.length)(y:Nat):nv (l.set k y)+4294967296^k*l[k]=nv l+4294967296^k*y:=by
 induction l generalizing k with
 |nil=>simp at hk
 |cons x l ih=>
  match k with
  |0=>
   simp only [List.set_cons_zero,nv_cons,List.getElem_cons_zero,Nat.pow_zero,Nat.one_mul]
   omega
  |k+1=>
   have:=ih (k:=k) (by simpa using hk)
   simp only [List.set_cons_succ,nv_cons,List.getElem_cons_succ,Nat.pow_succ]
   rw [Nat.mul_comm (4294967296^k) 4294967296,Nat.mul_assoc,Nat.mul_assoc]
   omega
theorem right_mod {l:List Nat}(h:Ws l){D S:Nat}(hD:D < l.length)(hS:S < 32):nv l%2^(32*D+S)≠0↔nv (l.take D)≠0∨l[D]%2^S≠0:=by
 have e:=nv_take_drop l D (by omega)
 rw [nv_drop_eq hD]at e
 have hb:=nv_lt (h.take D)
 rw [List.length_take,Nat.min_eq_left (by omega)]at hb
 have hp:2^(32*D+S)=4294967296^D*2^S:=by rw [pow32,←Nat.pow_add]
 have hm:nv l%2^(32*D+S)=nv (l.take D)+4294967296^D*(l[D]%2^S):=by
  have e1:4294967296*nv (l.drop (D+1))=2^S*(2^(32-S)*nv (l.drop (D+1))):=by
   rw [←Nat.mul_assoc,←Nat.pow_add,show S+(32-S)=32 by omega]
  have e2:(l[D]+4294967296*nv (l.drop (D+1)))%2^S=l[D]%2^S:=by rw [e1,Nat.add_mul_mod_self_left]
  rw [hp,Nat.mod_mul,e,Nat.add_mul_mod_self_left,Nat.mod_eq_of_lt hb,Nat.add_mul_div_left _ _ (Nat.pow_pos (by omega)),Nat.div_eq_of_lt hb,Nat.zero_add,e2]
 have hpp:0<4294967296^D:=Nat.pow_pos (by omega)
 rw [hm]
 constructor
 ·intro hne
  by_cases h1:nv (l.take D)=0
  ·right
   intro h2
   rw [h1,h2]at hne
   simp at hne
  ·exact Or.inl h1
 ·intro hor
  rcases hor with h1|h1
  ·omega
  ·have:4294967296^D*1≤4294967296^D*(l[D]%2^S):=Nat.mul_le_mul_left _ (by omega)
   omega
theorem right_word {l:List Nat}(h:Ws l){D S i:Nat}(hi:i < l.length)(hD:D≤i)(hS:S < 32) :
  nv l/2^(32*D+S)/4294967296^(i-D)%4294967296=(l[i]+4294967296*l.getD (i+1) 0)/2^S%4294967296:=by
 have hp:2^(32*D+S)*4294967296^(i-D)=4294967296^i*2^S:=by
  rw [pow32,pow32,←Nat.pow_add,←Nat.pow_add];congr 1;omega
 rw [Nat.div_div_eq_div_mul,hp,←Nat.div_div_eq_div_mul,nv_div_pow h (by omega),nv_drop_eq hi]
 have hd:nv (l.drop (i+1))=l.getD (i+1) 0+4294967296*nv (l.drop (i+2)):=by
  by_cases h2:i+1<l.length
  ·rw [nv_drop_eq h2,getD_of h2]
  ·rw [List.drop_of_length_le (by omega),List.drop_of_length_le (by omega),←getD_out (l:=l) (k:=i+1) (by omega)];rfl
 rw [hd]
 generalize nv (l.drop (i+2))=R
 generalize l.getD (i+1) 0=y
 generalize l[i]=x
 have e:x+4294967296*(y+4294967296*R)=x+4294967296*y+2^S*(4294967296*(2^(32-S)*R)):=by
  have:2^S*(4294967296*(2^(32-S)*R))=4294967296*(4294967296*R):=by
   have e1:2^S*(4294967296*(2^(32-S)*R))=4294967296*((2^S*2^(32-S))*R):=by
    simp only [Nat.mul_assoc,Nat.mul_comm,Nat.mul_left_comm]
   rw [e1,←Nat.pow_add,show S+(32-S)=32 by omega]
  rw [this,Nat.mul_add]
  omega
 rw [e,Nat.add_mul_div_left _ _ (Nat.pow_pos (by omega)),Nat.add_mul_mod_self_left]
def tzf:Nat→Nat→Nat
 |0,_=>0
 |f+1,n=>if n=0 then 0 else if n%2=1 then 0 else tzf f (n/2)+1
def tz (n:Nat):Nat:=tzf n n
theorem tzf_spec:∀(f n:Nat),n≤f→n≠0→∃m,n=2^tzf f n*m∧m%2=1:=by
 intro f
 induction f with
 |zero=>intro n h h0;omega
 |succ f ih=>
  intro n h h0
  unfold tzf
  rw [if_neg h0]
  split
  ·exact⟨n,by simp,by assumption⟩
  ·obtain⟨m,h1,h2⟩:=ih (n/2) (by omega) (by omega)
   refine⟨m,?_,h2⟩
   rw [Nat.pow_succ,Nat.mul_comm _ 2,Nat.mul_assoc,←h1]
   omega
theorem tz_spec {n:Nat}(h:n≠0):∃m,n=2^tz n*m∧m%2=1:=tzf_spec n n (Nat.le_refl _) h
theorem nv_drop_set_self {l:List Nat}{k:Nat}(hk:k < l.length)(d:Nat):nv ((l.set k d).drop k)=d+4294967296*nv (l.drop (k+1)):=by
 rw [nv_drop_eq (by simpa using hk),List.getElem_set_self,List.drop_set_of_lt (by omega)]
def fracN (n d:Nat)(e:Int):Nat:=
 if n=0 then 0 else n/2^tz n*2^(e+tz n-tz d).toNat
def fracD (n d:Nat)(e:Int):Nat:=
 if n=0 then 1 else d/2^tz d*2^(-(e+tz n-tz d)).toNat
theorem tz_div {n:Nat}:n/2^tz n*2^tz n=n:=by
 by_cases h:n=0
 ·subst h;rfl
 ·obtain⟨m,h1,_⟩:=tz_spec h
  have hp:0<2^tz n:=Nat.pow_pos (by omega)
  have h2:n/2^tz n=m:=by
   conv=>lhs;lhs;rw [h1]
   exact Nat.mul_div_cancel_left _ hp
  rw [h2,Nat.mul_comm]
  exact h1.symm
theorem tz_div_pos {n:Nat}(h:n≠0):0<n/2^tz n:=by
 rcases Nat.eq_zero_or_pos (n/2^tz n)with h0|h0
 ·have:=tz_div (n:=n)
  rw [h0]at this
  omega
 ·exact h0
theorem fracD_pos {n d:Nat}(e:Int)(h:d≠0):0<fracD n d e:=by
 unfold fracD
 split
 ·omega
 ·exact Nat.mul_pos (tz_div_pos h) (Nat.pow_pos (by omega))
theorem frac_val {n d:Nat}{e:Int}{p q:Nat}(hpq:(p:Int) - q=e):fracN n d e*(d*2^q)=n*2^p*fracD n d e:=by
 unfold fracN fracD
 by_cases h:n=0
 ·subst h;simp
 ·rw [if_neg h,if_neg h]
  have h1:=tz_div (n:=n)
  have h2:=tz_div (n:=d)
  generalize n/2^tz n=n' at *
  generalize d/2^tz d=d' at *
  generalize tz n=a at *
  generalize tz d=b at *
  rw [←h1,←h2]
  have e1:n'*2^(e+a-b).toNat*(d'*2^b*2^q)=n'*d'*2^((e+a-b).toNat+b+q):=by
   rw [Nat.pow_add,Nat.pow_add]
   simp only [Nat.mul_assoc,Nat.mul_comm,Nat.mul_left_comm]
  have e2:n'*2^a*2^p*(d'*2^(-(e+a-b)).toNat)=n'*d'*2^(a+p+(-(e+a-b)).toNat):=by
   rw [Nat.pow_add,Nat.pow_add]
   simp only [Nat.mul_assoc,Nat.mul_comm,Nat.mul_left_comm]
  rw [e1,e2]
  congr 2
  omega
end Go.Proofs.YtngdldcgkaplbaaGreat.Nm
namespace Go.Proofs.YtngdldcgkaplbaaGreat
open Go.RowKit Nm
theorem block_of_add (a:Addr)(n:Nat):(a.add n).block=a.block:=by unfold Addr.add;split<;>rfl
theorem add_of_add (a:Addr)(i j:Nat):(a.add i).add j=a.add (i+j):=by
 unfold Addr.add
 by_cases hi:i=0<;>by_cases hj:j=0<;>simp [hi,hj,Nat.add_assoc]
def Wds (w:World)(A:Option Addr)(n c:Nat)(xs:List Nat):Prop:=
 xs.length=n∧n≤c∧c≤maxLen∧Ws xs∧(0<n→∃ad,A=some ad∧ad.block<w.heap.size∧∀(k x:Nat),xs[k]?=some x→w.cell? (ad.add k)=some (.int .u32 (x:Int)))
section
variable {w w':World} {n c:Nat} {A:Option Addr} {xs:List Nat}
theorem Wds.len (h:Wds w A n c xs):xs.length=n:=h.1
theorem Wds.ws (h:Wds w A n c xs):Ws xs:=h.2.2.2.1
theorem Wds.lec (h:Wds w A n c xs):n≤c:=h.2.1
theorem Wds.cmax (h:Wds w A n c xs):c≤maxLen:=h.2.2.1
theorem Wds.at_ {k:Nat}(h:Wds w A n c xs)(hk:k < n):∃ad,∃hx:k<xs.length,A=some ad∧ad.block<w.heap.size∧w.cell? (ad.add k)=some (.int .u32 (xs[k]:Int)):=by
 obtain⟨ad,e,hb,hc⟩:=h.2.2.2.2 (by omega)
 have hl:k<xs.length:=by have:=h.1;omega
 exact⟨ad,hl,e,hb,hc k _ (List.getElem?_eq_getElem hl)⟩
theorem Wds.keep (h:Wds w A n c xs)(hs:w.heap.size≤w'.heap.size)(hk:∀ p:Addr,p.block < w.heap.size→w'.cell? p=w.cell? p):Wds w' A n c xs:=
 ⟨h.1,h.2.1,h.2.2.1,h.2.2.2.1,fun hn=>by
   obtain⟨ad,e,hb,hc⟩:=h.2.2.2.2 hn
   exact⟨ad,e,by omega,fun k x hu=>(hk _ (by rw [block_of_add];exact hb)).trans (hc k x hu)⟩⟩
theorem Wds.below (h:Wds w A n c xs)(hb:Below w.heap.size w w'):Wds w' A n c xs:=h.keep hb.size fun _ hp=>hb.cell hp
theorem Wds.drew (h:Wds w A n c xs):Wds w.drew A n c xs:=h
theorem Wds.drewN (h:Wds w A n c xs)(k:Nat):Wds (w.drewN k) A n c xs:=h
theorem Wds.alloc (h:Wds w A n c xs)(o:Obj):Wds (w.alloc o) A n c xs:=h.keep (by simp) fun p hp=>World.cell?_alloc_lt w o p (by omega)
theorem Wds.nil_ (hc:c≤maxLen):Wds w A 0 c []:=⟨rfl,Nat.zero_le _,hc,Ws.nil,fun h=>absurd h (by omega)⟩
end
def Ext (w w':World):Prop:=Below w.heap.size w w'
section
variable {w w' w'':World}
theorem Ext.refl (w:World):Ext w w:=Below.refl _ _
theorem Ext.trans (h:Ext w w')(k:Ext w' w''):Ext w w'':=Below.trans h (Below.mono k (Below.size h))
theorem Ext.size (h:Ext w w'):w.heap.size≤w'.heap.size:=Below.size h
theorem Ext.drew (h:Ext w w'):Ext w w'.drew:=Below.drew h
theorem Ext.drewN (h:Ext w w')(n:Nat):Ext w (w'.drewN n):=by
 have hb:Below w.heap.size w w':=h
 exact⟨hb.os,hb.tape,hb.output,hb.size,hb.block⟩
theorem Ext.alloc (h:Ext w w')(o:Obj):Ext w (w'.alloc o):=Below.alloc h (Below.size h) o
theorem Ext.setCell (h:Ext w w'){p:Addr}(hp:w.heap.size≤p.block)(u:Value):Ext w (w'.setCell p u):=Below.setCell h hp u
theorem Ext.cell (h:Ext w w'){p:Addr}(hp:p.block < w.heap.size):w'.cell? p=w.cell? p:=Below.cell h hp
theorem Ext.grown (h:Ext w w'){row:Option Nat}(hg:w'.grownBy w'' row)(hr:∀ k,row=some k→w.heap.size≤k):Ext w w'':=Below.grown h hg (Below.size h) hr
theorem Wds.ext {n c:Nat}{A:Option Addr}{xs:List Nat}(h:Wds w A n c xs)(hb:Ext w w'):Wds w' A n c xs:=h.below hb
end
def u32s (xs:List Nat):List Value:=xs.map fun(x:Nat)=>Value.int .u32 (x:Int)
theorem u32s_length (xs:List Nat):(u32s xs).length=xs.length:=by simp [u32s]
theorem u32s_get {xs:List Nat}{k x:Nat}(h:xs[k]?=some x):(u32s xs)[k]?=some (Value.int .u32 (x:Int)):=by
 simp [u32s,h]
theorem Wds.of_own {w:World}{base:Nat}{e:TypeId}{v:Value}{n:Nat}{xs:List Nat}(h:w.ownsRow base e 1 v n (u32s xs))(hw:Ws xs) :
  ∃A c,v=.slice A n c∧Wds w A n c xs:=by
 have hl:xs.length=n:=by have:=h.1;rw [u32s_length]at this;omega
 rcases h.2 with ⟨rfl,rfl⟩|⟨g,cap,cur,rfl,_,hh,hnc,hcm,_⟩
 ·exact⟨none,0,rfl,hl,Nat.le_refl _,by unfold maxLen;omega,hw,fun h=>absurd h (by omega)⟩
 ·refine⟨_,cap,rfl,hl,hnc,hcm,hw,fun _=>⟨_,rfl,?_,fun k x hx=>h.cells (g:=g) rfl k _ (u32s_get hx)⟩⟩
  rcases Nat.lt_or_ge g w.heap.size with hlt|hge
  ·exact hlt
  ·rw [Array.getElem?_eq_none hge]at hh;cases hh
def RetW (V:Nat)(w:World)(e:Ending)(w':World):Prop:=∃A n c,e=.returned (.slice A n c)∧Wds w' A n c (nd V)∧Ext w w'
theorem val_int {k:IntKind}{a b:Int}(h:a=b):Value.int k a=Value.int k b:=by rw [h]
theorem and_mask (v lo:Nat)(hv:v < 18446744073709551616)(h:lo=v % 4294967296):bits .and .u64 (v:Int) 4294967295=(lo:Int):=by
 rw [u64_and _ _ (by omega) (by omega) (by omega) (by omega)]
 rw [Int.toNat_natCast,show(4294967295:Int).toNat=4294967295 from rfl,nat_mask32,h]
theorem ret_int {k:IntKind}{a b:Int}(h:a=b):Ending.returned (.int k a)=.returned (.int k b):=by rw [h]
theorem ret_bool {a b:Bool}(h:a=b):Ending.returned (.bool a)=.returned (.bool b):=by rw [h]
theorem ret_float {k:FloatKind}{a b:Nat}(h:a=b):Ending.returned (.float k a)=.returned (.float k b):=by rw [h]
end Go.Proofs.YtngdldcgkaplbaaGreat
namespace Go.Proofs.YtngdldcgkaplbaaGreat.Rn
def rv (k:Nat):Nat:=if k<4503599627370496 then k else(4503599627370496+k%4503599627370496)*2^(k/4503599627370496-1)
def ulp (k:Nat):Nat:=2^(k/4503599627370496-1)
theorem rv_small {k:Nat}(h:k≤9007199254740992):rv k=k:=by
 unfold rv
 split
 ·rfl
 ·rename_i hk
  by_cases e:k=9007199254740992
  ·subst e;rfl
  ·have h1:k/4503599627370496=1:=by omega
   rw [h1]
   simp only [Nat.sub_self,Nat.pow_zero,Nat.mul_one]
   omega
theorem rv_form (u s:Nat)(hs:s≤9007199254740992)(hu:u≠0→4503599627370496≤s):rv (u*4503599627370496+s)=s*2^u:=by
 by_cases h0:u=0
 ·subst h0
  simp only [Nat.zero_mul,Nat.zero_add,Nat.pow_zero,Nat.mul_one]
  exact rv_small hs
 ·have h1:=hu h0
  unfold rv
  rw [if_neg (by omega)]
  by_cases e:s=9007199254740992
  ·subst e
   have a:(u*4503599627370496+9007199254740992)/4503599627370496=u+2:=by omega
   have b:(u*4503599627370496+9007199254740992)%4503599627370496=0:=by omega
   rw [a,b,show u+2-1=u+1 by omega,Nat.pow_succ]
   omega
  ·have a:(u*4503599627370496+s)/4503599627370496=u+1:=by omega
   have b:(u*4503599627370496+s)%4503599627370496=s-4503599627370496:=by omega
   rw [a,b,show u+1-1=u by omega,show 4503599627370496+(s-4503599627370496)=s by omega]
theorem ulp_form (u s:Nat)(hs:s < 9007199254740992)(hu:u≠0→4503599627370496≤s):ulp (u*4503599627370496+s)=2^u:=by
 unfold ulp
 by_cases h0:u=0
 ·subst h0
  have:(0*4503599627370496+s)/4503599627370496-1=0:=by omega
  rw [this]
 ·have h1:=hu h0
  have a:(u*4503599627370496+s)/4503599627370496=u+1:=by omega
  rw [a,show u+1-1=u by omega]
theorem form (k:Nat):∃u s,k=u*4503599627370496+s∧s<9007199254740992∧(u≠0→4503599627370496≤s):=by
 by_cases h:k<9007199254740992
 ·exact⟨0,k,by omega,h,fun h=>absurd rfl h⟩
 ·exact⟨k/4503599627370496-1,4503599627370496+k%4503599627370496,by omega,by omega,fun _=>by omega⟩
theorem two_pow_pos (u:Nat):0<2^u:=Nat.pow_pos (by omega)
theorem rv_succ (k:Nat):rv (k+1)=rv k+ulp k:=by
 obtain⟨u,s,rfl,hs,hu⟩:=form k
 rw [rv_form u s (by omega) hu,ulp_form u s hs hu,Nat.add_assoc,rv_form u (s+1) (by omega) (fun h=>by have:=hu h;omega),Nat.add_mul,Nat.one_mul]
theorem ulp_pos (k:Nat):0<ulp k:=two_pow_pos _
theorem rv_lt_succ (k:Nat):rv k<rv (k+1):=by
 have:=rv_succ k
 have:=ulp_pos k
 omega
theorem rv_lt {a b:Nat}(h:a < b):rv a<rv b:=by
 induction b with
 |zero=>omega
 |succ b ih=>
  have h1:=rv_lt_succ b
  by_cases e:a=b
  ·subst e;exact h1
  ·have:=ih (by omega)
   omega
theorem rv_le {a b:Nat}(h:a≤b):rv a≤rv b:=by
 by_cases e:a=b
 ·subst e;exact Nat.le_refl _
 ·have:=rv_lt (show a<b by omega)
  omega
theorem rv_lt_iff {a b:Nat}:rv a<rv b↔a<b:=by
 constructor
 ·intro h
  rcases Nat.lt_or_ge a b with h1|h1
  ·exact h1
  ·have:=rv_le h1;omega
 ·exact rv_lt
theorem rv_le_iff {a b:Nat}:rv a≤rv b↔a≤b:=by
 constructor
 ·intro h
  rcases Nat.lt_or_ge b a with h1|h1
  ·have:=rv_lt h1;omega
  ·exact h1
 ·exact rv_le
theorem rv_inj {a b:Nat}(h:rv a=rv b):a=b:=by
 have h1:=rv_le_iff.1 (Nat.le_of_eq h)
 have h2:=rv_le_iff.1 (Nat.le_of_eq h.symm)
 omega
theorem rv_zero:rv 0=0:=rfl
theorem rv_eq_zero {k:Nat}:rv k=0↔k=0:=⟨fun h=>rv_inj (h.trans rv_zero.symm),fun h=>by subst h;rfl⟩
def rung (Q:Nat):Nat:=if Q<9007199254740992 then Q else(Q.log2-52)*4503599627370496+Q/2^(Q.log2-52)
theorem rung_form {Q u s:Nat}(hs:s < 9007199254740992)(hu:u≠0→4503599627370496≤s)(h1:s*2^u≤Q)(h2:Q < (s+1)*2^u) :
  rung Q=u*4503599627370496+s:=by
 unfold rung
 by_cases h0:u=0
 ·subst h0
  simp only [Nat.pow_zero,Nat.mul_one]at h1 h2
  rw [if_pos (by omega)]
  omega
 ·have h3:=hu h0
  have hp:=two_pow_pos u
  have h4:4503599627370496*2^u≤Q:=Nat.le_trans (Nat.mul_le_mul_right _ h3) h1
  have h5:Q<9007199254740992*2^u:=Nat.lt_of_lt_of_le h2 (Nat.mul_le_mul_right _ (by omega))
  have hu1:2≤2^u:=by
   have:=Nat.pow_le_pow_right (n:=2) (by omega) (show 1≤u by omega)
   simpa using this
  have hQ:Q≠0:=by omega
  have hl:Q.log2=u+52:=by
   refine(Nat.log2_eq_iff hQ).2 ⟨?_,?_⟩
   ·rw [Nat.pow_add,Nat.mul_comm];exact h4
   ·rw [show u+52+1=u+53 by omega,Nat.pow_add,Nat.mul_comm];exact h5
  rw [if_neg (by omega),hl,show u+52-52=u by omega]
  have:Q/2^u=s:=by
   refine Nat.div_eq_of_lt_le h1 h2
  rw [this]
theorem rung_of_rv (k:Nat){Q:Nat}(h1:rv k≤Q)(h2:Q < rv (k+1)):rung Q=k:=by
 obtain⟨u,s,rfl,hs,hu⟩:=form k
 rw [rv_form u s (by omega) hu]at h1
 rw [Nat.add_assoc,rv_form u (s+1) (by omega) (fun h=>by have:=hu h;omega)]at h2
 exact rung_form hs hu h1 h2
theorem exists_rung (Q:Nat):∃k,rv k≤Q∧Q<rv (k+1):=by
 induction Q with
 |zero=>exact⟨0,by simp [rv_zero],by rw [rv_small (by omega)];omega⟩
 |succ Q ih=>
  obtain⟨k,h1,h2⟩:=ih
  by_cases h:Q+1<rv (k+1)
  ·exact⟨k,by omega,h⟩
  ·have:=rv_lt_succ (k+1)
   exact⟨k+1,by omega,by omega⟩
theorem rung_spec (Q:Nat):rv (rung Q)≤Q∧Q<rv (rung Q+1):=by
 obtain⟨k,h1,h2⟩:=exists_rung Q
 rw [rung_of_rv k h1 h2]
 exact⟨h1,h2⟩
theorem le_rung_iff {k Q:Nat}:k≤rung Q↔rv k≤Q:=by
 have h:=rung_spec Q
 constructor
 ·intro hk
  have:=rv_le hk
  omega
 ·intro hk
  have:rv k<rv (rung Q+1):=by omega
  have:=rv_lt_iff.1 this
  omega
theorem rung_rv (k:Nat):rung (rv k)=k:=rung_of_rv k (Nat.le_refl _) (rv_lt_succ k)
def infR:Nat:=9218868437227405312
def away (d:Int)(neg:Bool)(Z:Nat):Bool:=
 if Z=4*rv (rung (Z/4))then false
 else if d=1 then !neg
 else if d=-1 then neg
 else decide (2*(rv (rung (Z/4))+rv (rung (Z/4)+1))<Z)||(decide (Z=2*(rv (rung (Z/4))+rv (rung (Z/4)+1)))&&decide (rung (Z/4)%2=1))
def rr (d:Int)(neg:Bool)(Z:Nat):Nat:=
 if(d=1∧neg=true)∨(d=-1∧neg=false)then min (rung (Z/4)) (infR-1)
 else min (if away d neg Z then rung (Z/4)+1 else rung (Z/4)) infR
def pat (neg:Bool)(r:Nat):Nat:=if r=0 then 0 else if neg then 9223372036854775808+r else r
def rnd (d:Int)(neg:Bool)(Z:Nat):Nat:=pat neg (rr d neg Z)
def zq (N m:Nat):Nat:=2*(N/m)+(if N%m=0 then 0 else 1)
def K75:Nat:=2^1075
theorem K75_def:K75=2^1075:=by
 unfold K75
 exact Eq.refl _
attribute [irreducible] K75
def zr (n m:Nat):Nat:=zq (n*K75) m
theorem zr_eq (n m:Nat):zr n m=zq (n*K75) m:=rfl
theorem zq_le {N m T:Nat}(hm:0 < m):2*T≤zq N m↔T*m≤N:=by
 unfold zq
 have h:=Nat.div_add_mod N m
 have hl:=Nat.mod_lt N hm
 rw [←Nat.le_div_iff_mul_le hm]
 split<;>omega
theorem zq_eq {N m T:Nat}(hm:0 < m):zq N m=2*T↔N=T*m:=by
 unfold zq
 have h:=Nat.div_add_mod N m
 constructor
 ·intro e
  split at e
  ·rename_i h0
   have:N/m=T:=by omega
   rw [←h,this,h0,Nat.mul_comm];rfl
  ·omega
 ·intro e
  subst e
  rw [Nat.mul_mod_left,Nat.mul_div_cancel _ hm]
  simp
theorem zq_lt {N m T:Nat}(hm:0 < m):zq N m<2*T↔N<T*m:=by
 have:=zq_le (N:=N) (T:=T) hm
 omega
theorem zq_gt {N m T:Nat}(hm:0 < m):2*T<zq N m↔T*m<N:=by
 have h1:=zq_le (N:=N) (T:=T) hm
 have h2:=zq_eq (N:=N) (T:=T) hm
 constructor
 ·intro h
  have h3:=h1.1 (by omega)
  have h4:N≠T*m:=fun e=>by have:=h2.2 e;omega
  omega
 ·intro h
  have h3:=h1.2 (by omega)
  have h4:zq N m≠2*T:=fun e=>by have:=h2.1 e;omega
  omega
theorem zq_mono {N m N' m':Nat}(hm:0 < m)(hm':0 < m')(h:N*m'≤N'*m):zq N m≤zq N' m':=by
 rcases Nat.lt_or_ge (zq N' m') (zq N m)with hlt|hge
 ·exfalso
  by_cases hev:zq N m%2=0
  ·have e1:zq N m=2*(zq N m/2):=by omega
   have h1:=(zq_eq hm).1 e1
   have h2:zq N' m'<2*(zq N m/2):=by omega
   have h3:=(zq_lt hm').1 h2
   generalize zq N m/2=T at *
   have h4:N'*m<T*m'*m:=Nat.mul_lt_mul_of_pos_right h3 hm
   rw [h1]at h
   rw [Nat.mul_right_comm]at h4
   omega
  ·have e1:zq N m=2*(zq N m/2)+1:=by omega
   have h1:2*(zq N m/2)<zq N m:=by omega
   have h1:=(zq_gt hm).1 h1
   have h2:¬2*(zq N m/2)<zq N' m':=by omega
   have h3:¬_:=fun hh=>h2 ((zq_gt hm').2 hh)
   generalize zq N m/2=T at *
   have h4:N'*m≤T*m'*m:=Nat.mul_le_mul_right _ (by omega)
   have h5:T*m*m'<N*m':=Nat.mul_lt_mul_of_pos_right h1 hm'
   rw [Nat.mul_right_comm]at h5
   omega
 ·exact hge
theorem zq_congr {N m N' m':Nat}(hm:0 < m)(hm':0 < m')(h:N*m'=N'*m):zq N m=zq N' m':=
 Nat.le_antisymm (zq_mono hm hm' (Nat.le_of_eq h)) (zq_mono hm' hm (Nat.le_of_eq h.symm))
theorem rung_Z {Z u s:Nat}(hs:s < 9007199254740992)(hu:u≠0→4503599627370496≤s)(h1:4*(s*2^u)≤Z)(h2:Z < 4*((s+1)*2^u)) :
  rung (Z/4)=u*4503599627370496+s∧rv (rung (Z/4))=s*2^u∧rv (rung (Z/4)+1)=s*2^u+2^u:=by
 have hr:rung (Z/4)=u*4503599627370496+s:=rung_form hs hu (by omega) (by omega)
 rw [hr,rv_succ,rv_form u s (by omega) hu,ulp_form u s hs hu]
 exact⟨rfl,rfl,rfl⟩
theorem zr_zero (m:Nat):zr 0 m=0:=by simp [zr,zq]
theorem rung_zero:rung 0=0:=by simp [rung]
theorem rr_zero (d:Int)(neg:Bool):rr d neg 0=0:=by
 simp [rr,rung_zero,away,rv_zero]
theorem rnd_zero (d:Int)(neg:Bool):rnd d neg 0=0:=by
 simp [rnd,rr_zero,pat]
theorem mul_pow_succ (s u:Nat):s*2^(u+1)=2*(s*2^u):=by
 rw [Nat.pow_succ,←Nat.mul_assoc,Nat.mul_comm]
theorem div_bounds (n:Nat){g:Nat}(hg:0 < g):n/g*g≤n∧n<(n/g+1)*g:=by
 have h:=Nat.div_add_mod n g
 have hl:=Nat.mod_lt n hg
 rw [Nat.mul_comm]at h
 rw [Nat.add_mul,Nat.one_mul]
 omega
theorem scale_le {s m p q a b:Nat}(h:p+a=q+b):s*2^p≤m*2^q↔s*2^b≤m*2^a:=by
 rcases Nat.le_total b p with hb|hb
 ·obtain⟨c,rfl⟩:=Nat.exists_eq_add_of_le hb
  have e:q=a+c:=by omega
  subst e
  rw [Nat.pow_add,Nat.pow_add,←Nat.mul_assoc,←Nat.mul_assoc]
  exact Nat.mul_le_mul_right_iff (two_pow_pos c)
 ·obtain⟨c,rfl⟩:=Nat.exists_eq_add_of_le hb
  have e:a=q+c:=by omega
  subst e
  rw [Nat.pow_add,Nat.pow_add,←Nat.mul_assoc,←Nat.mul_assoc]
  exact(Nat.mul_le_mul_right_iff (two_pow_pos c)).symm
theorem scale_eq {s m p q a b:Nat}(h:p+a=q+b):s*2^p=m*2^q↔s*2^b=m*2^a:=by
 have h1:=scale_le (s:=s) (m:=m) h
 have h2:=scale_le (s:=m) (m:=s) (p:=q) (q:=p) (a:=b) (b:=a) (by omega)
 omega
theorem scale_lt {s m p q a b:Nat}(h:p+a=q+b):m*2^q<s*2^p↔m*2^a<s*2^b:=by
 have h1:=scale_le (s:=s) (m:=m) h
 omega
def zd (mag:Nat)(place:Int):Nat:=zq (mag*2^(place+1075).toNat) (2^(-(place+1075)).toNat)
theorem zd_of {mag:Nat}{place:Int}{A B:Nat}(h:(A:Int) - B=place+1075):zd mag place=zq (mag*2^A) (2^B):=by
 unfold zd
 refine zq_congr (two_pow_pos _) (two_pow_pos _) ?_
 rw [Nat.mul_assoc,Nat.mul_assoc,←Nat.pow_add,←Nat.pow_add]
 congr 2
 omega
theorem zq_one (N:Nat):zq N 1=2*N:=by simp [zq,Nat.mod_one]
theorem zd_units {mag:Nat}{place:Int}{S:Nat}(h:-1074≤place)(hS:S=mag*2^(place+1074).toNat):zd mag place=4*S:=by
 rw [zd_of (A:=(place+1074).toNat+1) (B:=0) (by omega),Nat.pow_zero,zq_one,hS,mul_pow_succ]
 omega
theorem zd_zero (place:Int):zd 0 place=0:=by simp [zd,zq]
theorem zd_rung {mag:Nat}{place L:Int}{a b s u:Nat}(hu0:(u:Int)=L+1074)(hab:(a:Int) - b=place - L)
  (hs:s<9007199254740992) (hu:u≠0→4503599627370496≤s) (h1:s*2^b≤mag*2^a) (h2:mag*2^a<(s+1)*2^b):
  rung (zd mag place/4)=u*4503599627370496+s∧rv (rung (zd mag place/4))=s*2^u∧rv (rung (zd mag place/4)+1)=s*2^u+2^u:=by
 unfold zd
 have hp:=two_pow_pos (-(place+1075)).toNat
 refine rung_Z hs hu ?_ ?_
 ·have:=(zq_le (N:=mag*2^(place+1075).toNat) (T:=s*2^(u+1)) hp).2 (by
   rw [Nat.mul_assoc,←Nat.pow_add]
   exact(scale_le (a:=a) (b:=b) (by omega)).2 h1)
  rw [mul_pow_succ]at this
  omega
 ·have:=(zq_lt (N:=mag*2^(place+1075).toNat) (T:=(s+1)*2^(u+1)) hp).2 (by
   rw [Nat.mul_assoc,←Nat.pow_add]
   exact(scale_lt (a:=a) (b:=b) (by omega)).2 h2)
  rw [mul_pow_succ]at this
  omega
theorem zd_exact {mag:Nat}{place L:Int}{a b s u:Nat}(hu0:(u:Int)=L+1074)(hab:(a:Int) - b=place - L) :
  zd mag place=4*(s*2^u)↔mag*2^a=s*2^b:=by
 unfold zd
 have hp:=two_pow_pos (-(place+1075)).toNat
 have h0:=zq_eq (N:=mag*2^(place+1075).toNat) (T:=s*2^(u+1)) hp
 have h:zq (mag*2^(place+1075).toNat) (2^(-(place+1075)).toNat)=2*(2*(s*2^u))↔mag*2^(place+1075).toNat=s*2^(u+1+(-(place+1075)).toNat):=by
  rw [←mul_pow_succ,h0,Nat.mul_assoc,←Nat.pow_add]
 have h3:=scale_eq (s:=s) (m:=mag) (p:=u+1+(-(place+1075)).toNat) (q:=(place+1075).toNat) (a:=a) (b:=b) (by omega)
 constructor
 ·intro e
  exact(h3.1 (h.1 (by omega)).symm).symm
 ·intro e
  have:=h.2 (h3.2 e.symm).symm
  omega
theorem zd_mid_lt {mag:Nat}{place L:Int}{a b s u:Nat}(hu0:(u:Int)=L+1074)(hab:(a:Int) - b=place - L) :
  2*(s*2^u+(s*2^u+2^u))<zd mag place↔(2*s+1)*2^b<2*(mag*2^a):=by
 unfold zd
 have hp:=two_pow_pos (-(place+1075)).toNat
 have h:=zq_gt (N:=mag*2^(place+1075).toNat) (T:=(2*s+1)*2^u) hp
 rw [Nat.mul_assoc,←Nat.pow_add]at h
 have h3:=scale_lt (s:=mag) (m:=2*s+1) (q:=u+(-(place+1075)).toNat) (p:=(place+1075).toNat) (a:=b) (b:=a+1) (by omega)
 have e1:2*(s*2^u+(s*2^u+2^u))=2*((2*s+1)*2^u):=by
  rw [Nat.add_mul,Nat.mul_assoc 2];omega
 have e2:mag*2^(a+1)=2*(mag*2^a):=by rw [Nat.pow_succ,←Nat.mul_assoc];omega
 rw [e1,h,h3,e2]
theorem zd_mid_eq {mag:Nat}{place L:Int}{a b s u:Nat}(hu0:(u:Int)=L+1074)(hab:(a:Int) - b=place - L) :
  zd mag place=2*(s*2^u+(s*2^u+2^u))↔2*(mag*2^a)=(2*s+1)*2^b:=by
 unfold zd
 have hp:=two_pow_pos (-(place+1075)).toNat
 have h:=zq_eq (N:=mag*2^(place+1075).toNat) (T:=(2*s+1)*2^u) hp
 rw [Nat.mul_assoc,←Nat.pow_add]at h
 have h3:=scale_eq (s:=mag) (m:=2*s+1) (q:=u+(-(place+1075)).toNat) (p:=(place+1075).toNat) (a:=b) (b:=a+1) (by omega)
 have e1:2*(s*2^u+(s*2^u+2^u))=2*((2*s+1)*2^u):=by
  rw [Nat.add_mul,Nat.mul_assoc 2];omega
 have e2:mag*2^(a+1)=2*(mag*2^a):=by rw [Nat.pow_succ,←Nat.mul_assoc];omega
 rw [e1,h,h3,e2]
theorem rr_form {mag:Nat}{place L:Int}{a b s u:Nat}(hu0:(u:Int)=L+1074)(hab:(a:Int) - b=place - L)
  (hs:s<9007199254740992) (hu:u≠0→4503599627370496≤s) (h1:s*2^b≤mag*2^a) (h2:mag*2^a<(s+1)*2^b) (d:Int) (neg up:Bool)
  (hup:up=if mag*2^a=s*2^b then false else if d=1 then !neg else if d=-1 then neg else
    decide ((2*s+1)*2^b<2*(mag*2^a))||(decide (2*(mag*2^a)=(2*s+1)*2^b)&&decide (s%2=1))):
  rr d neg (zd mag place)=if(d=1∧neg=true)∨(d=-1∧neg=false)then min (u*4503599627370496+s) (infR-1)else min (u*4503599627370496+s+up.toNat) infR:=by
 obtain⟨r1,r2,r3⟩:=zd_rung hu0 hab hs hu h1 h2
 have hodd:(u*4503599627370496+s)%2=s%2:=by omega
 have haw:away d neg (zd mag place)=up:=by
  unfold away
  rw [hup,r2,r3,r1,hodd]
  simp only [zd_exact hu0 hab,zd_mid_lt hu0 hab,zd_mid_eq hu0 hab]
 unfold rr
 rw [haw,r1]
 split
 ·rfl
 ·cases up<;>simp
theorem log2_bounds {n:Nat}(h:n≠0):2^n.log2≤n∧n<2^(n.log2+1):=(Nat.log2_eq_iff h).1 rfl
theorem cut_even (neg:Bool)(n drop:Nat) :
  Ieee.Toward.even.cut neg n drop=n/2^drop+(decide ((2*(n/2^drop)+1)*2^drop<2*n)||(decide (2*n=(2*(n/2^drop)+1)*2^drop)&&decide (n/2^drop%2=1))).toNat:=by
 have key:∀g:Nat,0<g→(n/g+(decide (g<2*(n%g))||(g==2*(n%g)&&n/g%2==1)).toNat)=
   n/g+(decide ((2*(n/g)+1)*g<2*n)||(decide (2*n=(2*(n/g)+1)*g)&&decide (n/g%2=1))).toNat:=by
  intro g hg
  have h:=Nat.div_add_mod n g
  have e:(2*(n/g)+1)*g=2*(g*(n/g))+g:=by
   rw [Nat.add_mul,Nat.mul_assoc,Nat.mul_comm (n/g) g];omega
  congr 2
  rw [e]
  generalize n%g=r at *
  generalize g*(n/g)=t at *
  have e1:decide (g<2*r)=decide (2*t+g<2*n):=decide_eq_decide.2 (by omega)
  have e2:(g==2*r)=decide (2*n=2*t+g):=by
   rw [Bool.eq_iff_iff];simp;omega
  have e3:(n/g%2==1)=decide (n/g%2=1):=by
   rw [Bool.eq_iff_iff];simp
  rw [e1,e2,e3]
 have hu:Ieee.Toward.even.cut neg n drop=n/(1 <<< min drop (n.log2+2))+(decide (1 <<< min drop (n.log2+2)<2*(n%(1 <<< min drop (n.log2+2))))||(1 <<< min drop (n.log2+2)==2*(n%(1 <<< min drop (n.log2+2)))&&n/(1 <<< min drop (n.log2+2))%2==1)).toNat:=rfl
 rw [hu,Nat.one_shiftLeft]
 by_cases hd:drop≤n.log2+2
 ·rw [Nat.min_eq_left hd]
  exact key _ (two_pow_pos _)
 ·rw [Nat.min_eq_right (by omega),key _ (two_pow_pos _)]
  have hn:n<2^(n.log2+1):=by
   by_cases h0:n=0
   ·subst h0;exact two_pow_pos _
   ·exact(log2_bounds h0).2
  have h1:2^(n.log2+2)=2*2^(n.log2+1):=by rw [Nat.pow_succ 2 (n.log2+1)];omega
  have h2:2^(n.log2+2)≤2^drop:=Nat.pow_le_pow_right (by omega) (by omega)
  rw [Nat.div_eq_of_lt (show n<2^(n.log2+2) by omega),Nat.div_eq_of_lt (show n<2^drop by omega)]
  simp only [Nat.mul_zero,Nat.zero_add,Nat.one_mul]
  have d1:decide (2^(n.log2+2)<2*n)=false:=decide_eq_false (by omega)
  have d2:decide (2^drop<2*n)=false:=decide_eq_false (by omega)
  rw [d1,d2]
  simp
theorem nearest_eq (neg:Bool)(mag:Nat)(place:Int):Ieee.double.nearest neg mag place=Ieee.double.word neg (rr 0 neg (zd mag place)):=by
 by_cases h0:mag=0
 ·subst h0
  rw [zd_zero,rr_zero]
  simp [Ieee.Format.nearest]
 ·have hu:Ieee.double.nearest neg mag place=Ieee.double.word neg (min ((max (place+mag.log2-52) (-1074) - -1074).toNat*4503599627370496+Ieee.Toward.even.cut neg (mag <<< (place-max (place+mag.log2-52) (-1074)).toNat) (max (place+mag.log2-52) (-1074)-place).toNat) infR):=by
   unfold Ieee.Format.nearest
   rw [if_neg h0]
   rfl
  rw [hu]
  congr 1
  obtain⟨l1,l2⟩:=log2_bounds h0
  generalize hL:max (place+mag.log2-52) (-1074)=L
  generalize hl:mag.log2=l at *
  have hL1:-1074≤L:=by omega
  have hL2:place+l-52≤L:=by omega
  have hL3:L=place+l-52∨(L=-1074∧place+l-52≤-1074):=by omega
  clear hL hu
  generalize ha:(place-L).toNat=a
  generalize hb:(L-place).toNat=b
  have hab:(a:Int)-b=place-L:=by omega
  rw [Nat.shiftLeft_eq,cut_even]
  generalize hs:mag*2^a/2^b=s
  have hpb:=two_pow_pos b
  have hpa:=two_pow_pos a
  obtain⟨h1,h2⟩:=div_bounds (mag*2^a) hpb
  rw [hs]at h1 h2
  have hs1:s<9007199254740992:=by
   have hx:mag*2^a<2^(53+b):=by
    have:mag*2^a<2^(l+1)*2^a:=Nat.mul_lt_mul_of_pos_right l2 hpa
    rw [←Nat.pow_add]at this
    exact Nat.lt_of_lt_of_le this (Nat.pow_le_pow_right (by omega) (by omega))
   rw [Nat.pow_add]at hx
   rw [←hs]
   exact(Nat.div_lt_iff_lt_mul hpb).2 hx
  have hu1:(L - -1074).toNat≠0→4503599627370496≤s:=by
   intro hne
   have hLe:L=place+l-52:=by omega
   have hx:2^(52+b)≤mag*2^a:=by
    have:2^l*2^a≤mag*2^a:=Nat.mul_le_mul_right _ l1
    rw [←Nat.pow_add]at this
    exact Nat.le_trans (Nat.pow_le_pow_right (by omega) (by omega)) this
   rw [Nat.pow_add]at hx
   rw [←hs]
   exact(Nat.le_div_iff_mul_le hpb).2 hx
  have hr:=rr_form (mag:=mag) (place:=place) (L:=L) (a:=a) (b:=b) (s:=s) (u:=(L - -1074).toNat) (by omega) hab hs1 hu1 h1 h2 0 neg _ rfl
  rw [hr]
  simp only [show ¬((0:Int)=1) by omega,show ¬((0:Int)=-1) by omega,false_and,or_self,if_false]
  rw [Nat.add_assoc]
  congr 3
  by_cases he:mag*2^a=s*2^b
  ·rw [if_pos he,he]
   have hn1:¬((2*s+1)*2^b<2*(s*2^b)):=by rw [Nat.add_mul,Nat.mul_assoc];omega
   have hn2:¬(2*(s*2^b)=(2*s+1)*2^b):=by rw [Nat.add_mul,Nat.mul_assoc];omega
   rw [decide_eq_false hn1,decide_eq_false hn2]
   simp
  ·rw [if_neg he]
def sg (b:Nat):Bool:=decide (9223372036854775808≤b)
def mg (b:Nat):Nat:=b%9223372036854775808
def sv (b:Nat):Int:=if sg b then -(rv (mg b):Int)else(rv (mg b):Int)
def key (b:Nat):Int:=if sg b then -(mg b:Int)else(mg b:Int)
def isNaN (b:Nat):Bool:=decide (infR<mg b)
def isInf (b:Nat):Bool:=decide (mg b=infR)
def isFin (b:Nat):Bool:=decide (mg b<infR)
theorem infR_val:infR=9218868437227405312:=rfl
theorem mg_lt (b:Nat):mg b<9223372036854775808:=Nat.mod_lt _ (by omega)
theorem split_pat {b:Nat}(hb:b < 18446744073709551616):b=if sg b then 9223372036854775808+mg b else mg b:=by
 unfold sg mg
 split<;>rename_i h<;>simp at h<;>omega
theorem word_eq (neg:Bool)(r:Nat):Ieee.double.word neg r=if neg then 9223372036854775808+r else r:=rfl
theorem sg_word {neg:Bool}{r:Nat}(hr:r < 9223372036854775808):sg (Ieee.double.word neg r)=neg:=by
 rw [word_eq];unfold sg
 cases neg<;>simp<;>omega
theorem mg_word {neg:Bool}{r:Nat}(hr:r < 9223372036854775808):mg (Ieee.double.word neg r)=r:=by
 rw [word_eq];unfold mg
 cases neg<;>simp<;>omega
theorem word_lt {neg:Bool}{r:Nat}(hr:r < 9223372036854775808):Ieee.double.word neg r<18446744073709551616:=by
 rw [word_eq]
 cases neg<;>simp<;>omega
theorem rr_le (d:Int)(neg:Bool)(Z:Nat):rr d neg Z≤infR:=by
 unfold rr infR
 split<;>omega
theorem rr_lt (d:Int)(neg:Bool)(Z:Nat):rr d neg Z<9223372036854775808:=by
 have:=rr_le d neg Z
 unfold infR at this
 omega
theorem rr_near (neg neg':Bool)(Z:Nat):rr 0 neg Z=rr 0 neg' Z:=by
 simp [rr,away]
def near (Z:Nat):Nat:=rr 0 false Z
theorem near_eq (neg:Bool)(Z:Nat):rr 0 neg Z=near Z:=rr_near _ _ _
theorem sg_bit {b:Nat}(hb:b < 18446744073709551616):(b/Ieee.double.signWeight%2==1)=sg b:=by
 have e:Ieee.double.signWeight=9223372036854775808:=rfl
 rw [e,Bool.eq_iff_iff]
 unfold sg
 simp
 omega
theorem read_fin {b:Nat}(hb:b < 18446744073709551616)(h:mg b < infR) :
  ∃m e,Ieee.double.read b=.number (sg b) m e∧-1074≤e∧m*2^(e+1074).toNat=rv (mg b):=by
 have e:Ieee.double.signWeight=9223372036854775808:=rfl
 have e1:Ieee.double.binade=4503599627370496:=rfl
 have e2:Ieee.double.infRung=9218868437227405312:=rfl
 have e3:Ieee.double.leastPlace=-1074:=rfl
 unfold Ieee.Format.read
 simp only [sg_bit hb]
 rw [e,e1,e2,e3]
 have hm:b%9223372036854775808=mg b:=rfl
 rw [hm]
 unfold infR at h
 generalize mg b=r at *
 by_cases h1:r<4503599627370496
 ·rw [if_pos h1]
  exact⟨r,-1074,rfl,by omega,by simp [rv,h1]⟩
 ·rw [if_neg h1,if_pos h]
  refine⟨_,_,rfl,by omega,?_⟩
  unfold rv
  rw [if_neg h1]
  congr 2
  omega
theorem read_inf {b:Nat}(hb:b < 18446744073709551616)(h:mg b=infR):Ieee.double.read b=.infinity (sg b):=by
 have e:Ieee.double.signWeight=9223372036854775808:=rfl
 have e1:Ieee.double.binade=4503599627370496:=rfl
 have e2:Ieee.double.infRung=9218868437227405312:=rfl
 unfold Ieee.Format.read
 simp only [sg_bit hb]
 rw [e,e1,e2]
 have hm:b%9223372036854775808=mg b:=rfl
 rw [hm,h]
 rfl
theorem read_nan {b:Nat}(hb:b < 18446744073709551616)(h:infR < mg b):Ieee.double.read b=.nan (sg b) (mg b-infR):=by
 have e:Ieee.double.signWeight=9223372036854775808:=rfl
 have e1:Ieee.double.binade=4503599627370496:=rfl
 have e2:Ieee.double.infRung=9218868437227405312:=rfl
 unfold Ieee.Format.read
 simp only [sg_bit hb]
 rw [e,e1,e2]
 have hm:b%9223372036854775808=mg b:=rfl
 rw [hm]
 unfold infR at *
 rw [if_neg (by omega),if_neg (by omega),if_neg (by omega)]
theorem signed_mul (neg:Bool)(m up c:Nat):Ieee.signed neg m up*(2^c:Nat)=if neg then -((m*2^(up+c):Nat):Int)else((m*2^(up+c):Nat):Int):=by
 unfold Ieee.signed
 rw [Nat.shiftLeft_eq,Nat.pow_add,←Nat.mul_assoc]
 cases neg
 ·simp
 ·simp only [if_true,Int.neg_mul,Int.natCast_mul]
theorem signed_units {b m:Nat}{e base:Int}(he:-1074≤base)(hbe:base≤e)(hv:m*2^(e+1074).toNat=rv (mg b)) :
  Ieee.signed (sg b) m (e-base).toNat*(2^(base+1074).toNat:Nat)=sv b:=by
 rw [signed_mul,show(e-base).toNat+(base+1074).toNat=(e+1074).toNat by omega,hv]
 rfl
def sumPat (neg:Bool)(S:Int):Nat:=if S=0 then Ieee.double.word neg 0 else Ieee.double.word (decide (S<0)) (near (4*S.natAbs))
theorem add_fin {x y:Nat}(hx:x < 18446744073709551616)(hy:y < 18446744073709551616)(fx:mg x < infR)(fy:mg y < infR) :
  Ieee.double.add x y=some (sumPat (sg x&&sg y) (sv x+sv y)):=by
 obtain⟨m,i,e1,hi,v1⟩:=read_fin hx fx
 obtain⟨n,j,e2,hj,v2⟩:=read_fin hy fy
 unfold Ieee.Format.add
 rw [e1,e2]
 simp only [Ieee.Datum.sum,Option.map_some]
 congr 1
 have s1:=signed_units (b:=x) (m:=m) (e:=i) (base:=min i j) (by omega) (by omega) v1
 have s2:=signed_units (b:=y) (m:=n) (e:=j) (base:=min i j) (by omega) (by omega) v2
 generalize hT:Ieee.signed (sg x) m (i-min i j).toNat+Ieee.signed (sg y) n (j-min i j).toNat=T
 have hS:T*(2^(min i j+1074).toNat:Nat)=sv x+sv y:=by
  rw [←hT,Int.add_mul,s1,s2]
 have hp:0<2^(min i j+1074).toNat:=two_pow_pos _
 generalize hP:2^(min i j+1074).toNat=p at *
 have hz:T=0↔sv x+sv y=0:=by
  rw [←hS]
  constructor
  ·intro h;rw [h,Int.zero_mul]
  ·intro h
   rcases Int.mul_eq_zero.1 h with h|h
   ·exact h
   ·omega
 have hneg:T<0↔sv x+sv y<0:=by
  rw [←hS]
  constructor
  ·intro h
   exact Int.mul_neg_of_neg_of_pos h (by omega)
  ·intro h
   rcases Int.lt_or_le T 0 with h'|h'
   ·exact h'
   ·have:=Int.mul_nonneg h' (show(0:Int)≤(p:Int) by omega)
    omega
 unfold sumPat Ieee.Format.write
 simp only
 rw [nearest_eq,near_eq]
 have hza:zd T.natAbs (min i j)=4*(sv x+sv y).natAbs:=by
  rw [zd_units (S:=(sv x+sv y).natAbs) (by omega)]
  rw [←hS,Int.natAbs_mul,Int.natAbs_natCast,hP]
 rw [hza]
 by_cases h0:sv x+sv y=0
 ·rw [if_pos (hz.2 h0),if_pos h0,h0]
  rfl
 ·rw [if_neg (fun h=>h0 (hz.1 h)),if_neg h0]
  congr 1
  exact decide_eq_decide.2 hneg
theorem mul_fin {x y:Nat}(hx:x < 18446744073709551616)(hy:y < 18446744073709551616)(fx:mg x < infR)(fy:mg y < infR) :
  Ieee.double.mul x y=some (Ieee.double.word (sg x ^^ sg y) (near (zq (rv (mg x)*rv (mg y)) (2^1073)))):=by
 obtain⟨m,i,e1,hi,v1⟩:=read_fin hx fx
 obtain⟨n,j,e2,hj,v2⟩:=read_fin hy fy
 unfold Ieee.Format.mul
 rw [e1,e2]
 simp only [Ieee.Datum.product,Option.map_some]
 congr 1
 unfold Ieee.Format.write
 simp only
 rw [nearest_eq,near_eq]
 congr 2
 rw [zd_of (A:=(i+1074).toNat+(j+1074).toNat) (B:=1073) (by omega),Nat.pow_add,←v1,←v2]
 congr 1
 rw [Nat.mul_mul_mul_comm]
theorem rv_key (b:Nat):∀c,(sv b<sv c↔key b<key c)∧(sv b=sv c↔key b=key c):=by
 intro c
 unfold sv key
 have h1:=rv_lt_iff (a:=mg b) (b:=mg c)
 have h2:=rv_lt_iff (a:=mg c) (b:=mg b)
 have h3:rv (mg b)=0↔mg b=0:=rv_eq_zero
 have h4:rv (mg c)=0↔mg c=0:=rv_eq_zero
 have h5:rv (mg b)=rv (mg c)↔mg b=mg c:=⟨rv_inj,fun h=>by rw [h]⟩
 split<;>split<;>constructor<;>omega
theorem compare_int (a b:Int):compare a b=if a<b then .lt else if a=b then .eq else .gt:=rfl
def ord (x y:Nat):Option Ordering:=if infR<mg x∨infR<mg y then none else some (if key x<key y then .lt else if key x=key y then .eq else .gt)
theorem compare_pos {a b:Int}{p:Nat}(hp:0 < p):compare a b=compare (a*(p:Int)) (b*(p:Int)):=by
 rw [compare_int,compare_int]
 have h1:a*(p:Int)<b*(p:Int)↔a<b:=Int.mul_lt_mul_right (by omega)
 have h2:a*(p:Int)=b*(p:Int)↔a=b:=Int.mul_eq_mul_right_iff (by omega)
 simp only [h1,h2]
theorem order_eq {x y:Nat}(hx:x < 18446744073709551616)(hy:y < 18446744073709551616):Ieee.double.order x y=ord x y:=by
 unfold Ieee.Format.order ord
 rcases Nat.lt_trichotomy (mg x) infR with fx|fx|fx
 ·obtain⟨m,i,e1,hi,v1⟩:=read_fin hx fx
  rcases Nat.lt_trichotomy (mg y) infR with fy|fy|fy
  ·obtain⟨n,j,e2,hj,v2⟩:=read_fin hy fy
   rw [e1,e2,if_neg (by omega)]
   simp only [Ieee.Datum.order]
   have s1:=signed_units (b:=x) (m:=m) (e:=i) (base:=min i j) (by omega) (by omega) v1
   have s2:=signed_units (b:=y) (m:=n) (e:=j) (base:=min i j) (by omega) (by omega) v2
   rw [compare_pos (two_pow_pos (min i j+1074).toNat),s1,s2,compare_int]
   obtain⟨k1,k2⟩:=rv_key x y
   simp only [k1,k2]
  ·rw [e1,read_inf hy fy,if_neg (by omega)]
   simp only [Ieee.Datum.order]
   congr 1
   unfold key
   rw [fy]
   cases sg x<;>cases sg y<;>simp<;>(try split)<;>(try split)<;>(first|rfl|omega)
  ·rw [e1,read_nan hy fy,if_pos (Or.inr fy)]
   rfl
 ·rcases Nat.lt_trichotomy (mg y) infR with fy|fy|fy
  ·obtain⟨n,j,e2,hj,v2⟩:=read_fin hy fy
   rw [read_inf hx fx,e2,if_neg (by omega)]
   simp only [Ieee.Datum.order]
   congr 1
   unfold key
   rw [fx]
   cases sg x<;>cases sg y<;>simp<;>(try split)<;>(try split)<;>(first|rfl|omega)
  ·rw [read_inf hx fx,read_inf hy fy,if_neg (by omega)]
   simp only [Ieee.Datum.order]
   unfold key
   rw [fx,fy]
   cases sg x<;>cases sg y<;>rfl
  ·rw [read_inf hx fx,read_nan hy fy,if_pos (Or.inr fy)]
   rfl
 ·rw [read_nan hx fx,if_pos (Or.inl fx)]
  rfl
def minf:Nat:=18442240474082181120
theorem minf_val:minf=18442240474082181120:=rfl
def ltB (x y:Nat):Bool:=!isNaN x&&!isNaN y&&decide (key x<key y)
def eqB (x y:Nat):Bool:=!isNaN x&&!isNaN y&&decide (key x=key y)
def leB (x y:Nat):Bool:=!isNaN x&&!isNaN y&&decide (key x≤key y)
theorem order_lt {x y:Nat}(hx:x < 18446744073709551616)(hy:y < 18446744073709551616):(Ieee.double.order x y==some .lt)=ltB x y:=by
 rw [order_eq hx hy]
 unfold ord ltB isNaN
 by_cases h1:infR<mg x
 ·simp [h1]
 ·by_cases h2:infR<mg y
  ·simp [h2]
  ·rw [if_neg (by omega)]
   by_cases h3:key x<key y
   ·simp [h1,h2,h3]
   ·by_cases h4:key x=key y
    ·simp [h1,h2,h4]
    ·simp [h1,h2,h3,h4]
theorem order_eqv {x y:Nat}(hx:x < 18446744073709551616)(hy:y < 18446744073709551616):(Ieee.double.order x y==some .eq)=eqB x y:=by
 rw [order_eq hx hy]
 unfold ord eqB isNaN
 by_cases h1:infR<mg x
 ·simp [h1]
 ·by_cases h2:infR<mg y
  ·simp [h2]
  ·rw [if_neg (by omega)]
   by_cases h3:key x<key y
   ·have h4:¬key x=key y:=by omega
    simp [h1,h2,h3,h4]
   ·by_cases h4:key x=key y
    ·simp [h1,h2,h4]
    ·simp [h1,h2,h3,h4]
theorem order_gt {x y:Nat}(hx:x < 18446744073709551616)(hy:y < 18446744073709551616):(Ieee.double.order x y==some .gt)=ltB y x:=by
 rw [order_eq hx hy]
 unfold ord ltB isNaN
 by_cases h1:infR<mg x
 ·simp [h1]
 ·by_cases h2:infR<mg y
  ·simp [h2]
  ·rw [if_neg (by omega)]
   by_cases h3:key x<key y
   ·have h4:¬key y<key x:=by omega
    simp [h1,h2,h3,h4]
   ·by_cases h4:key x=key y
    ·simp [h1,h2,h4]
    ·have h5:key y<key x:=by omega
     simp [h1,h2,h3,h4,h5]
theorem order_le {x y:Nat}(hx:x < 18446744073709551616)(hy:y < 18446744073709551616):(Ieee.double.order x y==some .lt||Ieee.double.order x y==some .eq)=leB x y:=by
 rw [order_lt hx hy,order_eqv hx hy]
 unfold ltB eqB leB
 cases isNaN x<;>cases isNaN y<;>simp
 by_cases h:key x≤key y
 ·rcases Int.lt_or_eq_of_le h with h1|h1
  ·simp [h1];omega
  ·simp [h1]
 ·have h1:¬key x<key y:=by omega
  have h2:¬key x=key y:=by omega
  simp [h,h1,h2]
theorem order_ge {x y:Nat}(hx:x < 18446744073709551616)(hy:y < 18446744073709551616):(Ieee.double.order x y==some .gt||Ieee.double.order x y==some .eq)=leB y x:=by
 rw [order_gt hx hy,order_eqv hx hy]
 unfold ltB eqB leB
 cases isNaN x<;>cases isNaN y<;>simp
 by_cases h:key y≤key x
 ·rcases Int.lt_or_eq_of_le h with h1|h1
  ·simp [h1];omega
  ·simp [h1]
 ·have h1:¬key y<key x:=by omega
  have h2:¬key x=key y:=by omega
  simp [h,h1,h2]
def pl (b:Nat):Nat:=if b=9223372036854775808 then 0 else b
def plN (b:Nat):Nat:=if b=9223372036854775808 then 0 else if isNaN b then 9221120237041090561 else b
theorem pl_lt {b:Nat}(h:b < 18446744073709551616):pl b<18446744073709551616:=by unfold pl;split<;>omega
theorem eq0 {b:Nat}(h:b < 18446744073709551616):eqB b 0=decide (b=0∨b=9223372036854775808):=by
 have h1:key 0=0:=rfl
 have h2:isNaN 0=false:=rfl
 unfold eqB
 rw [h1,h2]
 unfold isNaN key sg mg
 rw [infR_val]
 by_cases h3:b=0∨b=9223372036854775808
 ·rw [decide_eq_true h3]
  rcases h3 with rfl|rfl<;>rfl
 ·rw [decide_eq_false h3]
  by_cases h4:9223372036854775808≤b
  ·simp [h4];omega
  ·simp [h4];omega
def sndB (lo hi:Nat):Bool:=leB lo hi&&ltB lo infR&&ltB minf hi
theorem key_inf:key infR=9218868437227405312:=rfl
theorem key_minf:key minf=-9218868437227405312:=rfl
theorem nan_inf:isNaN infR=false:=rfl
theorem nan_minf:isNaN minf=false:=rfl
theorem key_le {b:Nat}(hn:isNaN b=false):key b≤9218868437227405312∧-9218868437227405312≤key b:=by
 unfold isNaN at hn
 have:=of_decide_eq_false hn
 rw [infR_val]at this
 unfold key
 split<;>omega
theorem key_eq_inf {b:Nat}(h:b < 18446744073709551616)(hn:isNaN b=false):key b=9218868437227405312↔b=infR:=by
 rw [infR_val]
 unfold key sg mg
 by_cases h2:9223372036854775808≤b
 ·simp [h2];omega
 ·simp [h2];omega
theorem key_eq_minf {b:Nat}(h:b < 18446744073709551616)(hn:isNaN b=false):key b=-9218868437227405312↔b=minf:=by
 rw [minf_val]
 unfold key sg mg
 by_cases h2:9223372036854775808≤b
 ·simp [h2];omega
 ·simp [h2];omega
def rdLo (lo hi:Nat):Nat:=if sndB lo hi then pl lo else infR
def rdHi (lo hi:Nat):Nat:=if sndB lo hi then pl hi else minf
theorem snd_nan {lo hi:Nat}(h:sndB lo hi=true):isNaN lo=false∧isNaN hi=false:=by
 unfold sndB leB at h
 revert h
 cases isNaN lo<;>cases isNaN hi<;>simp
end Go.Proofs.YtngdldcgkaplbaaGreat.Rn