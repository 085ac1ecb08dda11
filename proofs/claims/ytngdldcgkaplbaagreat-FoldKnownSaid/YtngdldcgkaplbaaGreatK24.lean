import Derived.Test.YtngdldcgkaplbaaGreatK23
import Derived.Conc.LeavingOf
import Derived.ProofKit
import Derived.Great.BuildSlice
set_option linter.unusedVariables false
set_option linter.unusedSimpArgs false
set_option maxHeartbeats 40000000
set_option maxRecDepth 100000
namespace Go.Proofs.YtngdldcgkaplbaaGreat.Fd
open Go Go.RowKit Go.Conc Nm Rn
open Gt hiding Sm
open Lk
theorem arr45 (T:Array Value)(h:T.size=45):∃y0 y1 y2 y3 y4 y5 y6 y7 y8 y9 y10 y11 y12 y13 y14 y15 y16 y17 y18 y19 y20 y21 y22 y23 y24 y25 y26 y27 y28 y29 y30 y31 y32 y33 y34 y35 y36 y37 y38 y39 y40 y41 y42 y43 y44:Value,T=#[y0,y1,y2,y3,y4,y5,y6,y7,y8,y9,y10,y11,y12,y13,y14,y15,y16,y17,y18,y19,y20,y21,y22,y23,y24,y25,y26,y27,y28,y29,y30,y31,y32,y33,y34,y35,y36,y37,y38,y39,y40,y41,y42,y43,y44]:=by
 obtain⟨l⟩:=T
 rcases l with _|⟨y0,l⟩
 ·exact absurd h (by simp)
 rcases l with _|⟨y1,l⟩
 ·exact absurd h (by simp)
 rcases l with _|⟨y2,l⟩
 ·exact absurd h (by simp)
 rcases l with _|⟨y3,l⟩
 ·exact absurd h (by simp)
 rcases l with _|⟨y4,l⟩
 ·exact absurd h (by simp)
 rcases l with _|⟨y5,l⟩
 ·exact absurd h (by simp)
 rcases l with _|⟨y6,l⟩
 ·exact absurd h (by simp)
 rcases l with _|⟨y7,l⟩
 ·exact absurd h (by simp)
 rcases l with _|⟨y8,l⟩
 ·exact absurd h (by simp)
 rcases l with _|⟨y9,l⟩
 ·exact absurd h (by simp)
 rcases l with _|⟨y10,l⟩
 ·exact absurd h (by simp)
 rcases l with _|⟨y11,l⟩
 ·exact absurd h (by simp)
 rcases l with _|⟨y12,l⟩
 ·exact absurd h (by simp)
 rcases l with _|⟨y13,l⟩
 ·exact absurd h (by simp)
 rcases l with _|⟨y14,l⟩
 ·exact absurd h (by simp)
 rcases l with _|⟨y15,l⟩
 ·exact absurd h (by simp)
 rcases l with _|⟨y16,l⟩
 ·exact absurd h (by simp)
 rcases l with _|⟨y17,l⟩
 ·exact absurd h (by simp)
 rcases l with _|⟨y18,l⟩
 ·exact absurd h (by simp)
 rcases l with _|⟨y19,l⟩
 ·exact absurd h (by simp)
 rcases l with _|⟨y20,l⟩
 ·exact absurd h (by simp)
 rcases l with _|⟨y21,l⟩
 ·exact absurd h (by simp)
 rcases l with _|⟨y22,l⟩
 ·exact absurd h (by simp)
 rcases l with _|⟨y23,l⟩
 ·exact absurd h (by simp)
 rcases l with _|⟨y24,l⟩
 ·exact absurd h (by simp)
 rcases l with _|⟨y25,l⟩
 ·exact absurd h (by simp)
 rcases l with _|⟨y26,l⟩
 ·exact absurd h (by simp)
 rcases l with _|⟨y27,l⟩
 ·exact absurd h (by simp)
 rcases l with _|⟨y28,l⟩
 ·exact absurd h (by simp)
 rcases l with _|⟨y29,l⟩
 ·exact absurd h (by simp)
 rcases l with _|⟨y30,l⟩
 ·exact absurd h (by simp)
 rcases l with _|⟨y31,l⟩
 ·exact absurd h (by simp)
 rcases l with _|⟨y32,l⟩
 ·exact absurd h (by simp)
 rcases l with _|⟨y33,l⟩
 ·exact absurd h (by simp)
 rcases l with _|⟨y34,l⟩
 ·exact absurd h (by simp)
 rcases l with _|⟨y35,l⟩
 ·exact absurd h (by simp)
 rcases l with _|⟨y36,l⟩
 ·exact absurd h (by simp)
 rcases l with _|⟨y37,l⟩
 ·exact absurd h (by simp)
 rcases l with _|⟨y38,l⟩
 ·exact absurd h (by simp)
 rcases l with _|⟨y39,l⟩
 ·exact absurd h (by simp)
 rcases l with _|⟨y40,l⟩
 ·exact absurd h (by simp)
 rcases l with _|⟨y41,l⟩
 ·exact absurd h (by simp)
 rcases l with _|⟨y42,l⟩
 ·exact absurd h (by simp)
 rcases l with _|⟨y43,l⟩
 ·exact absurd h (by simp)
 rcases l with _|⟨y44,l⟩
 ·exact absurd h (by simp)
 rcases l with _|⟨z,l⟩
 rotate_left
 ·exact absurd h (by simp)
 exact⟨_,_,_,_,_,_,_,_,_,_,_,_,_,_,_,_,_,_,_,_,_,_,_,_,_,_,_,_,_,_,_,_,_,_,_,_,_,_,_,_,_,_,_,_,_,rfl⟩
theorem arr75 (T:Array Value)(h:T.size=75):∃y0 y1 y2 y3 y4 y5 y6 y7 y8 y9 y10 y11 y12 y13 y14 y15 y16 y17 y18 y19 y20 y21 y22 y23 y24 y25 y26 y27 y28 y29 y30 y31 y32 y33 y34 y35 y36 y37 y38 y39 y40 y41 y42 y43 y44 y45 y46 y47 y48 y49 y50 y51 y52 y53 y54 y55 y56 y57 y58 y59 y60 y61 y62 y63 y64 y65 y66 y67 y68 y69 y70 y71 y72 y73 y74:Value,T=#[y0,y1,y2,y3,y4,y5,y6,y7,y8,y9,y10,y11,y12,y13,y14,y15,y16,y17,y18,y19,y20,y21,y22,y23,y24,y25,y26,y27,y28,y29,y30,y31,y32,y33,y34,y35,y36,y37,y38,y39,y40,y41,y42,y43,y44,y45,y46,y47,y48,y49,y50,y51,y52,y53,y54,y55,y56,y57,y58,y59,y60,y61,y62,y63,y64,y65,y66,y67,y68,y69,y70,y71,y72,y73,y74]:=by
 obtain⟨l⟩:=T
 rcases l with _|⟨y0,l⟩
 ·exact absurd h (by simp)
 rcases l with _|⟨y1,l⟩
 ·exact absurd h (by simp)
 rcases l with _|⟨y2,l⟩
 ·exact absurd h (by simp)
 rcases l with _|⟨y3,l⟩
 ·exact absurd h (by simp)
 rcases l with _|⟨y4,l⟩
 ·exact absurd h (by simp)
 rcases l with _|⟨y5,l⟩
 ·exact absurd h (by simp)
 rcases l with _|⟨y6,l⟩
 ·exact absurd h (by simp)
 rcases l with _|⟨y7,l⟩
 ·exact absurd h (by simp)
 rcases l with _|⟨y8,l⟩
 ·exact absurd h (by simp)
 rcases l with _|⟨y9,l⟩
 ·exact absurd h (by simp)
 rcases l with _|⟨y10,l⟩
 ·exact absurd h (by simp)
 rcases l with _|⟨y11,l⟩
 ·exact absurd h (by simp)
 rcases l with _|⟨y12,l⟩
 ·exact absurd h (by simp)
 rcases l with _|⟨y13,l⟩
 ·exact absurd h (by simp)
 rcases l with _|⟨y14,l⟩
 ·exact absurd h (by simp)
 rcases l with _|⟨y15,l⟩
 ·exact absurd h (by simp)
 rcases l with _|⟨y16,l⟩
 ·exact absurd h (by simp)
 rcases l with _|⟨y17,l⟩
 ·exact absurd h (by simp)
 rcases l with _|⟨y18,l⟩
 ·exact absurd h (by simp)
 rcases l with _|⟨y19,l⟩
 ·exact absurd h (by simp)
 rcases l with _|⟨y20,l⟩
 ·exact absurd h (by simp)
 rcases l with _|⟨y21,l⟩
 ·exact absurd h (by simp)
 rcases l with _|⟨y22,l⟩
 ·exact absurd h (by simp)
 rcases l with _|⟨y23,l⟩
 ·exact absurd h (by simp)
 rcases l with _|⟨y24,l⟩
 ·exact absurd h (by simp)
 rcases l with _|⟨y25,l⟩
 ·exact absurd h (by simp)
 rcases l with _|⟨y26,l⟩
 ·exact absurd h (by simp)
 rcases l with _|⟨y27,l⟩
 ·exact absurd h (by simp)
 rcases l with _|⟨y28,l⟩
 ·exact absurd h (by simp)
 rcases l with _|⟨y29,l⟩
 ·exact absurd h (by simp)
 rcases l with _|⟨y30,l⟩
 ·exact absurd h (by simp)
 rcases l with _|⟨y31,l⟩
 ·exact absurd h (by simp)
 rcases l with _|⟨y32,l⟩
 ·exact absurd h (by simp)
 rcases l with _|⟨y33,l⟩
 ·exact absurd h (by simp)
 rcases l with _|⟨y34,l⟩
 ·exact absurd h (by simp)
 rcases l with _|⟨y35,l⟩
 ·exact absurd h (by simp)
 rcases l with _|⟨y36,l⟩
 ·exact absurd h (by simp)
 rcases l with _|⟨y37,l⟩
 ·exact absurd h (by simp)
 rcases l with _|⟨y38,l⟩
 ·exact absurd h (by simp)
 rcases l with _|⟨y39,l⟩
 ·exact absurd h (by simp)
 rcases l with _|⟨y40,l⟩
 ·exact absurd h (by simp)
 rcases l with _|⟨y41,l⟩
 ·exact absurd h (by simp)
 rcases l with _|⟨y42,l⟩
 ·exact absurd h (by simp)
 rcases l with _|⟨y43,l⟩
 ·exact absurd h (by simp)
 rcases l with _|⟨y44,l⟩
 ·exact absurd h (by simp)
 rcases l with _|⟨y45,l⟩
 ·exact absurd h (by simp)
 rcases l with _|⟨y46,l⟩
 ·exact absurd h (by simp)
 rcases l with _|⟨y47,l⟩
 ·exact absurd h (by simp)
 rcases l with _|⟨y48,l⟩
 ·exact absurd h (by simp)
 rcases l with _|⟨y49,l⟩
 ·exact absurd h (by simp)
 rcases l with _|⟨y50,l⟩
 ·exact absurd h (by simp)
 rcases l with _|⟨y51,l⟩
 ·exact absurd h (by simp)
 rcases l with _|⟨y52,l⟩
 ·exact absurd h (by simp)
 rcases l with _|⟨y53,l⟩
 ·exact absurd h (by simp)
 rcases l with _|⟨y54,l⟩
 ·exact absurd h (by simp)
 rcases l with _|⟨y55,l⟩
 ·exact absurd h (by simp)
 rcases l with _|⟨y56,l⟩
 ·exact absurd h (by simp)
 rcases l with _|⟨y57,l⟩
 ·exact absurd h (by simp)
 rcases l with _|⟨y58,l⟩
 ·exact absurd h (by simp)
 rcases l with _|⟨y59,l⟩
 ·exact absurd h (by simp)
 rcases l with _|⟨y60,l⟩
 ·exact absurd h (by simp)
 rcases l with _|⟨y61,l⟩
 ·exact absurd h (by simp)
 rcases l with _|⟨y62,l⟩
 ·exact absurd h (by simp)
 rcases l with _|⟨y63,l⟩
 ·exact absurd h (by simp)
 rcases l with _|⟨y64,l⟩
 ·exact absurd h (by simp)
 rcases l with _|⟨y65,l⟩
 ·exact absurd h (by simp)
 rcases l with _|⟨y66,l⟩
 ·exact absurd h (by simp)
 rcases l with _|⟨y67,l⟩
 ·exact absurd h (by simp)
 rcases l with _|⟨y68,l⟩
 ·exact absurd h (by simp)
 rcases l with _|⟨y69,l⟩
 ·exact absurd h (by simp)
 rcases l with _|⟨y70,l⟩
 ·exact absurd h (by simp)
 rcases l with _|⟨y71,l⟩
 ·exact absurd h (by simp)
 rcases l with _|⟨y72,l⟩
 ·exact absurd h (by simp)
 rcases l with _|⟨y73,l⟩
 ·exact absurd h (by simp)
 rcases l with _|⟨y74,l⟩
 ·exact absurd h (by simp)
 rcases l with _|⟨z,l⟩
 rotate_left
 ·exact absurd h (by simp)
 exact⟨_,_,_,_,_,_,_,_,_,_,_,_,_,_,_,_,_,_,_,_,_,_,_,_,_,_,_,_,_,_,_,_,_,_,_,_,_,_,_,_,_,_,_,_,_,_,_,_,_,_,_,_,_,_,_,_,_,_,_,_,_,_,_,_,_,_,_,_,_,_,_,_,_,_,_,rfl⟩
theorem list_of_arr {α:Type}{a:Array α}{l:List α}(h:a=l.toArray):a.toList=l:=by rw [h]
theorem shares_of {q:Nat→Sq}{cs:Array Value}{W:Nat}(hs:cs.size=145*W)(h:∀ i,i < W→cs.extract (145*i) (145*i+145)=(shareC (q i)).toArray):cs=(sharesC ((List.range W).map q)).toArray:=by
 obtain⟨l⟩:=cs
 have hs:l.length=145*W:=by simpa using hs
 have key:∀k,k≤W→l.take (145*k)=sharesC ((List.range k).map q):=by
  intro k
  induction k with
  |zero=>intro _;rfl
  |succ k ih=>
   intro hk
   have e:=list_of_arr (h k (by omega))
   have e:(l.drop (145*k)).take 145=shareC (q k):=by
    rw [←e,List.extract_toArray,List.extract_eq_take_drop,show 145*k+145-145*k=145 by omega]
   rw [List.range_succ,List.map_append,show 145*(k+1)=145*k+145 by omega,List.take_add,ih (by omega),e]
   unfold sharesC
   rw [List.flatMap_append]
   simp
 have:=key W (Nat.le_refl _)
 rw [←hs,List.take_length]at this
 rw [←this]
theorem same_frz {v w:World}(h1:v.heap.size≤w.heap.size)(h:∀ b,b < v.heap.size→w.heap[b]?=(v.heap[b]?).map frzB):Same v w:=by
 refine⟨h1,fun p hp=>?_⟩
 unfold World.cell?
 rw [h p.block hp]
 cases v.heap[p.block]? with
 |none=>rfl
 |some o=>cases o<;>rfl
theorem callee_run {ff : FuncId} {fn : Func} (hf : P.funcs[ff]? = some fn) (hn : (fn.name == "runtime.NumGoroutine") = false) (hb : fn.body.isNone = false) (args : Array Value) (w : World) : (callFunc ff args).run P w = .ok (.enter ff args) w := by
 have e:=callFunc_runT hf hn hb args w #[]
 have:=Sem.runT_fst P (callFunc ff args) w #[]
 rw [e]at this
 exact this.symm
def ShD (ds:Nat→Td)(n:Nat)(acc:List Nat)(cs:Array Value):Prop:=cs=(shareC (did ds n acc)).toArray
section
variable {v:World} {n W:Nat} {ff:FuncId} {us:Array Value} {ds:Nat→Td}
theorem piece_ok (hg:gz≤v.heap.size)(hcf:∀ args w,(callFunc ff args).run P w=.ok (.enter ff args) w)(hd:∀ i,(ds i).Ok)(hone:∀ (i:Nat) (w:World),i < n→Same v w→Calls P ff (#[.int .i64 (i:Int)]++us) w (RetT (ds i).lo (ds i).hi (ds i).e w))
  (c:Cf) (h1:c.v=v) (h2:c.n=n) (h4:c.f=.func (.func ff) #[] us) (h5:c.Sh=ShD ds n):PieceOk c:=by
 intro acc x T v1 hx hx16 hT h12 hG ⟨ri,hwr,hva⟩
 have hcn:=c.hn
 rw [h2]at hx hcn
 obtain⟨cs,hs1,hs2,hs3⟩:=hG.sh
 rw [h5]at hs3
 have hs3:cs=_:=hs3
 subst hs3
 have hnb:=hG.nb
 have hob:=hG.ob
 have hold:=hG.old
 rw [h1]at hold hnb hob hs1
 rw [h2]at hnb
 rw [h4]at hob
 have hsz:v.heap.size+3≤v1.heap.size:=(Array.getElem?_eq_some_iff.1 hs1).1
 obtain⟨⟨hTs,t0,t3,t4⟩,t11⟩:=hT
 rw [h1]at t0 t3 t4
 refine tree_of_wp hFb hF Gt.hG nice_piece hwr hva (fun T v U h=>⟨h.1,⟨h.2.old,h.2.nb,h.2.ob,h.2.sh⟩⟩) (fun T v U h=>h.elim) fun U hU=>?_
 obtain⟨w0,hw0⟩:∃w0:World,w0={ tp v1 U with heap:=v1.heap.extract 0 (v.heap.size+2) }:=⟨_,rfl⟩
 have z0:w0.heap.size=v.heap.size+2:=by rw [hw0];show(v1.heap.extract 0 (v.heap.size+2)).size=_;rw [Array.size_extract];omega
 have b0:∀b,b<v.heap.size+2→w0.heap[b]?=v1.heap[b]?:=by
  intro b hb
  rw [hw0]
  show(v1.heap.extract 0 (v.heap.size+2))[b]?=_
  rw [Array.getElem?_extract,if_pos (by omega),Nat.zero_add]
 have hO:Own w0 [⟨v.heap.size+2,bog,shareC (did ds n acc)⟩] [] (tp v1 U):=by
  refine⟨⟨by rw [hw0],by rw [hw0],by rw [hw0],by rw [z0];show _≤v1.heap.size;omega,fun k hk=>(b0 k (by omega)).symm⟩,fun b hb=>?_,?_,fun s hs=>by cases hs⟩
  ·rcases List.mem_singleton.1 hb with rfl
   exact⟨by rw [z0];exact Nat.le_refl _,hs1,shareC_noU _⟩
  ·exact(List.nodup_cons.2 ⟨List.not_mem_nil,List.nodup_nil⟩)
 have cell_of:∀{b:Nat} {x:Value} {t:TypeId} {fz},b<v.heap.size+2→v1.heap[b]?=some (.cells #[x] t fz)→w0.cell? ⟨b,0,none⟩=some x:=by
  intro b x t fz hb h
  unfold World.cell?
  rw [b0 b hb,h]
  rfl
 have hONE:Hid (∀(i:Nat) (w:World),i<n→Ext w0 w→Calls P ff (#[.int .i64 (i:Int)]++us) w (RetT (ds i).lo (ds i).hi (ds i).e w)):=Lib.hid fun i w hi he=>by
  refine hone i w hi (same_frz (Nat.le_trans (by omega) he.size) fun b hb=>?_)
  rw [he.block b (by omega),b0 b (by omega),hold b hb]
 have hfin:∀(T1:Array Value) (w1:World),T1.size=45∧T1[0]?=some (.pointer (some ⟨v.heap.size+2,0,none⟩))∧T1[3]?=some (.pointer (some ⟨v.heap.size,0,none⟩))∧T1[4]?=some (.pointer (some ⟨v.heap.size+1,0,none⟩))∧T1[11]?=some (.chan (some (c.p.A+2)))∧Own w0 [⟨v.heap.size+2,bog,shareC ((pcs n x).foldl (fun q i=>q.take (ds i)) (did ds n acc))⟩] [] w1→GT c T1∧GW c (acc++[x]) w1:=by
  rintro T1 w1 ⟨k1,k2,k3,k4,k5,k6⟩
  refine⟨⟨⟨k1,by rw [h1];exact k2,by rw [h1];exact k3,by rw [h1];exact k4⟩,k5⟩,⟨fun b hb=>?_,?_,?_,?_⟩⟩
  ·rw [h1]at hb ⊢
   rw [k6.1.block b (by omega),b0 b (by omega),hold b hb]
  ·rw [h1,h2,k6.1.block _ (by omega),b0 _ (by omega),hnb]
  ·rw [h1,h4,k6.1.block _ (by omega),b0 _ (by omega),hob]
  ·refine⟨_,by rw [h1];exact(k6.2.1 _ (List.mem_singleton.2 rfl)).2.1,by simp [shareC_len],?_⟩
   rw [h5]
   show _=_
   rw [did_app]
 have c3:=cell_of (by omega) hnb
 have c4:=cell_of (by omega) hob
 have hq:=did_ok hd n acc
 obtain⟨A,hA⟩:∃A,A=c.p.A+2:=⟨_,rfl⟩
 rw [←hA]at t11 hfin
 have hgw:gz≤w0.heap.size:=by omega
 clear hw0 hold hnb hob hs1 cell_of b0 hwr hva hG
 obtain⟨y0,y1,y2,y3,y4,y5,y6,y7,y8,y9,y10,y11,y12,y13,y14,y15,y16,y17,y18,y19,y20,y21,y22,y23,y24,y25,y26,y27,y28,y29,y30,y31,y32,y33,y34,y35,y36,y37,y38,y39,y40,y41,y42,y43,y44,rfl⟩:=arr45 T hTs
 have e0:y0=.pointer (some ⟨v.heap.size+2,0,none⟩):=by simpa using t0
 have e3:y3=.pointer (some ⟨v.heap.size,0,none⟩):=by simpa using t3
 have e4:y4=.pointer (some ⟨v.heap.size+1,0,none⟩):=by simpa using t4
 have e11:y11=.chan (some A):=by simpa using t11
 have e12:y12=.tuple #[.int .i64 (x:Int),.bool true]:=by simpa using h12
 subst e0 e3 e4 e11 e12
 refine Code.wp_mono (fun e a w q=>?_) (piece_run (w0:=w0) n x (v.heap.size+2) v.heap.size (v.heap.size+1) _ _ _ _ _ _ _ _ _ _ _ _ _ _ _ _ _ _ _ _ _ _ _ _ _ _ _ _ _ _ _ _ _ _ _ _ _ _ _ _ _ hgw hcn hx (by omega) (by omega) c3 c4 hd hq hONE hcf hO)
 cases e with
 |normal=>exact hfin _ _ q
 |ret=>exact q.elim
 |_=>exact q.elim
def GpD (ds:Nat→Td)(n:Nat)(v:World)(x:Value)(v1:World):Prop:=∃g U,x=.pointer (some ⟨g,0,none⟩)∧Own (tp v U) [⟨g,128,shareC (sums ds (List.range n))⟩] [] v1
theorem tail_ok (hg:gz≤v.heap.size)(hn:n < 4611686018427387904)(hW2:W≤16)(hd:∀ i,(ds i).Ok)(T cs4:Array Value)(tk:Nat→List Nat)(v':World)(hTs:T.size=75)(h8:T[8]?=some (.slice (some ⟨v.heap.size,0,none⟩) W W))(h4:cs4.size=145*W)(hsh:∀ i,i < W→ShD ds n (tk i) (cs4.extract (145*i) (145*i+145)))
  (hp:List.Perm ((List.range W).flatMap tk) ((List.range ((n+15)/16)).map (16*·))) (hh:v'.heap=v.heap.push (.cells cs4 tS (0,0))) (ho:v'.os=v.os) (hu:v'.output=v.output) (hs:∃ri,WR P FF ri v' v'∧VA FF ri T T):
  Tr P (Lk.Left P nG (GpD ds n v)) (Lk.mk nG .normal T [] ([.code tailG]++[]) false) [catcher P] v':=by
 obtain⟨ri,hwr,hva⟩:=hs
 obtain⟨qs,hqs⟩:∃qs,qs=(List.range W).map fun i=>did ds n (tk i):=⟨_,rfl⟩
 have hcs:cs4=(sharesC qs).toArray:=by rw [hqs];exact shares_of h4 hsh
 have hql:qs.length=W:=by rw [hqs];simp
 have hqo:∀q∈qs,q.Ok:=fun q hq=>by
  rw [hqs]at hq
  obtain⟨i,_,rfl⟩:=List.mem_map.1 hq
  exact did_ok hd n _
 have hm:qs.foldl Sq.merge Sq.nil=sums ds (List.range n):=by
  rw [←merges_whole hn hp,hqs]
  unfold merges
  rw [List.foldl_map]
 refine tree_left_of_wp hFb hF Gt.hG at_G nice_tail hwr hva (fun x v1 U h=>?_) fun U hU=>?_
 ·obtain⟨g,U1,h1,h2⟩:=h
  exact⟨g,U,h1,own_tp (w0:=tp v U1) (T:=U) h2⟩
 ·have hO:Own (tp v U) [⟨v.heap.size,128,sharesC qs⟩] [] (tp v' U):=by
   refine⟨⟨ho,rfl,hu,by show v.heap.size≤v'.heap.size;rw [hh,Array.size_push];omega,fun k hk=>?_⟩,fun b hb=>?_,(List.nodup_cons.2 ⟨List.not_mem_nil,List.nodup_nil⟩),fun s hs=>by cases hs⟩
   ·have hk:k<v.heap.size:=hk
    show v'.heap[k]?=v.heap[k]?
    rw [hh,Array.getElem?_push_lt hk,Array.getElem?_eq_getElem hk]
   ·rcases List.mem_singleton.1 hb with rfl
    refine⟨Nat.le_refl _,?_,sharesC_noU _⟩
    show v'.heap[v.heap.size]?=_
    rw [hh,Array.getElem?_push_size,hcs]
  clear hsh hp hh ho hu hwr hva hqs
  obtain⟨y0,y1,y2,y3,y4,y5,y6,y7,y8,y9,y10,y11,y12,y13,y14,y15,y16,y17,y18,y19,y20,y21,y22,y23,y24,y25,y26,y27,y28,y29,y30,y31,y32,y33,y34,y35,y36,y37,y38,y39,y40,y41,y42,y43,y44,y45,y46,y47,y48,y49,y50,y51,y52,y53,y54,y55,y56,y57,y58,y59,y60,y61,y62,y63,y64,y65,y66,y67,y68,y69,y70,y71,y72,y73,y74,rfl⟩:=arr75 T hTs
  have e8:y8=.slice (some ⟨v.heap.size,0,none⟩) W W:=by simpa using h8
  subst e8
  refine Code.wp_mono (fun e a w q=>?_) (merge_run (w0:=tp v U) W v.heap.size _ _ _ _ _ _ _ _ _ _ _ _ _ _ _ _ _ _ _ _ _ _ _ _ _ _ _ _ _ _ _ _ _ _ _ _ _ _ _ _ _ _ _ _ _ _ _ _ _ _ _ _ _ _ _ _ _ _ _ _ _ _ _ _ _ _ _ _ _ _ _ _ _ _ hg hW2 hql hqo hO)
  have key:∀{x:Value} {w:World},(∃g,x=.pointer (some ⟨g,0,none⟩)∧Own (tp v U) [⟨g,128,shareC (qs.foldl Sq.merge Sq.nil)⟩,⟨v.heap.size,128,sharesC qs⟩] [] w)→GpD ds n v x w:=fun⟨g,k1,k2⟩=>⟨g,U,k1,by rw [←hm];exact k2.drop2⟩
  cases e with
  |normal=>exact⟨q.1,q.2.choose,q.2.choose_spec.1,key q.2.choose_spec.2⟩
  |ret=>exact⟨q.1,q.2.choose,q.2.choose_spec.1,key q.2.choose_spec.2⟩
  |panic ch=>exact q
  |outgrown=>exact q
  |_=>exact q
theorem job_ok (hg:gz≤v.heap.size)(hn:n < 4611686018427387904)(hW2:W≤16)(hcf:∀ args w,(callFunc ff args).run P w=.ok (.enter ff args) w)(hd:∀ i,(ds i).Ok)(hone:∀ (i:Nat) (w:World),i < n→Same v w→Calls P ff (#[.int .i64 (i:Int)]++us) w (RetT (ds i).lo (ds i).hi (ds i).e w)) :
  JobOk v n W (.func (.func ff) #[] us) (GpD ds n v):=by
 refine⟨ShD ds n,?_,fun acc cs h i x hx=>?_,fun c a1 a2 a3 a4 a5=>piece_ok hg hcf hd hone c a1 a2 a4 a5,fun T cs4 tk v' a1 a2 a3 a4 a5 a6 a7 a8 a9=>tail_ok hg hn hW2 hd T cs4 tk v' a1 a2 a3 a4 a5 a6 a7 a8 a9⟩
 ·show _=_
  rw [zShare_cells];rfl
 ·have h:cs=_:=h
  subst h
  have hx:(shareC (did ds n acc))[i]?=some x:=by simpa using hx
  exact List.all_eq_true.1 (shareC_plain _) x (List.mem_of_getElem? hx)
end
theorem calls_same {P:Program}{f:FuncId}{args:Array Value}{w:World}{R1 R2:Value→World→Prop}(h1:Calls P f args w fun | .returned x,w'=>R1 x w' | _,_=>False)(h2:Calls P f args w fun | .returned x,w'=>R2 x w' | _,_=>False):∃x w',R1 x w'∧R2 x w':=by
 obtain⟨e1,w1,fr1,q1,c1,f1,l1⟩:=h1 [catcher P]
 obtain⟨e2,w2,fr2,q2,c2,f2,l2⟩:=h2 [catcher P]
 cases e1 with
 |panicked c=>exact q1.elim
 |outgrown=>exact q1.elim
 |returned x1=>
 cases e2 with
 |panicked c=>exact q2.elim
 |outgrown=>exact q2.elim
 |returned x2=>
 have e0 : Extern.next "fmt's door of none" = none := by decide +kernel
 have stop:∀{fr fr':Frame} {x:Value} {w w':World} {k:Nat},fr.leaving P w (.returned x)→runN P k (lone fr [catcher P] w)=.next (lone fr' [catcher P] w')→k=0:=by
  intro fr fr' x w w' k hl hr
  cases k with
  |zero=>rfl
  |succ k=>
   rw [runN,step_leave_returned hl]at hr
   cases k with
   |zero=>
    injection hr with hr
    have:=congrArg Machine.gs hr
    injection this with this
    injection this with this _
    injection this with _ this
    cases this
   |succ k=>
    have:step P (lone ((catcher P).finish x) [] w)=.ended _ _:=step_lone_ended (by simp only [catcher,Frame.finish,stepG,stepG.exec,e0];rfl)
    dsimp only at hr
    rw [runN,this]at hr
    cases hr
 obtain⟨n1,h1⟩:=c1
 obtain⟨n2,h2⟩:=c2
 have same:lone fr1 [catcher P] w1=lone fr2 [catcher P] w2:=by
  rcases Nat.le_total n1 n2 with h|h
  ·obtain⟨k,rfl⟩:=Nat.exists_eq_add_of_le h
   rw [runN_add,h1]at h2
   have:=stop l1 h2
   subst this
   injection h2
  ·obtain⟨k,rfl⟩:=Nat.exists_eq_add_of_le h
   rw [runN_add,h2]at h1
   have:=stop l2 h1
   subst this
   injection h1 with h1
   exact h1.symm
 obtain⟨rfl,_,rfl⟩:=lone_inj same
 obtain⟨_,_,_,fn1,g1,r1⟩:=l1
 obtain⟨_,_,_,fn2,g2,r2⟩:=l2
 rw [g1]at g2
 injection g2 with g2
 subst g2
 rw [r1]at r2
 injection r2 with r2 _
 subst r2
 exact⟨x1,w1,q1,q2⟩
structure Job (v:World)(n:Nat)(ff:FuncId)(us:Array Value)(ds:Nat→Td):Prop where
 cf:∀args w,(callFunc ff args).run P w=.ok (.enter ff args) w
 ok:∀i,(ds i).Ok
 one:∀(i:Nat) (w:World),i<n→Same v w→Calls P ff (#[.int .i64 (i:Int)]++us) w (RetT (ds i).lo (ds i).hi (ds i).e w)
theorem Job.same {v:World}{n:Nat}{ff:FuncId}{us:Array Value}{ds es:Nat→Td}(h:Job v n ff us ds)(k:Job v n ff us es){i:Nat}(hi:i < n):ds i=es i:=by
 have hs:Same v v:=⟨Nat.le_refl _,fun _ _=>rfl⟩
 have h1:∀t:Td,∀{w:World},Calls P ff (#[.int .i64 (i:Int)]++us) w (RetT t.lo t.hi t.e w)→Calls P ff (#[.int .i64 (i:Int)]++us) w fun | .returned x,w'=>x=.tuple #[t.lo.v,t.hi.v,.bool t.e]|_,_=>False:=fun t w h=>h.mono fun e w' he=>by
  obtain⟨rfl,_⟩:=he
  rfl
 obtain⟨x,w',e1,e2⟩:=calls_same (h1 _ (h.one i v hi hs)) (h1 _ (k.one i v hi hs))
 rw [e1]at e2
 generalize ds i=d at *
 generalize es i=e at *
 obtain⟨⟨a1,a2,a3⟩,⟨a4,a5,a6⟩,a7⟩:=d
 obtain⟨⟨b1,b2,b3⟩,⟨b4,b5,b6⟩,b7⟩:=e
 simp only [Tm.v,Value.tuple.injEq,Array.mk.injEq,List.cons.injEq,Value.agg.injEq,Value.float.injEq,Value.bool.injEq,and_true,true_and]at e2
 simp only [Td.mk.injEq,Tm.mk.injEq]
 simp only [and_assoc]at e2 ⊢
 exact e2
theorem sums_congr {ds es:Nat→Td}:∀{l:List Nat},(∀i∈l,ds i=es i)→sums ds l=sums es l
 |[],_=>rfl
 |i::l,h=>by
  show(sq (ds i)).plus (sums ds l)=(sq (es i)).plus (sums es l)
  rw [h i (by simp),sums_congr fun j hj=>h j (by simp [hj])]
def GaF (args:Array Value)(v:World):Prop:=∃(n W:Nat) (ff:FuncId) (us:Array Value) (ds:Nat→Td),args=#[.int .i64 n,.int .i64 W,.func (.func ff) #[] us]∧1≤W∧W≤16∧n<4611686018427387904∧gz≤v.heap.size∧Job v n ff us ds
def GpF (args:Array Value)(v:World)(x:Value)(v1:World):Prop:=∃(n W:Nat) (ff:FuncId) (us:Array Value) (ds:Nat→Td),args=#[.int .i64 n,.int .i64 W,.func (.func ff) #[] us]∧Job v n ff us ds∧GpD ds n v x v1
theorem gpF_use {n W:Nat}{ff:FuncId}{us:Array Value}{ds:Nat→Td}{v v1:World}{x:Value}(h:GpF #[.int .i64 n,.int .i64 W,.func (.func ff) #[] us] v x v1)(k:Job v n ff us ds):GpD ds n v x v1:=by
 obtain⟨n',W',ff',us',ds',e,k',g,U,h1,h2⟩:=h
 simp only [Array.mk.injEq,List.cons.injEq,Value.int.injEq,true_and,Value.func.injEq,Fn.func.injEq,and_true]at e
 obtain⟨e1,e2,e3,e4⟩:=e
 have e1:n=n':=by omega
 subst e1 e3 e4
 refine⟨g,U,h1,?_⟩
 rw [sums_congr (ds:=ds) (es:=ds') fun i hi=>k.same k' (List.mem_range.1 hi)]
 exact h2
theorem _root_.Go.Proofs.YtngdldcgkaplbaaGreat.Lk.Tr.mono' {S S':Frame→List Frame→World→Prop}(hS:∀ fr cs v,S fr cs v→S' fr cs v){fr:Frame}{cs:List Frame}{v:World}(h:Tr P S fr cs v):Tr P S' fr cs v:=by
 induction h with
 |stop h=>exact .stop (hS _ _ _ h)
 |step f c x h k ih=>exact .step f c x h ih
theorem gather_any {Post:Value→World→Prop}:GatherOk P FF nG GaF GpF Post:=
 gatherOk fun args v h=>by
  obtain⟨n,W,ff,us,ds,rfl,hW1,hW2,hn,hg,hj⟩:=h
  refine⟨n,W,ff,us,rfl,hW1,hW2,hn,?_⟩
  obtain⟨Sh,j1,j2,j3,j4⟩:=job_ok hg hn hW2 hj.cf hj.ok hj.one
  exact⟨Sh,j1,j2,j3,fun T cs4 tk v' a1 a2 a3 a4 a5 a6 a7 a8 a9=>(j4 T cs4 tk v' a1 a2 a3 a4 a5 a6 a7 a8 a9).mono' fun fr cs v h=>by
   obtain⟨b1,b2,b3,fn,x,b4,b5,b6⟩:=h
   exact⟨b1,b2,b3,fn,x,b4,b5,n,W,ff,us,ds,rfl,hj,b6⟩⟩
def hvs:List Nat:=[92,85,32,33,34,36,35,37,22,24,25]
def fo:FB:=⟨fbb,fun x=>fbb x||hvs.contains x⟩
def GO (x:FuncId):Prop:=x=nG∨∃fn c,P.funcs[x]?=some fn∧fn.body=some c∧niceCode P fo c=true
theorem fo_val:∀f,fb.val f=true→fo.val f=true:=fun _ h=>h
theorem fo_call:∀f,fb.call f=true→fo.call f=true:=fun f h=>by
 show(fbb f||hvs.contains f)=true
 have h:fbb f=true:=h
 rw [h];rfl
theorem hGO:FineX P fo GO (·=nG):=fun f h=>h
theorem gg_go {f:FuncId}(h:GG f):GO f:=by
 obtain⟨fn,c,h1,h2,h3⟩:=h
 exact .inr ⟨fn,c,h1,h2,niceCode_mono fo_val fo_call c h3⟩
theorem fnOk_mono {G G':FuncId→Prop}(hg:∀ f,G f→G' f){f:FuncId}(h:FnOk P FF G f):FnOk P FF G' f:=fun r xs ys hv=>(h r xs ys hv).mono fun r1 h1 a b hn=>by
 cases hn with
 |value h=>exact .value h
 |skip=>exact .skip
 |enter hf h=>exact .enter (hg _ hf) h
theorem heavyOk {x : FuncId} {fn : Func} (hf : P.funcs[x]? = some fn) (hn : (fn.name == "runtime.NumGoroutine") = false) (h : (match fn.body with | some c => niceCode P fo c | none => false) = true) : FnOk P FF GO x := by
 cases hb:fn.body with
 |none=>rw [hb]at h;cases h
 |some c=>rw [hb]at h;exact fnOk_body (.inr ⟨fn,c,hf,hb,h⟩) hf hn (by rw [hb];rfl)
theorem hFO:∀f,FF f∨fo.call f=true→FnOk P FF GO f:=by
 intro f h
 have h:fbb f=true∨f∈hvs:=by
  rcases h with h|h
  ·exact .inl h
  ·have h:(fbb f||hvs.contains f)=true:=h
   rcases Bool.or_eq_true_iff.1 h with h|h
   ·exact .inl h
   ·exact .inr (List.contains_iff_mem.1 h)
 rcases h with h|h
 ·exact fnOk_mono (fun _=>gg_go) (hF f (.inl h))
 ·simp only [hvs,List.mem_cons,List.not_mem_nil,or_false]at h
  rcases h with rfl|rfl|rfl|rfl|rfl|rfl|rfl|rfl|rfl|rfl|rfl
  ·exact fnOk_body (.inl rfl) at_G (by kernel_rfl) (by kernel_rfl)
  ·exact heavyOk Tryz.func85 (by kernel_rfl) (by kernel_rfl)
  ·exact heavyOk Tryz.func32 (by kernel_rfl) (by kernel_rfl)
  ·exact heavyOk Tryz.func33 (by kernel_rfl) (by kernel_rfl)
  ·exact heavyOk Tryz.func34 (by kernel_rfl) (by kernel_rfl)
  ·exact heavyOk Tryz.func36 (by kernel_rfl) (by kernel_rfl)
  ·exact heavyOk Tryz.func35 (by kernel_rfl) (by kernel_rfl)
  ·exact heavyOk Tryz.func37 (by kernel_rfl) (by kernel_rfl)
  ·exact heavyOk Tryz.func22 (by kernel_rfl) (by kernel_rfl)
  ·exact heavyOk Tryz.func24 (by kernel_rfl) (by kernel_rfl)
  ·exact heavyOk Tryz.func25 (by kernel_rfl) (by kernel_rfl)
theorem shb_none:ShB (fun _=>False)=fun _=>False:=by
 funext l
 cases l<;>rfl
theorem law_wins {f:FuncId}{fn:Func}{c:Code}{args args':Array Value}{r:Map}{v w:World}{R:Value→World→Prop}{Post:Value→World→Prop}(hf:P.funcs[f]?=some fn)(hb:fn.body=some c)(hc:niceCode P fo c=true)(hi:P.inits.idxOf? f=none)(hw:WR P FF r v w)(ha:VA FF r args args')
  (ht:TrO P fb fo FF GG nG GaF GpF (Lk.Left P f R) (Frame.enter P f args .normal) [catcher P] v)
  (hP:∀r1 v1 w1 x x' d,R x v1→VR FF r1 x x'→Sg P FF r r1 v v1 w w1→Post x' (w1.at d)):Win P Post (solo (Go.Conc.G (Frame.enter P f args' .normal) []) w) #[]:=by
 have hL0:Leavers P #[] #[Go.Conc.G (Frame.enter P f args' .normal) []] (fun _=>0):=⟨fun i g hi hg=>by
  rcases i with _|i
  ·omega
  ·simp at hg,fun j _=>rfl⟩
 refine tro_wins (w0:=w) (r0:=r) (v0:=v) hFb hF Gt.hG (show ∀f,fo.val f=true→FF f from fun _ h=>h) hFO hGO (fun x h=>niceItem_mono fo_val fo_call x h) at_G (by kernel_rfl) (by kernel_rfl) gather_any ?_ hw ht r _ _ w #[Go.Conc.G (Frame.enter P f args' .normal) []] none #[] (fun _=>0) (fun _=>False) 0 ⟨?_,hw,⟨fun B h=>h.elim,fun B h=>h.elim⟩,rfl,hL0,Nat.zero_le _,by rw [shb_none];exact past_nil⟩ (Sg.refl hw)
 ·intro r1 fr cs v1 fr' cs' w1 gs sl t q Sb B hs hm hg
  refine beside_ends (D:=fun _ _ _=>False) (Shun:=ShB Sb) (B:=w1.heap.size) (n:=0) (fun _ _ _ h=>h.elim) hm.g0 hm.lv (hm.pa.mono hm.le) fun w2 hw2=>?_
  obtain⟨d,rfl⟩:=hw2
  obtain⟨x,x',fn',es,k1,k2,k3,k4,k5,k6,k7,k8,k9,k10⟩:=left_real (w:=w1.at d) hs hm.sk (hm.wr.of_heap rfl rfl)
  subst k5
  refine⟨rfl,x',seen P f es,?_,fun e he=>?_,hP r1 v1 w1 x x' d k1 k2 hg⟩
  ·simp only [Go.Conc.G,stepG,k6,unwind,k7,k4,k3,k9,doReturn,k8,hi,GStep.after,Array.append_empty,Bool.not_true,Bool.false_eq_true,if_false]
  ·exact evL_of (Sb:=Sb) (hm.wr.of_heap (v1:=v1) (w1:=w1.at d) rfl rfl) (hm.cl.at d) (k10 e (seen_mem P f es e (by simpa using he)))
 ·rw [enter_mk args hf hb,enter_mk args' hf hb,←ha.1]
  exact Tl.bot.sk (.mk (pre:=[.code c]) (ret:=false) (ha.append (VA.undefs _)) (by simp only [List.all_cons,List.all_nil,Bool.and_true];exact hc))
end Go.Proofs.YtngdldcgkaplbaaGreat.Fd
namespace Go.Proofs.YtngdldcgkaplbaaGreat.Fd
open Go Go.RowKit Go.Conc
open Gt hiding Sm
open Lk
theorem row0:(((begin P (fun _ _=>0) default).world.heap[0]?).bind Obj.row?).isSome=true:=by kernel_rfl
theorem glob1:P.globals.size=1:=by kernel_rfl
theorem shaped_low {w:World}(h:w.ShapedOpen P):gz≤w.heap.size:=by
 obtain⟨⟨z,t⟩,hz⟩:=Option.isSome_iff_exists.1 row0
 obtain⟨cs,hc,_⟩:=h.1 0 z t (by rw [glob1];decide) hz
 have:=(Array.getElem?_eq_some_iff.1 hc).1
 show P.globals.size≤_
 rw [glob1]
 omega
theorem own:ownKnob P.godebug=none:=by kernel_rfl
section
variable {H:Type} {enc:TypeId×Value→H}
theorem leaving_of {os:Os}{f:FuncId}{fn:Func}{s:ChangeSpec}{conds:List PathCond}(started:os.Started)(hfn:P.funcs[f]?=some fn)
  (witness:∃(w:World) (tape:Tape) (i:Input),w.os=os∧(w.forCall tape i).Shaped P∧i.vars=[]∧Input.okWide P (w.forCall tape i) .any w.heap.size f i∧s.pre6 enc P fn conds false (w.forCall tape i).memory i.args∧Assume.holds {} P (lone (Frame.enter P f i.args .normal) [] (w.forCall tape i)))
  (runs:∀(W:World) (base:Nat) (args:Array Value) (ds gs:List (DataW H)) (before:List MemPlace),gz≤W.heap.size→(∀(j:Nat) t v,fn.params[j]?=some t→args[j]?=some v→Value.okWide P W .any base t v)→DataW.Whole enc P fn.params.toList s.vars false W args.toList ds gs before →
    conds.all (PathCond.test P ⟨fn.params.toList,ds,s.plain.varTypes P,gs⟩)=true→(DataW.weightsEach P (fn.params.toList++s.plain.varTypes P) (ds++gs)).all (·≤reachBytes)=true →
    Win P (fun v W'=>s.post enc P fn false true false false W args v W') (solo (G (Frame.enter P f args .normal) []) W) #[]):
  ReturnsInLeavingWide {} Tryz.checked os f .any (s.pre6 enc P fn conds false) (s.post enc P fn false true false false):=by
 refine returnsInLeavingWide_of_good (C:=Tryz.checked) own started witness ?_
 intro w tape i _ hsh _ hok hpre _
 obtain⟨_,_,_,fn',hfn',_,_,_,_,hval⟩:=hok
 have e:fn'=fn:=Option.some.inj (hfn'.symm.trans hfn)
 subst e
 obtain⟨⟨ds,gs,before,hw,hc⟩,hz⟩:=hpre
 have hw':=DataW.Whole.of_heap (w':=w.forCall tape i) (by rfl) hw
 obtain⟨M,last,o,w',t',h1,h2,h3,h4⟩:=runs (w.forCall tape i) w.heap.size i.args ds gs before (shaped_low hsh) hval hw' hc (hz.weights hw)
 exact⟨M,last,o,w',t',h1,h2,h3,h4.mono fun v hp=>ChangeSpec.post_blind hp⟩
end
theorem wr_none {w:World}(hg:gz≤w.heap.size):WR P FF (fun _=>none) w w:=⟨(fun b B s h=>by cases h),⟨hg,hg⟩,(fun b B s h=>by cases h),(fun b b' B s s' o o' h=>by cases h)⟩
theorem below_none {r1:Map}{v v1 w w1:World}(h:Sg P FF (fun _=>none) r1 v v1 w w1)(d:Nat):Below w.heap.size w (w1.at d):=by
 refine⟨h.rest.2.1,h.rest.1,h.rest.2.2,h.rsize,fun k hk=>?_⟩
 have hx:=Array.getElem?_eq_getElem hk
 show w1.heap[k]?=w.heap[k]?
 rcases h.rkeep k _ hx with ⟨cs,e,fz,cs1,e1,h2,h3,h4⟩|h2
 ·rw [hx,e1,h2]
  have:cs1=cs:=by
   apply Array.ext_getElem?
   intro o
   exact h4 o fun⟨b,s,o0,hb,_⟩=>by cases hb
  rw [this]
 ·rw [hx,h2]
end Go.Proofs.YtngdldcgkaplbaaGreat.Fd
namespace Go.Proofs.YtngdldcgkaplbaaGreat.Fd
open Go Go.RowKit Go.Conc Nm Rn
open Gt hiding Sm
open Lk
def OwnU (w0:World)(L:List Bx)(W:List Sw)(v:World):Prop:=Own (Lk.tp w0 v.tape) L W v
section
variable {w0 v w:World} {L L':List Bx} {W:List Sw}
theorem OwnU.start (v:World):OwnU v [] [] v:=Own.start v
theorem OwnU.at (h:OwnU w0 L W v)(T:Tape):Own (Lk.tp w0 T) L W (Lk.tp v T):=own_tp (w0:=Lk.tp w0 v.tape) (T:=T) h
theorem OwnU.tp (h:OwnU w0 L W v)(T:Tape):OwnU w0 L W (Lk.tp v T):=h.at T
theorem toU {T:Tape}(h:Own (Lk.tp w0 T) L W w):OwnU w0 L W w:=by
 have e:w.tape=T:=h.1.tape
 unfold OwnU
 rw [e]
 exact h
theorem OwnU.sub (h:OwnU w0 L W v)(hs:L'.Sublist L):OwnU w0 L' W v:=Own.sub h hs
theorem OwnU.cell (h:OwnU w0 L W v)(i:Nat){b:Bx}(hi:L[i]?=some b)(j:Nat):v.cell? ⟨b.g,j,none⟩=b.cs[j]?:=Own.cell h i hi j
theorem OwnU.cells (h:OwnU w0 L W v):BC v L:=Own.cells h
theorem OwnU.size (h:OwnU w0 L W v):w0.heap.size≤v.heap.size:=h.1.size
theorem Own.on {L2:List Bx}(h:Own w0 L W v)(k:Own v L2 [] w):Own w0 (L2++L) W w:=by
 refine⟨h.1.trans k.1,fun b hb=>?_,?_,fun s hs=>(h.2.2.2 s hs).ext k.1⟩
 ·rcases List.mem_append.1 hb with hb|hb
  ·obtain⟨h1,h2,h3⟩:=k.2.1 b hb
   exact⟨Nat.le_trans h.1.size h1,h2,h3⟩
  ·obtain⟨h1,h2,h3⟩:=h.2.1 b hb
   exact⟨h1,h2.ext k.1,h3⟩
 ·rw [List.map_append,List.nodup_append]
  refine⟨k.2.2.1,h.2.2.1,fun x hx y hy e=>?_⟩
  obtain⟨b,hb,rfl⟩:=List.mem_map.1 hx
  obtain⟨c,hc,rfl⟩:=List.mem_map.1 hy
  have h1:=(k.2.1 b hb).1
  have h2:=(h.2.1 c hc).2.1.lt
  omega
theorem OwnU.on {L2:List Bx}{U:Tape}(h:OwnU w0 L W v)(k:Own (Lk.tp v U) L2 [] w):OwnU w0 (L2++L) W w:=toU (Own.on (h.at U) k)
end
section
variable (S:Frame→List Frame→World→Prop)
abbrev WpF (c:Code)(Q:Exit→Act→World→Prop)(a:Act)(v:World):Prop:=WpO P fb fo FF GG nG GaF GpF S c Q a v
abbrev CallsF (f:FuncId)(args:Array Value)(v:World)(R:Value→World→Prop):Prop:=CallsO P fb fo FF GG nG GaF GpF S f args v R
def WlL (ops:Array Oper)(Q:Exit→Act→World→Prop):List Oper→Act→World→Prop
 |[],a,v=>Q .normal a v
 |o::rest,a,v=>if Region.wanted o (yielded ops a.tmps)then GatherO fo nG GaF GpF o a v (WlL ops Q rest)∨(∀T,Lk.Alike 0 v.drawn T v.tape→NextO P fb fo FF GG nG GaF GpF S o a (WlL ops Q rest) ((execOp a.eval o).run P (Lk.tp v T)))else WlL ops Q rest (a.put o.dst undef) v
end
section
variable {S:Frame→List Frame→World→Prop} {ops:Array Oper} {Q Q':Exit→Act→World→Prop} {a:Act} {v w0:World} {rest:List Oper} {o:Oper} {L:List Bx} {W:List Sw} {T ty:TypeId} {ps:String} {af:Array Edge} {x y:Operand} {d:Tmp}
theorem wlO_of_L:∀(l:List Oper) (k:Nat),(∀j,l[j]?=ops[k+j]?)→∀{a v},WlL S ops Q l a v→WlO P fb fo FF GG nG GaF GpF S ops Q (List.range' k l.length) a v
 |[],_,_,_,_,h=>h
 |o::l,k,hl,a,v,h=>by
  have h0:ops[k]?=some o:=by simpa using (hl 0).symm
  have ih:∀{a v},WlL S ops Q l a v→WlO P fb fo FF GG nG GaF GpF S ops Q (List.range' (k+1) l.length) a v:=wlO_of_L l (k+1) (fun j=>by have:=hl (j+1);simpa [Nat.add_assoc,Nat.add_comm 1 j]using this)
  have nx:∀{r:Result Next} {K K':Act→World→Prop},(∀a w,K a w→K' a w)→NextO P fb fo FF GG nG GaF GpF S o a K r→NextO P fb fo FF GG nG GaF GpF S o a K' r:=by
   intro r K K' hk hn
   cases r with
   |halt x w=>exact hn.elim
   |ok n w=>
    cases n with
    |value x=>exact hk _ _ hn
    |skip=>exact hk _ _ hn
    |enter f args=>exact⟨hn.1,fun c0 cs b1 b2 b3 b4=>hn.2 c0 cs b1 b2 b3 fun x v1 hx=>b4 x v1 (hk _ _ hx)⟩
    |_=>exact hn.elim
  rw [List.length_cons,List.range'_succ]
  refine⟨o,h0,?_⟩
  unfold WlL at h
  split at h
  ·rename_i hw
   rw [if_pos hw]
   rcases h with ⟨xs,ats,b1,b2,b3⟩|h
   ·exact .inl ⟨xs,ats,b1,b2,fun T hT=>⟨(b3 T hT).1,fun x v1 hx=>ih ((b3 T hT).2 x v1 hx)⟩⟩
   ·exact .inr fun T hT=>nx (fun a w hw=>ih hw) (h T hT)
  ·rename_i hw
   rw [if_neg hw]
   exact ih h
theorem wpF_region {id:Nat}{l:List Oper}(h:WlL S l.toArray Q l a v):WpF S (.region id l.toArray false) Q a v:=
 wpo_region (by rw [List.range_eq_range',List.size_toArray];exact wlO_of_L l 0 (fun j=>by simp) h)
theorem wlL_nil (h:Q .normal a v):WlL S ops Q [] a v:=h
theorem wlL_op (hg:o.guard=none)(h:∀ T,Lk.Alike 0 v.drawn T v.tape→NextO P fb fo FF GG nG GaF GpF S o a (WlL S ops Q rest) ((execOp a.eval o).run P (Lk.tp v T))):WlL S ops Q (o::rest) a v:=by
 unfold WlL
 rw [if_pos (by simp [Region.wanted,hg])]
 exact .inr h
theorem NextO.at_ {K:Act→World→Prop}{r r':Result Next}(e:r'=r)(h:NextO P fb fo FF GG nG GaF GpF S o a K r):NextO P fb fo FF GG nG GaF GpF S o a K r':=by rw [e];exact h
@[go_sem] theorem nextO_value {K:Act→World→Prop} {x:Value} {w:World}:NextO P fb fo FF GG nG GaF GpF S o a K (.ok (.value x) w)=K (a.put o.dst x) w:=rfl
@[go_sem] theorem nextO_skip {K:Act→World→Prop} {w:World}:NextO P fb fo FF GG nG GaF GpF S o a K (.ok .skip w)=K (a.put o.dst undef) w:=rfl
@[go_sem] theorem nextO_enter {K:Act→World→Prop} {f:FuncId} {args:Array Value} {w:World}:NextO P fb fo FF GG nG GaF GpF S o a K (.ok (.enter f args) w)=(f≠nG∧CallsF S f args w fun x w'=>K (a.put o.dst x) w'):=rfl
theorem wlL_any (hg:o.guard=none)(hO:OwnU w0 L W v)(h:∀ (K:Act→World→Prop),(∀ a w,WlL S ops Q rest a w→K a w)→∀ v',OwnU w0 L W v'→NextO P fb fo FF GG nG GaF GpF S o a K ((execOp a.eval o).run P v')):WlL S ops Q (o::rest) a v:=
 wlL_op hg fun T hT=>h _ (fun _ _ h=>h) _ (hO.tp T)
theorem wlL_anyW (hw:Region.wanted o (yielded ops a.tmps)=true)(hO:OwnU w0 L W v)(h:∀ (K:Act→World→Prop),(∀ a w,WlL S ops Q rest a w→K a w)→∀ v',OwnU w0 L W v'→NextO P fb fo FF GG nG GaF GpF S o a K ((execOp a.eval o).run P v')):WlL S ops Q (o::rest) a v:=by
 unfold WlL
 rw [if_pos hw]
 exact .inr fun T hT=>h _ (fun _ _ h=>h) _ (hO.tp T)
theorem wlL_skip (hw:Region.wanted o (yielded ops a.tmps)=false)(h:WlL S ops Q rest (a.put o.dst undef) v):WlL S ops Q (o::rest) a v:=by
 unfold WlL
 rw [if_neg (by rw [hw];simp)]
 exact h
theorem wlL_box (hO:OwnU w0 L W v){cs:List Value}(hcs:(a.eval x).cells=cs.toArray)(hu:cs.any isU=false)(h:∀ g w',OwnU w0 (⟨g,T,cs⟩::L) W w'→WlL S ops Q rest (a.put (some d) (.pointer (some ⟨g,0,none⟩))) w') :
  WlL S ops Q ({ dst:=some d,op:=.box T x,type:=ty,pos:=ps,after:=af,guard:=none }::rest) a v:=
 wlL_op rfl fun U hU=>NextO.at_ (r:=.ok (.value _) _) (by simp [execOp,Instr.box,newVar,newRow,hcs]) (h _ _ (toU ((hO.at U).alloc T cs hu)))
theorem wlL_alloc (hO:OwnU w0 L W v){z:Value}(hz:∀ w,(zeroValue T).run P w=.ok z w){cs:List Value}(hcs:z.cells=cs.toArray)(hu:cs.any isU=false)(h:∀ g w',OwnU w0 (⟨g,T,cs⟩::L) W w'→WlL S ops Q rest (a.put (some d) (.pointer (some ⟨g,0,none⟩))) w') :
  WlL S ops Q ({ dst:=some d,op:=.alloc T,type:=ty,pos:=ps,after:=af,guard:=none }::rest) a v:=
 wlL_op rfl fun U hU=>NextO.at_ (r:=.ok (.value _) _) (by simp [execOp,Instr.alloc,newVar,newRow,hcs,hz]) (h _ _ (toU ((hO.at U).alloc T cs hu)))
theorem wlL_store (hO:OwnU w0 L W v)(i:Nat){b:Bx}(hb:L[i]?=some b){off:Nat}(hx:a.eval x=.pointer (some ⟨b.g,off,none⟩)){vs:List Value}(hvs:(a.eval y).cells=vs.toArray)
  (hsz:∀w,(sizeOf T).run P w=.ok vs.length w) (h1:vs.all Value.oneCell'=true) (hu:vs.any isU=false) (hle:Nat.ble (off+vs.length) b.cs.length=true)
  (h:∀w',OwnU w0 (L.set i ⟨b.g,b.t,spl b.cs off vs⟩) W w'→WlL S ops Q rest a w'):
  WlL S ops Q ({ dst:=none,op:=.store T x y,type:=ty,pos:=ps,after:=af,guard:=none }::rest) a v:=
 wlL_op rfl fun U hU=>by
  have hO':=hO.at U
  have hB:=(hO'.2.1 b (List.mem_of_getElem? hb)).2.1
  have:=run_storeCells (P:=P) vs (Lk.tp v U) b.g off 0 b.t b.cs hB (by have:=Nat.le_of_ble_eq_true hle;omega) h1
  exact NextO.at_ (r:=.ok .skip _) (by simp [execOp,Instr.storeAt,hx,Instr.sureAddr,storeVar,hvs,hsz,this]) (h _ (toU (hO'.setN vs i hb off hu)))
theorem wlL_put {g:Nat}{U:TypeId}{cs vs:List Value}(M:List Bx)(hO:OwnU w0 (M++⟨g,U,cs⟩::L) W v)(hx:a.eval x=.pointer (some ⟨g,0,none⟩))(hvs:(a.eval y).cells=vs.toArray)(hsz:∀ w,(sizeOf T).run P w=.ok vs.length w)(h1:vs.all Value.oneCell'=true)(hu:vs.any isU=false)(hle:cs.length=vs.length)(h:∀ w',OwnU w0 (M++⟨g,U,vs⟩::L) W w'→WlL S ops Q rest a w'):WlL S ops Q ({ dst:=none,op:=.store T x y,type:=ty,pos:=ps,after:=af,guard:=none }::rest) a v:=
 wlL_store hO M.length (b:=⟨g,U,cs⟩) (by simp) hx hvs hsz h1 hu (by rw [Nat.zero_add];exact Nat.ble_eq_true_of_le (Nat.le_of_eq hle.symm)) fun w' hO'=>h w' (by
  rw [show(⟨g,U,spl cs 0 vs⟩:Bx)=⟨g,U,vs⟩ by rw [spl_all hle]]at hO'
  simpa using hO')
theorem wlL_put0 {g:Nat}{U:TypeId}{cs vs:List Value}(hO:OwnU w0 (⟨g,U,cs⟩::L) W v)(hx:a.eval x=.pointer (some ⟨g,0,none⟩))(hvs:(a.eval y).cells=vs.toArray)(hsz:∀ w,(sizeOf T).run P w=.ok vs.length w)(h1:vs.all Value.oneCell'=true)(hu:vs.any isU=false)(hle:cs.length=vs.length)(h:∀ w',OwnU w0 (⟨g,U,vs⟩::L) W w'→WlL S ops Q rest a w'):WlL S ops Q ({ dst:=none,op:=.store T x y,type:=ty,pos:=ps,after:=af,guard:=none }::rest) a v:=wlL_put [] hO hx hvs hsz h1 hu hle h
theorem wlL_put1 {g:Nat}{U:TypeId}{cs vs:List Value}{b:Bx}(hO:OwnU w0 (b::⟨g,U,cs⟩::L) W v)(hx:a.eval x=.pointer (some ⟨g,0,none⟩))(hvs:(a.eval y).cells=vs.toArray)(hsz:∀ w,(sizeOf T).run P w=.ok vs.length w)(h1:vs.all Value.oneCell'=true)(hu:vs.any isU=false)(hle:cs.length=vs.length)(h:∀ w',OwnU w0 (b::⟨g,U,vs⟩::L) W w'→WlL S ops Q rest a w'):WlL S ops Q ({ dst:=none,op:=.store T x y,type:=ty,pos:=ps,after:=af,guard:=none }::rest) a v:=wlL_put [b] hO hx hvs hsz h1 hu hle h
theorem wlL_slice (hO:OwnU w0 L W v){t e:TypeId}{len:Nat}{parts:Array (Nat×Operand)}{cs:List Value}(hr:∀ w,(Instr.buildSlice t len (parts.map fun (i,x)=>(i,a.eval x))).run P w=.ok (.slice (some ⟨w.heap.size,0,none⟩) len len) (w.alloc (.cells cs.toArray e)))(hn:cs.any isU=false)
  (h:∀g w',OwnU w0 (⟨g,e,cs⟩::L) W w'→WlL S ops Q rest (a.put (some d) (.slice (some ⟨g,0,none⟩) len len)) w'):
  WlL S ops Q ({ dst:=some d,op:=.buildSlice t len parts,type:=ty,pos:=ps,after:=af,guard:=none }::rest) a v:=
 wlL_op rfl fun U hU=>NextO.at_ (r:=.ok (.value _) _) (by simp only [execOp,Sem.run_bind,hr,Result.andThen_ok];rfl) (h _ _ (toU ((hO.at U).alloc e cs hn)))
theorem CallsF.mono {f:FuncId}{args:Array Value}{R R':Value→World→Prop}(h:CallsF S f args v R)(k:∀ x w,R x w→R' x w):CallsF S f args v R':=fun c0 cs b1 b2 b3 b4=>h c0 cs b1 b2 b3 fun x v1 hx=>b4 x v1 (k x v1 hx)
theorem callsF_val {f:FuncId}{args:Array Value}{V:Value}{K:Value→World→Prop}(hf:GG f)(hO:OwnU w0 L W v)(h:∀ v',OwnU w0 L W v'→Calls P f args v' fun e w'=>e=.returned V∧Ext v' w')(k:∀ w',OwnU w0 L W w'→K V w'):CallsF S f args v K:=by
 have h1:CallsF S f args v fun x w'=>x=V∧OwnU w0 L W w':=callsO_lone hFb hF Gt.hG hf (fun x w U h=>⟨h.1,h.2.tp U⟩) fun U hU=>(h _ (hO.tp U)).mono fun e w' he=>by
  obtain⟨rfl,h2⟩:=he
  exact⟨rfl,toU (w0:=w0) (T:=U) ((hO.at U).ext h2)⟩
 exact h1.mono fun x w hx=>by obtain⟨rfl,h2⟩:=hx;exact k _ h2
theorem callsF_own {f:FuncId}{args:Array Value}{R:Value→Prop}{L':List Bx}{K:Value→World→Prop}(hf:GG f)(hO:OwnU w0 L W v)(h:∀ v' z,Own z L W v'→gz≤v'.heap.size→z.heap.size=w0.heap.size→Calls P f args v' fun | .returned x,w'=>R x∧Own z L' W w' | _,_=>False)(hg:gz≤w0.heap.size)(k:∀ x w',R x→OwnU w0 L' W w'→K x w'):CallsF S f args v K:=by
 have h1:CallsF S f args v fun x w'=>R x∧OwnU w0 L' W w':=callsO_lone hFb hF Gt.hG hf (fun x w U h=>⟨h.1,h.2.tp U⟩) fun U hU=>(h _ _ (hO.at U) (Nat.le_trans hg hO.size) rfl).mono fun e w' he=>by
  cases e with
  |returned x=>exact⟨he.1,toU (w0:=w0) (T:=U) he.2⟩
  |_=>exact he.elim
 exact h1.mono fun x w hx=>k x w hx.1 hx.2
theorem wlL_gather {x y z:Operand}{ats:Array TypeId}{n N:Nat}{ff:FuncId}{us:Array Value}{ds:Nat→Td}(hO:OwnU w0 L W v)(hg:gz≤w0.heap.size)(hx:a.eval x=.int .i64 (n:Int))(hy:a.eval y=.int .i64 (N:Int))(hz:a.eval z=.func (.func ff) #[] us)(hb:#[x,y,z].all (argB fo)=true)
  (h1:1≤N) (h2:N≤16) (hn:n<4611686018427387904) (hj:∀v',OwnU w0 L W v'→Job v' n ff us ds) (k:∀g w',OwnU w0 (⟨g,128,shareC (sums ds (List.range n))⟩::L) W w'→WlL S ops Q rest (a.put (some d) (.pointer (some ⟨g,0,none⟩))) w'):
  WlL S ops Q ({ dst:=some d,op:=.call { callee:=.value (.func 92),args:=#[x,y,z],argTypes:=ats },type:=ty,pos:=ps,after:=af,guard:=none }::rest) a v:=by
 unfold WlL
 rw [if_pos (by simp [Region.wanted])]
 have e:(#[x,y,z]:Array Operand).map a.eval=#[.int .i64 (n:Int),.int .i64 (N:Int),.func (.func ff) #[] us]:=by simp [hx,hy,hz]
 refine .inl ⟨#[x,y,z],ats,rfl,hb,fun U hU=>?_⟩
 rw [e]
 refine⟨⟨n,N,ff,us,ds,rfl,h1,h2,hn,Nat.le_trans hg hO.size,hj _ (hO.tp U)⟩,fun r v1 hr=>?_⟩
 obtain⟨g,U1,rfl,hown⟩:=gpF_use hr (hj _ (hO.tp U))
 exact k g v1 ((hO.tp U).on hown)
theorem callsF_ownv {f:FuncId}{args:Array Value}{V:Value}{L':List Bx}{K:Value→World→Prop}(hf:GG f)(hO:OwnU w0 L W v)(hg:gz≤w0.heap.size)(h:∀ v' z,Own z L W v'→gz≤z.heap.size→Calls P f args v' fun e w'=>e=.returned V∧Own z L' W w')(k:∀ w',OwnU w0 L' W w'→K V w'):CallsF S f args v K:=
 callsF_own (R:=fun x=>x=V) hf hO (fun v' z hz _ he=>(h v' z hz (by rw [he];exact hg)).mono fun e w' h=>by obtain⟨rfl,h2⟩:=h;exact⟨rfl,h2⟩) hg fun x w' hx hO=>by subst hx;exact k w' hO
theorem wpF_if_t {cc:Operand}{x y:Code}(hc:a.eval cc=.bool true)(h:WpF S x Q a v):WpF S (.cond cc x y) Q a v:=wpo_cond (t:=true) hc h
theorem wpF_if_f {cc:Operand}{x y:Code}(hc:a.eval cc=.bool false)(h:WpF S y Q a v):WpF S (.cond cc x y) Q a v:=wpo_cond (t:=false) hc h
def BodyO (fn:Func)(R:Value→World→Prop):Exit→Act→World→Prop
 | .normal,a,w | .ret,a,w=>∀T,∃x,(results fn a.tmps).run P (Lk.tp w T)=.ok x (Lk.tp w T)∧R x (Lk.tp w T)
 |_,_,_=>False
theorem callsF_body {f:FuncId}{fn:Func}{c:Code}{args:Array Value}{R:Value→World→Prop}(hf:P.funcs[f]?=some fn)(hb:fn.body=some c)(hne:f≠nG)(h:WpF S c (BodyO fn R) ⟨args++Array.replicate (fn.ntmps - args.size) undef,[]⟩ v):CallsF S f args v R:=
 callsO_body hf hb hne (WpO.mono h fun e a v q=>by cases e<;>exact q)
theorem bodyO_of {fn:Func}{R:Value→World→Prop}(h:∀ T,bodyPost P fn (fun | .returned x,w'=>R x w' | _,_=>False) .ret a (Lk.tp v T)):BodyO fn R .ret a v:=fun T=>(h T).2
theorem wpF_last {c:Code}(hc:niceCode P fb c=true){N:Array Value→World→Prop}(hN:∀ t w T,N t w→N t (Lk.tp w T))(hO:OwnU w0 L W v)(h:∀ v' U,Own (Lk.tp w0 U) L W v'→c.wp Tryz.prog (Lk.Ends (fun _ _=>False) N) ⟨a.tmps,[]⟩ v')(k:∀ t w',N t w'→Q .ret ⟨t,[]⟩ w'):WpF S c Q a v:=by
 intro fn k0 cs hne hcs hA T hT
 refine .self fun r hw ha=>.piece hc (N:=fun _ _=>False) (N':=N) (tree_of_wp hFb hF Gt.hG hc hw ha (fun t w U h=>h) (fun t w U h=>hN t w U h) fun U hU=>h _ U (hO.at U)) (fun _ _ h=>h.elim) (fun t w todo h1=>?_)
 exact hA .ret ⟨t,[]⟩ w (k t w h1) todo w.tape fun _ _ _ _=>rfl
theorem wpF_lastT {c:Code}(hc:niceCode P fb c=true)(d1 d2:Nat)(x1 x2:Value){L':List Bx}(hO:OwnU w0 L W v)(h:∀ v' z,Own z L W v'→z.heap.size=w0.heap.size→c.wp Tryz.prog (Lk.Ends (fun _ _=>False) fun t w=>t.getD d1 undef=x1∧t.getD d2 undef=x2∧Own z L' W w) ⟨a.tmps,[]⟩ v')(k:∀ t w',t.getD d1 undef=x1→t.getD d2 undef=x2→OwnU w0 L' W w'→Q .ret ⟨t,[]⟩ w'):WpF S c Q a v:=
 wpF_last hc (N:=fun t w=>t.getD d1 undef=x1∧t.getD d2 undef=x2∧OwnU w0 L' W w) (fun t w U h=>⟨h.1,h.2.1,h.2.2.tp U⟩) hO (fun v' U h'=>Code.wp_mono (fun e a w q=>by
  cases e with
  |ret=>exact⟨q.1,q.2.1,toU (w0:=w0) (T:=U) q.2.2⟩
  |_=>exact q) (h v' _ h' rfl)) fun t w' h=>k t w' h.1 h.2.1 h.2.2
end
def BodyL (J:World→Prop):Exit→Act→World→Prop
 | .normal,a,w | .ret,a,w=>a.tmps.getD 0 undef=.bool true∧J w
 |_,_,_=>False
theorem law_tro {f:FuncId}{fn:Func}{c:Code}{args:Array Value}{v:World}(hf:P.funcs[f]?=some fn)(hb:fn.body=some c)(hr:fn.results=#[.tmp 0])(hne:f≠nG)(h:WpF (Lk.Left P f fun x _=>x=.bool true) c (BodyL fun _=>True) ⟨args++Array.replicate (fn.ntmps - args.size) undef,[]⟩ v) :
  TrO P fb fo FF GG nG GaF GpF (Lk.Left P f fun x _=>x=.bool true) (Frame.enter P f args .normal) [catcher P] v:=by
 rw [enter_mk args hf hb]
 have fin:∀(t:Array Value) (w:World) todo,t.getD 0 undef=.bool true→TT P fb fo FF GG nG GaF GpF (Lk.Left P f fun x _=>x=.bool true) (Lk.mk f .normal t [] todo true) [catcher P] w:=fun t w todo ht T hT=>by
  refine .stop ⟨rfl,rfl,rfl,fn,.bool true,hf,fun U=>?_,rfl⟩
  have h1:(results fn t).run P (Lk.tp (Lk.tp w T) U)=.ok (t.getD 0 undef) _:=results_tmp hr _ _ _
  cases he:(results fn t).runT P (Lk.tp (Lk.tp w T) U) #[]with
  |mk res es=>
   have:=Sem.runT_fst P (results fn t) (Lk.tp (Lk.tp w T) U) #[]
   rw [he,h1,ht]at this
   have this:res=.ok (.bool true) (Lk.tp (Lk.tp w T) U):=this
   subst this
   exact⟨es,he⟩
 have:=h f [] [catcher P] hne (by simp) (fun e a' v' q=>by
  cases e with
  |normal=>
   refine TT.ctl (ret:=true) (k':=[]) hne (fun w=>?_) (fin a'.tmps v' [] q.1)
   show stepG P true (Go.Conc.G ((bs f .normal).at ⟨a'.tmps,[]⟩ []) _) w=_
   rw [stepG_end];rfl
  |ret=>exact fun todo=>fin a'.tmps v' todo q.1
  |_=>exact q.elim) v.tape fun _ _ _ _=>rfl
 exact this
end Go.Proofs.YtngdldcgkaplbaaGreat.Fd
namespace Go.Proofs.YtngdldcgkaplbaaGreat.Fd
open Go Go.RowKit Go.Conc Nm Rn
open Gt hiding Sm
theorem cn_isd {r V:Nat}(h:isNaN V=false)(hc:cn r=V):r=V:=by
 unfold cn at hc
 split at hc
 ·rw [←hc]at h;exact absurd h (by decide)
 ·exact hc
section
variable {w0 w:World} {L:List Bx} {W:List Sw} {B k g:Nat} {T:TypeId} {A C:List Value}
theorem fl_val {r:Nat}{e:Ending}{w':World}(hn:isNaN r=false)(h:RetFlO r w0 L W e w'):e=.returned (.float .f64 r)∧Own w0 L W w':=by
 obtain⟨a,rfl,_,hc,hO⟩:=h
 rw [cn_isd hn hc]
 exact⟨rfl,hO⟩
theorem calls_swap {f:FuncId}{args:Array Value}{V:Ending}{b c:Bx}(h:Calls P f args w fun e w'=>e=V∧Own w0 (c::b::L) W w'):Calls P f args w fun e w'=>e=V∧Own w0 (b::c::L) W w':=h.mono fun e w' h=>⟨h.1,h.2.swap⟩
theorem sh_lo (q:Sq):shareC q=[]++q.lo.cs++(q.hi.cs++[.bool q.e]):=by unfold shareC;rw [List.nil_append,List.append_assoc]
theorem lo_round (q:Sq)(d:Int)(hg:gz≤w0.heap.size)(hok:q.lo.Ok)(hn:isNaN (q.lo.round d)=false)(hO:Own w0 (⟨B,T,shareC q⟩::L) W w):Calls Tryz.prog 62 #[.pointer (some ⟨B,0,none⟩),.int .i64 d] w fun e w'=>e=.returned (.float .f64 (q.lo.round d))∧Own w0 (⟨B,T,shareC q⟩::L) W w':=by
 rw [sh_lo]at hO ⊢
 exact(iround (A:=[]) (k:=0) q.lo d hg rfl (fun h=>hok.fit h) hO).mono fun e w' h=>fl_val hn h
theorem hi_round (q:Sq)(d:Int)(hg:gz≤w0.heap.size)(hok:q.hi.Ok)(hn:isNaN (q.hi.round d)=false)(hO:Own w0 (⟨B,T,shareC q⟩::L) W w):Calls Tryz.prog 62 #[.pointer (some ⟨B,72,none⟩),.int .i64 d] w fun e w'=>e=.returned (.float .f64 (q.hi.round d))∧Own w0 (⟨B,T,shareC q⟩::L) W w':=
 (iround (A:=q.lo.cs) (k:=72) q.hi d hg (cs_len _) (fun h=>hok.fit h) hO).mono fun e w' h=>fl_val hn h
theorem lo_over (q:Sq)(d n:Int)(h63:n < 9223372036854775808)(hg:gz≤w0.heap.size)(hok:q.lo.Ok)(hn:isNaN (q.lo.over d n)=false)(hO:Own w0 (⟨B,T,shareC q⟩::L) W w):Calls Tryz.prog 20 #[.pointer (some ⟨B,0,none⟩),.int .i64 d,.int .i64 n] w fun e w'=>e=.returned (.float .f64 (q.lo.over d n))∧Own w0 (⟨B,T,shareC q⟩::L) W w':=by
 rw [sh_lo]at hO ⊢
 exact(iover (A:=[]) (k:=0) q.lo d n h63 hg rfl (fun h=>hok.fit h) hO).mono fun e w' h=>fl_val hn h
theorem hi_over (q:Sq)(d n:Int)(h63:n < 9223372036854775808)(hg:gz≤w0.heap.size)(hok:q.hi.Ok)(hn:isNaN (q.hi.over d n)=false)(hO:Own w0 (⟨B,T,shareC q⟩::L) W w):Calls Tryz.prog 20 #[.pointer (some ⟨B,72,none⟩),.int .i64 d,.int .i64 n] w fun e w'=>e=.returned (.float .f64 (q.hi.over d n))∧Own w0 (⟨B,T,shareC q⟩::L) W w':=
 (iover (A:=q.lo.cs) (k:=72) q.hi d n h63 hg (cs_len _) (fun h=>hok.fit h) hO).mono fun e w' h=>fl_val hn h
theorem lo_root (q:Sq)(d:Int)(hg:gz≤w0.heap.size)(hok:q.lo.Ok)(hn:isNaN (q.lo.root d)=false)(hO:Own w0 (⟨B,T,shareC q⟩::L) W w):Calls Tryz.prog 21 #[.pointer (some ⟨B,0,none⟩),.int .i64 d] w fun e w'=>e=.returned (.float .f64 (q.lo.root d))∧Own w0 (⟨B,T,shareC q⟩::L) W w':=by
 rw [sh_lo]at hO ⊢
 exact(iroot (A:=[]) (k:=0) q.lo d hg rfl (fun h=>hok.fit h) hO).mono fun e w' h=>fl_val hn h
theorem hi_root (q:Sq)(d:Int)(hg:gz≤w0.heap.size)(hok:q.hi.Ok)(hn:isNaN (q.hi.root d)=false)(hO:Own w0 (⟨B,T,shareC q⟩::L) W w):Calls Tryz.prog 21 #[.pointer (some ⟨B,72,none⟩),.int .i64 d] w fun e w'=>e=.returned (.float .f64 (q.hi.root d))∧Own w0 (⟨B,T,shareC q⟩::L) W w':=
 (iroot (A:=q.lo.cs) (k:=72) q.hi d hg (cs_len _) (fun h=>hok.fit h) hO).mono fun e w' h=>fl_val hn h
def doneI (q:Sq):Nat×Nat:=if q.e then(infR,minf)else(q.lo.round (-1),q.hi.round 1)
theorem done_any (q:Sq)(hg:gz≤w0.heap.size)(hok:q.Ok)(hn:q.e=false→isNaN (q.lo.round (-1))=false∧isNaN (q.hi.round 1)=false)(hO:Own w0 (⟨g,128,shareC q⟩::L) W w) :
  Calls Tryz.prog 87 #[.pointer (some ⟨g,0,none⟩)] w fun e w'=>e=.returned (.tuple #[.agg #[.float .f64 (doneI q).1,.float .f64 (doneI q).2],.int .i64 0])∧Own w0 (⟨g,128,shareC q⟩::L) W w':=by
 obtain⟨qlo,qhi,qe⟩:=q
 have hcE:=(hO.cell 0 rfl 144).trans (shareC_e _)
 simp only at hcE
 cases qe
 ·obtain⟨A1,hA1⟩:∃A1,A1=qlo.round (-1):=⟨_,rfl⟩
  obtain⟨A2,hA2⟩:∃A2,A2=qhi.round 1:=⟨_,rfl⟩
  have HLO:=Lib.hid (fun w L h=>lo_round (w:=w) (L:=L) (W:=W) (B:=g) (T:=128) (w0:=w0) ⟨qlo,qhi,false⟩ (-1) hg hok.1 (hn rfl).1 h)
  have HHI:=Lib.hid (fun w L h=>hi_round (w:=w) (L:=L) (W:=W) (B:=g) (T:=128) (w0:=w0) ⟨qlo,qhi,false⟩ 1 hg hok.2 (hn rfl).2 h)
  rw [show doneI ⟨qlo,qhi,false⟩=(qlo.round (-1),qhi.round 1)from rfl]
  simp only at HLO HHI
  rw [←hA1,←hA2]
  rw [←hA1]at HLO
  rw [←hA2]at HHI
  clear hA1 hA2 hn hok
  have hf:True:=trivial
  go_enter Tryz.func87,Tryz.ntmps87
  go_upto_region 1 with ((with_reducible refine at_alloc ?_);refine own_alloc (L:=_::_) hO zero_iv rfl rfl ?_;clear hO;intro g2 wa hO;clear hf;have hf:=hO.cells;simp only [BC,CC,and_true]at hf)
  have hcE:=(hO.cell 1 rfl 144).trans (shareC_e _)
  simp only at hcE
  go_upto_region 3 with fail
  refine wp_wild_own 7 [det (.pointer (some ⟨g,0,none⟩)),det (.pointer (some ⟨g,0,none⟩)),det (.pointer (some ⟨g,0,none⟩)),det (.float .f64 A1),det (.pointer (some ⟨g,0,none⟩)),det (.pointer (some ⟨g,0,none⟩)),det (.pointer (some ⟨g,72,none⟩))] hO (by kernel_rfl) (by kernel_rfl) fun S sp HS HSP HX=>?_
  clear hO hf
  simp only [List.take_succ_cons,List.take_zero,List.drop_succ_cons,List.drop_zero]
  iterate 7
   refine Wi.wpX_step (fun K hK=>?_)
   go_simp
   first
   |refine Wi.StepY.det (by rw [HSP.out];rfl) ?_ ?_
    ·intro wz hz hF
     refine Wi.GivesW.of HX.out hz ?_
     clear hz hF
     go_simp
     exact⟨rfl,Ext.refl _⟩
   |refine Wi.StepY.det (by rw [HSP.out];rfl) ?_ ?_
    ·intro wz hz hF
     clear hF
     rw [HS.out]at hz
     go_simp
     refine(calls_swap (HLO.out _ _ hz.swap)).mono ?_
     rintro e w2 ⟨rfl,hO1⟩
     exact⟨_,rfl,rfl,by rw [HS.out];exact hO1,trivial⟩
   refine hK _ _ ?_
   clear hK K
  refine Wi.wpX_nil ?_
  intro wq hO hF
  clear hF HS HSP HX
  have hf:=hO.cells
  simp only [BC,CC,and_true]at hf
  go_wp2_with (first|(go_at_call 62;(with_reducible refine(HHI.out _ _ hO.swap).mono ?_);rintro e w3 ⟨rfl,hO1⟩;clear hO hf;have hO:=hO1.swap;clear hO1;have hf:=True.intro)|((with_reducible refine at_store (T:=32) ?_);refine own_put0 (vs:=[.float .f64 A1,.float .f64 A2]) (T:=32) hO rfl rfl size_iv rfl rfl rfl ?_;clear hO;intro w4 hO;clear hf;have hf:=hO.cells;simp only [BC,CC,and_true]at hf))
  exact Wi.own_retA hO 0 rfl rfl rfl rfl agg_iv size_iv rfl ⟨rfl,hO.tail⟩
 ·clear hn hok
  have hf:True:=trivial
  rw [show doneI ⟨qlo,qhi,true⟩=(infR,minf)from rfl]
  go_enter Tryz.func87,Tryz.ntmps87
  go_upto_region 1 with ((with_reducible refine at_alloc ?_);refine own_alloc (L:=_::_) hO zero_iv rfl rfl ?_;clear hO;intro g2 wa hO;clear hf;have hf:=hO.cells;simp only [BC,CC,and_true]at hf)
  have hcE:=(hO.cell 1 rfl 144).trans (shareC_e _)
  simp only at hcE
  go_wp2_with (first|(go_at_call 91;(with_reducible refine(iempty_any _).mono ?_);rintro e w2 ⟨rfl,hE1⟩;have hO2:=hO.ext hE1;clear hO hE1;have hO:=hO2;clear hO2;clear hf;have hf:=True.intro)|((with_reducible refine at_store (T:=32) ?_);refine own_put0 (vs:=[.float .f64 infR,.float .f64 minf]) (T:=32) hO rfl rfl size_iv rfl rfl rfl ?_;clear hO;intro w4 hO;clear hf;have hf:=hO.cells;simp only [BC,CC,and_true]at hf))
  exact Wi.own_retA hO 0 rfl rfl rfl rfl agg_iv size_iv rfl ⟨rfl,hO.tail⟩
end
end Go.Proofs.YtngdldcgkaplbaaGreat.Fd
namespace Go.Proofs.YtngdldcgkaplbaaGreat.Fd
open Go Go.RowKit Go.Conc Nm Rn
open Gt hiding Sm
open Lk
theorem z64:(0:Nat)<18446744073709551616:=by decide
theorem tdOf_ok (k:Nat){q:Nat×Nat}(ha:q.1 < 18446744073709551616)(hb:q.2 < 18446744073709551616):(tdOf k q).Ok:=by
 obtain⟨r1,r2⟩:=rd_lt ha hb
 have a1:=abLo_lt r1 r2
 have a2:=abHi_lt r1 r2
 unfold tdOf
 split
 ·exact⟨⟨a1,z64⟩,a2,z64⟩
 ·split
  ·exact⟨⟨a1,a1⟩,a2,a2⟩
  ·exact⟨⟨r1,z64⟩,r2,z64⟩
theorem getD_lt {xs:List (Nat×Nat)}(h:∀ q∈xs,q.1 < 18446744073709551616∧q.2 < 18446744073709551616)(i:Nat):(xs.getD i (0,0)).1<18446744073709551616∧(xs.getD i (0,0)).2<18446744073709551616:=by
 rw [List.getD_eq_getElem?_getD]
 cases hi:xs[i]? with
 |none=>exact⟨by decide,by decide⟩
 |some q=>exact h q (List.mem_of_getElem? hi)
def totS (k:Nat)(xs:List (Nat×Nat)):Sq:=sums (fun i=>tdOf k (xs.getD i (0,0))) (List.range xs.length)
theorem over_run (args:Array Value)(w:World):(callFunc 140 args).run P w=.ok (.enter 140 args) w:=callee_run Tryz.func140 (by kernel_rfl) (by kernel_rfl) args w
section
variable {S:Frame→List Frame→World→Prop} {v w0:World} {L:List Bx} {W:List Sw} {A:Option Addr} {n c:Nat} {xs:List (Nat×Nat)}
def Known (w0:World)(L:List Bx)(W:List Sw)(A:Option Addr)(n c:Nat)(xs:List (Nat×Nat)):Prop:=∀v',OwnU w0 L W v'→Ivs v' A n c xs
theorem job_over (k:Nat)(hk:k=0∨k=1∨k=2)(hl:Ivs v A n c xs){g1 g2:Nat}(hO:OwnU w0 (⟨g2,121,[.func (.func (nmOf k)) #[] #[]]⟩::⟨g1,24,[.slice A n c]⟩::L) W v) :
  Job v n 140 #[.pointer (some ⟨g2,0,none⟩),.pointer (some ⟨g1,0,none⟩)] (fun i=>tdOf k (xs.getD i (0,0))):=by
 have h1:=(hO.2.1 _ (List.mem_cons_self)).2.1.lt
 have h2:=(hO.2.1 _ (List.mem_cons_of_mem _ List.mem_cons_self)).2.1.lt
 refine⟨over_run,fun i=>tdOf_ok k (getD_lt hl.2.2.2.1 i).1 (getD_lt hl.2.2.2.1 i).2,fun i w hi hs=>?_⟩
 exact over1_ok k hk hl h1 h2 (hO.cell 0 rfl 0) (hO.cell 1 rfl 0) i w hi hs
theorem over_o (k N:Nat)(hk:k=0∨k=1∨k=2)(hg:gz≤w0.heap.size)(h1:1≤N)(h2:N≤16)(hn:n < 4611686018427387904)(hl:Known w0 L W A n c xs)(hO:OwnU w0 L W v) :
  CallsF S 85 #[.slice A n c,.int .i64 (N:Int),.func (.func (nmOf k)) #[] #[]] v fun x w'=>∃g,x=.pointer (some ⟨g,0,none⟩)∧OwnU w0 (⟨g,128,shareC (totS k xs)⟩::L) W w':=by
 have HN:=Lib.hid hn
 have H1:=Lib.hid h1
 have H2:=Lib.hid h2
 have HL:=Lib.hid hl
 have HX:=Lib.hid ((hl v hO).len)
 clear hn h1 h2 hl
 refine callsF_body Tryz.func85 rfl (by decide) ?_
 simp only [Tryz.ntmps85,List.size_toArray,List.length_cons,List.length_nil,Nat.reduceAdd,Nat.reduceSub,Array.replicate_succ,Array.replicate_zero,List.push_toArray,List.append_toArray,List.nil_append,List.cons_append]
 refine wpo_seq ?_
 refine wpF_region ?_
 refine wlL_box (cs:=[.slice A n c]) hO rfl rfl ?_
 clear hO
 intro g1 v hO
 refine wlL_box (cs:=[.func (.func (nmOf k)) #[] #[]]) hO rfl rfl ?_
 clear hO
 intro g2 v hO
 refine wlL_any rfl hO ?_
 clear hO
 intro K hK v hO
 go_simp
 refine hK _ _ ?_
 clear hK K
 refine wlL_nil ?_
 refine wpo_seq ?_
 refine wpF_region ?_
 iterate 4
  refine wlL_any rfl hO ?_
  clear hO
  intro K hK v hO
  have hf:=hO.cells
  simp only [BC,CC,and_true]at hf
  go_simp
  refine hK _ _ ?_
  clear hK K hf
 refine wlL_gather (n:=n) (N:=N) (ff:=140) (us:=#[.pointer (some ⟨g2,0,none⟩),.pointer (some ⟨g1,0,none⟩)]) hO hg rfl rfl rfl (by simp [argB]) H1.out H2.out HN.out (fun v' h'=>job_over k hk (HL.out v' (h'.sub (by simp))) h') ?_
 clear hO
 intro g v hO
 refine wlL_any rfl hO ?_
 clear hO
 intro K hK v hO
 go_simp
 refine hK _ _ ?_
 clear hK K
 refine wlL_nil ?_
 refine wpo_ret ?_
 try simp only [Exit.then,Exit.inBlock]
 refine bodyO_of fun U=>?_
 have hO:=hO.at U
 refine bodyPost_ret (results_tmp rfl _ _ _) rfl ⟨g,rfl,?_⟩
 have hO2:OwnU w0 (⟨g,128,shareC (totS k xs)⟩::L) W (Lk.tp v U):=by
  have:=toU hO
  unfold totS
  rw [HX.out]
  exact OwnU.sub this (List.Sublist.cons_cons _ (by simp))
 exact hO2
def ansV (r:(Nat×Nat)×Nat):Value:=.tuple #[.agg #[.float .f64 r.1.1,.float .f64 r.1.2],.int .i64 (r.2:Int)]
def foldI (k:Nat)(xs:List (Nat×Nat))(N:Int):(Nat×Nat)×Nat:=if wrongW N then((0,0),1)else(doneI (totS k xs),0)
theorem wrong_nat {N:Int}(h:wrongW N=false):∃m:Nat,N=(m:Int)∧1≤m∧m≤16:=by
 unfold wrongW at h
 simp at h
 exact⟨N.toNat,by omega,by omega,by omega⟩
theorem gg_wrong:GG 84:=body_gg Tryz.func84 (by kernel_rfl)
theorem gg_done:GG 87:=body_gg Tryz.func87 (by kernel_rfl)
theorem wrong_ext {N:Int}{b:Bool}(h:wrongW N=b)(w:World):Calls P 84 #[.int .i64 N] w fun e w'=>e=.returned (.bool b)∧Ext w w':=(wrong_any N w).mono fun e w' ⟨h1,h2⟩=>⟨by rw [h1,h],h2▸Ext.refl _⟩
theorem totS_ok (k:Nat){xs:List (Nat×Nat)}(h:∀ q∈xs,q.1 < 18446744073709551616∧q.2 < 18446744073709551616)(hn:xs.length < 4611686018427387904):(totS k xs).Ok:=by
 unfold totS
 have e:=takes_plus (ds:=fun i=>tdOf k (xs.getD i (0,0))) (List.range xs.length) Sq.nil (by rw [List.length_range];show 0+_≤_;omega) (by rw [List.length_range];show 0+_≤_;omega)
 rw [Sq.nil_plus]at e
 rw [←e]
 exact takes_ok (fun i=>tdOf_ok k (getD_lt h i).1 (getD_lt h i).2) _ _ Sq.Ok.nil
theorem fold_o {k:Nat}{f:FuncId}(hk:k=0∧f=32∨k=1∧f=33∨k=2∧f=34)(N:Int)(hg:gz≤w0.heap.size)(hn:n < 4611686018427387904)(hl:Known w0 L W A n c xs)(hnn:wrongW N=false→(totS k xs).e=false→isNaN ((totS k xs).lo.round (-1))=false∧isNaN ((totS k xs).hi.round 1)=false)(hO:OwnU w0 L W v) :
  CallsF S f #[.slice A n c,.int .i64 N] v fun x w'=>x=ansV (foldI k xs N)∧OwnU w0 L W w':=by
 unfold foldI
 have HK:=Lib.hid (totS_ok k (hl v hO).2.2.2.1 (by rw [(hl v hO).len];exact hn))
 cases hw:wrongW N
 ·obtain⟨m,rfl,m1,m2⟩:=wrong_nat hw
  rw [if_neg (by simp)]
  have HW:=Lib.hid hw
  have HN:=Lib.hid (hnn hw)
  have HOV:=Lib.hid (fun g4 v (hO:OwnU w0 (⟨g4,32,[.float .f64 0,.float .f64 0]⟩::L) W v)=>over_o (S:=S) k m (hk.imp And.left (Or.imp And.left And.left)) hg m1 m2 hn (fun v' h'=>hl v' (h'.sub (List.sublist_cons_self _ _))) hO)
  clear hw hnn hl hn m1 m2
  rcases hk with ⟨rfl,rfl⟩|⟨rfl,rfl⟩|⟨rfl,rfl⟩
  refine callsF_body Tryz.func32 rfl (by decide) ?_
  rotate_left
  refine callsF_body Tryz.func33 rfl (by decide) ?_
  rotate_left
  refine callsF_body Tryz.func34 rfl (by decide) ?_
  rotate_left
  all_goals
   simp only [Tryz.ntmps32,Tryz.ntmps33,Tryz.ntmps34,List.size_toArray,List.length_cons,List.length_nil,Nat.reduceAdd,Nat.reduceSub,Array.replicate_succ,Array.replicate_zero,List.push_toArray,List.append_toArray,List.nil_append,List.cons_append]
   refine wpo_seq ?_
   refine wpF_region ?_
   refine wlL_alloc hO zero_iv rfl rfl ?_
   clear hO
   intro g4 v hO
   refine wlL_any rfl hO ?_
   clear hO
   intro K hK v hO
   have hf:=hO.cells
   simp only [BC,CC,and_true]at hf
   go_simp
   refine hK _ _ ?_
   clear hK K hf
   refine wlL_nil ?_
   refine wpo_seq ?_
   refine wpo_seq ?_
   refine wpF_region ?_
   refine wlL_any rfl hO ?_
   clear hO
   intro K hK v hO
   have hf:=hO.cells
   simp only [BC,CC,and_true]at hf
   go_simp
   refine hK _ _ ?_
   clear hK K hf
   refine wlL_any rfl hO ?_
   clear hO
   intro K hK v hO
   go_simp
   refine⟨by decide,?_⟩
   refine callsF_val gg_wrong hO (fun v' h'=>wrong_ext HW.out v') ?_
   clear hO
   intro v hO
   refine hK _ _ ?_
   clear hK K
   refine wlL_nil ?_
   refine wpF_if_f rfl ?_
   refine wpo_skip ?_
   refine wpo_seq ?_
   refine wpF_region ?_
   iterate 2
    refine wlL_any rfl hO ?_
    clear hO
    intro K hK v hO
    have hf:=hO.cells
    simp only [BC,CC,and_true]at hf
    go_simp
    refine hK _ _ ?_
    clear hK K hf
   refine wlL_any rfl hO ?_
   clear hO
   intro K hK v hO
   go_simp
   refine⟨by decide,?_⟩
   refine(HOV.out _ _ hO).mono ?_
   clear hO
   rintro xr v ⟨g,rfl,hO⟩
   refine hK _ _ ?_
   clear hK K
   generalize totS _ xs=q at *
   refine wlL_any rfl hO ?_
   clear hO
   intro K hK v hO
   go_simp
   refine⟨by decide,?_⟩
   refine callsF_ownv gg_done hO hg (fun v' z hz hg'=>done_any q hg' HK.out HN.out hz) ?_
   clear hO
   intro v hO
   refine hK _ _ ?_
   clear hK K
   obtain⟨x1,hx1⟩:∃x,x=(doneI q).1:=⟨_,rfl⟩
   obtain⟨x2,hx2⟩:∃x,x=(doneI q).2:=⟨_,rfl⟩
   rw [←hx1,←hx2]
   have HX1:=Lib.hid hx1
   have HX2:=Lib.hid hx2
   clear hx1 hx2
   iterate 2
    refine wlL_any rfl hO ?_
    clear hO
    intro K hK v hO
    go_simp
    refine hK _ _ ?_
    clear hK K
   refine wlL_put1 (vs:=[.float .f64 x1,.float .f64 x2]) hO rfl rfl size_iv rfl rfl rfl ?_
   clear hO
   intro v hO
   refine wlL_any rfl hO ?_
   clear hO
   intro K hK v hO
   go_simp
   refine hK _ _ ?_
   clear hK K
   refine wlL_nil ?_
   refine wpo_ret ?_
   try simp only [Exit.then,Exit.inBlock]
   refine bodyO_of fun U=>?_
   have hO:=hO.at U
   refine Wi.own_retA hO 1 rfl rfl rfl rfl agg_iv size_iv rfl ?_
   refine⟨by rw [HX1.out,HX2.out];rfl,?_⟩
   exact OwnU.sub (toU hO) (by simp)
 ·rw [if_pos rfl]
  have HW:=Lib.hid hw
  clear hw hnn hl hn
  rcases hk with ⟨rfl,rfl⟩|⟨rfl,rfl⟩|⟨rfl,rfl⟩
  refine callsF_body Tryz.func32 rfl (by decide) ?_
  rotate_left
  refine callsF_body Tryz.func33 rfl (by decide) ?_
  rotate_left
  refine callsF_body Tryz.func34 rfl (by decide) ?_
  rotate_left
  all_goals
   simp only [Tryz.ntmps32,Tryz.ntmps33,Tryz.ntmps34,List.size_toArray,List.length_cons,List.length_nil,Nat.reduceAdd,Nat.reduceSub,Array.replicate_succ,Array.replicate_zero,List.push_toArray,List.append_toArray,List.nil_append,List.cons_append]
   refine wpo_seq ?_
   refine wpF_region ?_
   refine wlL_alloc hO zero_iv rfl rfl ?_
   clear hO
   intro g4 v hO
   refine wlL_any rfl hO ?_
   clear hO
   intro K hK v hO
   have hf:=hO.cells
   simp only [BC,CC,and_true]at hf
   go_simp
   refine hK _ _ ?_
   clear hK K hf
   refine wlL_nil ?_
   refine wpo_seq ?_
   refine wpo_seq ?_
   refine wpF_region ?_
   refine wlL_any rfl hO ?_
   clear hO
   intro K hK v hO
   have hf:=hO.cells
   simp only [BC,CC,and_true]at hf
   go_simp
   refine hK _ _ ?_
   clear hK K hf
   refine wlL_any rfl hO ?_
   clear hO
   intro K hK v hO
   go_simp
   refine⟨by decide,?_⟩
   refine callsF_val gg_wrong hO (fun v' h'=>wrong_ext HW.out v') ?_
   clear hO
   intro v hO
   refine hK _ _ ?_
   clear hK K
   refine wlL_nil ?_
   refine wpF_if_t rfl ?_
   refine wpo_seq ?_
   refine wpF_region ?_
   refine wlL_any rfl hO ?_
   clear hO
   intro K hK v hO
   have hf:=hO.cells
   simp only [BC,CC,and_true]at hf
   go_simp
   refine hK _ _ ?_
   clear hK K hf
   refine wlL_put0 (vs:=[.float .f64 0,.float .f64 0]) hO rfl rfl size_iv rfl rfl rfl ?_
   clear hO
   intro v hO
   refine wlL_any rfl hO ?_
   clear hO
   intro K hK v hO
   go_simp
   refine hK _ _ ?_
   clear hK K
   refine wlL_nil ?_
   refine wpo_ret ?_
   try simp only [Exit.then,Exit.inBlock]
   refine bodyO_of fun U=>?_
   have hO:=hO.at U
   refine Wi.own_retA hO 0 rfl rfl rfl rfl agg_iv size_iv rfl ?_
   refine⟨rfl,?_⟩
   exact OwnU.sub (toU hO) (by simp)
theorem sum_o (N:Int)(hg:gz≤w0.heap.size)(hn:n < 4611686018427387904)(hl:Known w0 L W A n c xs)(hnn:wrongW N=false→(totS 0 xs).e=false→isNaN ((totS 0 xs).lo.round (-1))=false∧isNaN ((totS 0 xs).hi.round 1)=false)(hO:OwnU w0 L W v) :
  CallsF S 32 #[.slice A n c,.int .i64 N] v fun x w'=>x=ansV (foldI 0 xs N)∧OwnU w0 L W w':=fold_o (.inl ⟨rfl,rfl⟩) N hg hn hl hnn hO
theorem abs_o (N:Int)(hg:gz≤w0.heap.size)(hn:n < 4611686018427387904)(hl:Known w0 L W A n c xs)(hnn:wrongW N=false→(totS 1 xs).e=false→isNaN ((totS 1 xs).lo.round (-1))=false∧isNaN ((totS 1 xs).hi.round 1)=false)(hO:OwnU w0 L W v) :
  CallsF S 33 #[.slice A n c,.int .i64 N] v fun x w'=>x=ansV (foldI 1 xs N)∧OwnU w0 L W w':=fold_o (.inr (.inl ⟨rfl,rfl⟩)) N hg hn hl hnn hO
theorem squares_o (N:Int)(hg:gz≤w0.heap.size)(hn:n < 4611686018427387904)(hl:Known w0 L W A n c xs)(hnn:wrongW N=false→(totS 2 xs).e=false→isNaN ((totS 2 xs).lo.round (-1))=false∧isNaN ((totS 2 xs).hi.round 1)=false)(hO:OwnU w0 L W v) :
  CallsF S 34 #[.slice A n c,.int .i64 N] v fun x w'=>x=ansV (foldI 2 xs N)∧OwnU w0 L W w':=fold_o (.inr (.inr ⟨rfl,rfl⟩)) N hg hn hl hnn hO
end
end Go.Proofs.YtngdldcgkaplbaaGreat.Fd