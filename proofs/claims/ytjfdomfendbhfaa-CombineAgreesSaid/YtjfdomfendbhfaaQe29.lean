/- Part 29 of the proof: CMul. -/
import Derived.Test.YtjfdomfendbhfaaQe28
import Derived.BigRegion
set_option linter.unusedVariables false
set_option linter.unusedSimpArgs false
namespace Go.Proofs.Ytjfdomfendbhfaa
open Go.RowKit Go.Maps
def rI (l:List Nat) (np j:Nat):List Nat:=l.take j ++ List.replicate (np - j) 0
theorem sO {l:List Nat} {np j:Nat} (h:l.length=np) (hj:j<=np):(rI l np j).length=np:=by simp[rI];omega
theorem nS {l:List Nat} {np j:Nat} (h:l.length=np) (hj:j < np):(rI l np j).set j (l.getD j 0)=rI l np (j+1):=by
 have hl:(l.take j).length=j:=by rw[List.length_take];omega
 obtain⟨m,hm⟩:∃ m,np - j=m+1:=⟨np - j - 1,by omega⟩
 rw[rI,List.set_append_right _ _ (by omega),hl,Nat.sub_self,hm,List.replicate_succ,List.set_cons_zero,rI,zW (d:=0) (by omega),List.append_assoc,show np - (j+1)=m by omega];rfl
theorem jE {l:List Nat} {np j:Nat} (h:l.length=np) (hj:j=np):rI l np j=l:=by
 subst hj;rw[rI,Nat.sub_self,List.replicate_zero,List.append_nil,List.take_of_length_le (by omega)]
theorem mM (l:List Nat) (np:Nat):rI l np 0=List.replicate np 0:=by simp[rI]
def NxOk (ds:List DfaV) (k:Nat) (L:List (List Nat)) (nxl:List Nat) (s a:Nat):Prop :=
 nxl.length=s * k+a/\∀ i b,b < k->(i < s\/(i=s/\b < a))->nxl.getD (i * k+b) 0=L.idxOf (nxtT ds (L.getD i []) b)/\nxtT ds (L.getD i []) b∈L
theorem NxOk.more {ds:List DfaV} {k s a:Nat} {L:List (List Nat)} {nxl:List Nat} (h:NxOk ds k L nxl s a) (hs:s < L.length) (x:List Nat):NxOk ds k (L ++ [x]) nxl s a:=by
 refine⟨h.1,fun i b hb hi=>?_⟩
 have h0:i < L.length:=by rcases hi with hi|⟨hi,_⟩ <;> omega
 obtain⟨h1,h2⟩:=h.2 i b hb hi
 rw[yZ h0]
 exact⟨by rw[h1,List.idxOf_append,if_pos h2],List.mem_append_left _ h2⟩
theorem NxOk.push {ds:List DfaV} {k s a:Nat} {L:List (List Nat)} {nxl:List Nat} (h:NxOk ds k L nxl s a) (ha:a < k) (hm:nxtT ds (L.getD s []) a∈L):NxOk ds k L (nxl ++ [L.idxOf (nxtT ds (L.getD s []) a)]) s (a+1):=by
 refine⟨by rw[List.length_append,h.1];rfl,fun i b hb hi=>?_⟩
 by_cases e:i=s/\b=a
 ·obtain⟨rfl,rfl⟩:=e
  refine⟨?_,hm⟩
  rw[List.getD_eq_getElem?_getD,List.getElem?_append_right (by rw[h.1];exact Nat.le_refl _),h.1,Nat.sub_self];rfl
 ·have h0:i < s\/(i=s/\b < a):=by omega
  obtain⟨h1,h2⟩:=h.2 i b hb h0
  have h3:i * k+b < nxl.length:=by
   rw[h.1]
   rcases h0 with h0|⟨rfl,hb2⟩
   ·have:i * k+k<=s * k:=by rw[<- Nat.succ_mul];exact Nat.mul_le_mul_right k h0
    omega
   ·omega
  rw[yZ h3]
  exact⟨h1,h2⟩
theorem NxOk.next {ds:List DfaV} {k s:Nat} {L:List (List Nat)} {nxl:List Nat} (h:NxOk ds k L nxl s k):NxOk ds k L nxl (s+1) 0 :=
 ⟨by rw[h.1,Nat.succ_mul];rfl,fun i b hb hi=>h.2 i b hb (by omega)⟩
theorem NxOk.pushNew {ds:List DfaV} {k s a:Nat} {L:List (List Nat)} {nxl:List Nat} (h:NxOk ds k L nxl s a) (hs:s < L.length) (ha:a < k) (hz:nxtT ds (L.getD s []) a ∉ L):NxOk ds k (L ++ [nxtT ds (L.getD s []) a]) (nxl ++ [L.length]) s (a+1):=by
 have e1:(L ++ [nxtT ds (L.getD s []) a]).getD s []=L.getD s []:=yZ hs
 have h1:=(h.more hs (nxtT ds (L.getD s []) a)).push ha (by rw[e1];simp)
 rw[e1]at h1
 have e2:(L ++ [nxtT ds (L.getD s []) a]).idxOf (nxtT ds (L.getD s []) a)=L.length:=by rw[List.idxOf_append,if_neg hz];simp
 rw[e2]at h1
 exact h1
def iB (ds:List DfaV) (k:Nat) (L:List (List Nat)) (fr bl:List Nat):Prop :=
 fr.length=L.length/\bl.length=L.length/\∀ i,0 < i->i < L.length->fr.getD i 0 < i/\bl.getD i 0 < k/\nxtT ds (L.getD (fr.getD i 0) []) (bl.getD i 0)=L.getD i []
theorem iB.push {ds:List DfaV} {k s a:Nat} {L:List (List Nat)} {fr bl:List Nat} (h:iB ds k L fr bl) (hs:s < L.length) (ha:a < k):iB ds k (L ++ [nxtT ds (L.getD s []) a]) (fr ++ [s]) (bl ++ [a]):=by
 refine⟨by simp[h.1],by simp[h.2.1],fun i h0 hi=>?_⟩
 rw[List.length_append,List.length_singleton]at hi
 by_cases e:i=L.length
 ·subst e
  have e1:(fr ++ [s]).getD L.length 0=s:=by rw[<- h.1,List.getD_eq_getElem?_getD];simp
  have e2:(bl ++ [a]).getD L.length 0=a:=by rw[<- h.2.1,List.getD_eq_getElem?_getD];simp
  rw[e1,e2,yZ hs]
  exact⟨hs,ha,by rw[List.getD_eq_getElem?_getD];simp⟩
 ·have h4:i < L.length:=by omega
  obtain⟨h1,h2,h3⟩:=h.2.2 i h0 h4
  rw[yZ (by rw[h.1];exact h4),yZ (by rw[h.2.1];exact h4),yZ (by omega),yZ h4]
  exact⟨h1,h2,h3⟩
theorem nats_setM (l:List Nat) (i x:Nat):(nats l).set i (.int .i64 (x:Int))=nats (l.set i x):=by simp[nats]
theorem bfs_inT {ds:List DfaV} {k s a:Nat} {L:List (List Nat)} (h:BfsI (nxtT ds) k (st0T ds) L s a) (ho:OkT ds k) (hs:s < L.length):InT ds (L.getD s []):=by
 obtain⟨u,hu,e⟩:=h.re (L.getD s []) (by rw[zF hs];exact List.getElem_mem hs)
 rw[<- e];exact ho.walk u ho.in0 hu
theorem cells4M {w:World} {p e:Nat} {x0 x1 x2 x3:Value} (h:w.heap[p]?=some (.cells #[x0,x1,x2,x3] e (0,0))) :
  w.cell? ⟨p,0,none⟩=some x0/\w.cell? ⟨p,1,none⟩=some x1/\w.cell? ⟨p,2,none⟩=some x2/\w.cell? ⟨p,3,none⟩=some x3:=by
 have c0:=zK h 0 (by simp)
 have c1:=zK h 1 (by simp)
 have c2:=zK h 2 (by simp)
 have c3:=zK h 3 (by simp)
 simp only[List.getElem_toArray,List.getElem_cons_zero,List.getElem_cons_succ]at c0 c1 c2 c3
 exact⟨c0,c1,c2,c3⟩
def qCW (w:World) (pv:Value) (ds:List DfaV) (k:Nat) (e:Ending) (w':World):Prop :=
 (Over ds k/\e=.returned (.tuple #[.pointer none,.bool false])/\w.grownBy w' none)\/∃ o mb L nxl fr bl,e=.returned (.tuple #[.pointer (some ⟨o,0,none⟩),.bool true])/\ProdS w w.heap.size o mb k ds.length pv L nxl fr bl L.length (L.length * k) [] w'/\BfsD (nxtT ds) k (st0T ds) L/\L.length<=4000/\NxOk ds k L nxl L.length 0/\iB ds k L fr bl/\w.grownBy w' none
set_option maxRecDepth 100000 in
set_option maxHeartbeats 4000000 in
theorem lD (Bd:Nat) (w:World) (v:Value) (ds:List DfaV) (k:Nat) (hB:Bd<=w.heap.size) (h:DsIn Bd w v ds) (hok:OkT ds k) (hk1:1<=k) (hk6:k<=6) (hl:ds.length<=400) :
  Calls Try.prog 57 #[v,.int .i64 (k:Int)] w (qCW w v ds k):=by
 obtain⟨da,dc,rfl⟩:=h.shape
 obtain⟨np,j8⟩:∃ n,n=ds.length:=⟨_,rfl⟩
 have h6:=Kh j8;have H:=Kh h;have d1:=Kh hok;have l9:=Kh (key_kb (n:=np) (by omega))
 have i3:ds.length<=400:=hl
 rw[<- j8]at hl H ⊢
 have t4:=@run_makeMap Try.prog
 clear h hok j8 i3
 go_enter Try.func57,Try.ntmps57
 go_upto_region 2 with (first|(at_make;refine kZ rfl _ _ _ rfl xQ rfl .i64 .i64 _ _ np rfl rfl rfl rfl ?b1 ?b2 ?_;(case b1=>omega);(case b2=>(unfold maxLen;omega));intro w1 l0 o3 k3)|fail)
 obtain⟨G,hG⟩:∃ b,b=w.heap.size:=⟨_,rfl⟩
 rw[<- hG]at l0 ⊢
 have r7:w.heap.size<=G:=by omega
 have x6:=Kh hG;have q6:=Kh l0;have q5:=Kh o3
 clear l0 o3 hG k3
 have e5:Hid ((st0T ds).length=np):=Kh (by rw[rM,h6.out])
 go_wp2
 go_loopg [7,8,24] np (fun gh a7 a8 i wr=>∃ j:Nat,gh+j=np/\i=.int .i64 j/\Arr wr G 3 (nats (rI (st0T ds) np j))/\w.grownBy wr none)
 case atStart=>exact⟨0,rfl,rfl,by rw[mM,yR];exact q6.out,q5.out⟩
 case round =>
  clear q6 q5
  obtain⟨j,g1,rfl,ha,hg⟩:=hrel
  have e6:=Kh g1;have t0:=Kh ha;have HG:=Kh hg
  clear g1
  by_cases hj:j < np
  ·have r0:(j:Int) < np:=by omega
   obtain⟨b,off,cap,e,k7,k6,hd⟩:=(H.out.kept hg (by simp)).head (by rw[<- h6.out];omega)
   rw[<- h6.out]at e k7
   simp only[Value.slice.injEq,true_and]at e
   obtain⟨rfl,rfl⟩:=e
   have c5:dc<=9223372036854775807:=by unfold maxLen at k6;omega
   obtain⟨n,fb,fo,fc,nb,no,nc,RB,RO,RC,hv,h5,c1,c2,c3,c4,i4⟩:=hd.dfa d1.out (by rw[<- h6.out];exact hj)
   have h3:=nS e5.out hj
   rw[gR (by rw[<- h6.out];exact hj)]at h3
   have j3:st0 (ds.getD j dN) < 512:=by have:=rB hv;omega
   obtain⟨x,hx⟩:∃ x,x=st0 (ds.getD j dN):=⟨_,rfl⟩
   rw[<- hx]at c2 h3 j3
   have d0:=Kh h3
   have fG:=ha.frozen j
   have cG:=Arr.nat ha j (by rw[sO e5.out (by omega)];exact hj)
   have r6:=ha.lt
   clear hd i4 hv hx h3 ha
   go_wp2
   go_roundg (np - (j+1))
   case measure=>have:=e6.out;omega
   case rel =>
    have r2:=zC wr ⟨G,j,none⟩ (.int .i64 (x:Int))
    have H6:=Ga (wr.setCell ⟨G,j,none⟩ (.int .i64 (x:Int))) (.cells #[.int .i64 (k:Int),.int .i64 (x:Int),.slice (some ⟨fb,fo,none⟩) n fc,.slice (some ⟨nb,no,none⟩) n nc] 42) none
    refine⟨j+1,by have:=e6.out;omega,by go_num,?_,zB (zB HG.out r2 (fun y e=>by have e:G=y:=Oj e;omega)) H6 (by simp)⟩
    rw[<- d0.out]
    exact(t0.out.nat_set j (by rw[sO e5.out (by omega)];exact hj) x).kept H6 (by simp)
  ·have n8:j=np:=by have:=e6.out;omega
   have r0:¬ (j:Int) < np:=by omega
   rw[jE e5.out n8]at ha
   have o5:=Kh ha
   obtain⟨wo,rfl⟩:∃ wo:World,wo=wr:=⟨_,rfl⟩
   obtain⟨w5,a3⟩:∃ w5,w5=(((wo.alloc (.cells #[.slice (some ⟨G,0,none⟩) np np] 34)).alloc (.cells #[.int .i64 0] 3)).alloc (.cells #[.int .i64 0] 3)).alloc (.cells #[.int .i64 (k:Int),.slice da np dc,.slice (some ⟨wo.heap.size,0,none⟩) 1 1,.slice none 0 0,.slice (some ⟨wo.heap.size+1,0,none⟩) 1 1,.slice (some ⟨wo.heap.size+1+1,0,none⟩) 1 1] 111):=⟨_,rfl⟩
   obtain⟨k8,n1,o1⟩:=prod_start (k:=k) (pv:=.slice da np dc) hg ha r7 e5.out (by omega) a3
   obtain⟨s2,n0⟩:∃ s,s=wo.heap.size:=⟨_,rfl⟩
   obtain⟨s3,m9⟩:∃ s,s=wo.heap.size+1:=⟨_,rfl⟩
   obtain⟨s4,m8⟩:∃ s,s=wo.heap.size+1+1:=⟨_,rfl⟩
   obtain⟨o,ho⟩:∃ s,s=wo.heap.size+1+1+1:=⟨_,rfl⟩
   have o7:=Kh a3;have HO:=Kh ho
   rw[<- ho,<- m8,<- m9,<- n0]at k8
   have j2:=Kh k8;have l5:=Kh n1;have m2:=Kh o1
   clear n8 hg ha a3 ho n0 m9 m8 k8 n1 o1
   go_upto_region 8 with fail
   rw[<- o7.out,<- HO.out]
   have a6:=Ga w5 (.map #[] 0) none
   have k0:=MapK.made 9 (jZ np) (fun l=>.string (txtT (kb l))) w5
   obtain⟨w6,g8⟩:∃ w6,w6=w5.alloc (.map #[] 0):=⟨_,rfl⟩
   obtain⟨mb,a0⟩:∃ b,b=w5.heap.size:=⟨_,rfl⟩
   rw[<- g8,<- a0]at k0
   rw[<- g8]at a6
   have o6:=Kh g8;have d4:=Kh a0;have p9:=Kh a6;have p8:=Kh k0
   have o9:Hid (jZ np (st0T ds)):=Kh (by
    refine⟨e5.out,fun x hx=>?_⟩
    obtain⟨i,hi,rfl⟩:=List.getElem_of_mem hx
    have:=d1.out.small d1.out.in0 i (by rw[rM]at hi;exact hi)
    rwa [zF hi]at this)
   have H8:Hid (Row w5.heap.size w5 (.slice (some ⟨G,0,none⟩) np np) (nats (st0T ds))):=Kh (l5.out.2 0 (by simp) (by simp)).1.row
   have H2:Hid (Calls Try.prog 84 #[.slice (some ⟨G,0,none⟩) np np] w6 fun e w'=>e=.returned (.string (txtT (kb (st0T ds))))/\w6.grownBy w' none):=Kh (qAB w5.heap.size w6 _ (st0T ds) np a6.size (H8.out.kept a6 (by simp)) o9.out (by omega))
   obtain⟨T0,l1⟩:∃ t,t=txtT (kb (st0T ds)):=⟨_,rfl⟩
   rw[<- l1]at H2
   have s5:=Kh l1
   clear a6 k0 g8 a0 l1
   go_wp2_with fail
   rw[<- d4.out,<- o6.out]
   refine H2.out.mono ?_
   rintro e w7 ⟨rfl,k4⟩
   have l8:=Kh (p8.out.kept k4 (by simp))
   have g7:=Kh (zB p9.out k4 (by simp))
   clear k4 H2
   obtain⟨w8,r8,f6,d9,g2⟩:=l8.out.upd l9.out (z:=st0T ds) (y:=0) (by unfold maxLen;omega) o9.out (by omega)
   have f0:Sem.run Try.prog (Instr.mapUpdate 129 (.map (some mb)) (.string T0) (.int .i64 0)) w7=.ok r8 w8:=by rw[s5.out];exact f6
   clear f6
   go_wp2
   clear f0
   have f8:(fun q=>if q=st0T ds then some 0 else (none:Option Nat))=numE [st0T ds]:=by
    funext q
    unfold numE
    by_cases e:q=st0T ds
    ·rw[if_pos e,if_pos (by simp[e]),e];simp
    ·rw[if_neg e,if_neg (by simpa using e)]
   have f9:MapK 9 (jZ np) (fun l=>.string (txtT (kb l))) w8 mb 1 1 (numE [st0T ds]):=by rw[<- f8];exact d9
   have c6:=j2.out.grow g7.out
   have j9:w5.heap.size<=mb:=by rw[d4.out];exact Nat.le_refl _
   have j7:o < w5.heap.size:=zH j2.out.box
   have l2:=o5.out.lt
   have q7:=j2.out.mem.lt G rfl
   have a1:=c6.far g2 (fun r hr=>xU (es:=#[]) (clock:=0) (c6.mem.own r hr) l8.out.obj) (fun e=>by have e:mb=G:=e;omega) (fun e=>by omega) (by have:=m2.out.size;omega)
   have p7:Hid (ProdS w w.heap.size o mb k np (.slice da np dc) [st0T ds] [] [0] [0] 1 0 [] w8):=Kh ⟨_,_,_,_,_,_,_,_,_,_,1,1,a1.rebase,l5.out.kept a1.kept a1.wk,f9,fun e=>by have e:mb=G:=e;omega,by have:=m2.out.size;omega,by omega,⟨rfl,rfl,rfl,rfl⟩,rfl⟩
   clear d9 f9 g2 f8 c6 a1 j2 l5 l8 g7 H8 p8 p9 o6 d4 j9 j7 l2 q7 o7 HO m2 o5
   go_loopg [11,12,13,14,15,16,17,18,57,65] 4000 (fun gh v11 a12 a13 a14 a15 a16 a17 a18 a57 a65 wr=>∃ (s:Nat) (L:List (List Nat)) (nxl fr bl:List Nat),gh+s=4000/\v11=.int .i64 s/\ProdS w w.heap.size o mb k np (.slice da np dc) L nxl fr bl L.length (s * k) [] wr/\BfsI (nxtT ds) k (st0T ds) L s 0/\L.length<=4000/\NxOk ds k L nxl s 0/\iB ds k L fr bl)
   case atStart=>exact⟨0,[st0T ds],[],[0],[0],rfl,rfl,by rw[Nat.zero_mul];exact p7.out,BfsI.start,by simp,⟨by simp,fun i b hb hi=>by omega⟩,⟨rfl,rfl,fun i h0 hi=>by simp at hi;omega⟩⟩
   case round =>
    clear p7
    obtain⟨s,L,nxl,fr,bl,g1,rfl,hp,a9,b0,d8,e0⟩:=hrel
    have e6:=Kh g1;have HP:=Kh hp;have b4:=Kh a9;have d2:=Kh d8;have d7:=Kh e0
    have a4:=a9.le
    obtain⟨m,hm⟩:∃ m,m=L.length:=⟨_,rfl⟩
    rw[<- hm]at a4 b0 HP
    have h8:=Kh hm
    obtain⟨sS,cS,sN,cN,sF,cF,sB,cB,h7,_⟩:=HP.out.cells
    obtain⟨x0,x1,x2,x3,x4,x5⟩:=mU h7
    clear g1 hp a9 d8 e0 hm h7
    by_cases hs:s < m
    case neg =>
     have j4:¬ (s:Int) < m:=by omega
     have q8:s=m:=by omega
     have HD:Hid (BfsD (nxtT ds) k (st0T ds) L):=Kh (b4.out.done (by rw[<- h8.out];omega))
     subst q8
     go_wp2
     refine bodyPost_ret (v:=.tuple #[.pointer (some ⟨o,0,none⟩),.bool true]) (by simp[results,Try.results57,go_sem]) rfl ?_
     refine .inr ⟨o,mb,L,nxl,fr,bl,rfl,?_,HD.out,by rw[<- h8.out];exact b0,?_,d7.out,HP.out.facts.1⟩
     ·have:=HP.out;rw[h8.out,h6.out]at this;rw[<- h6.out];rw[h6.out];exact this
     ·have:=d2.out;rw[h8.out]at this;exact this
    have j4:(s:Int) < m:=by omega
    have o8:Hid (s < L.length):=Kh (by rw[<- h8.out];exact hs)
    have p6:Hid (ProdS w w.heap.size o mb k np (.slice da np dc) L nxl fr bl L.length (s * k) [] wr):=Kh (by have:=HP.out;rw[h8.out]at this;exact this)
    have d5:Hid (L.length<=4000):=Kh (by rw[<- h8.out];exact b0)
    go_wp2
    clear x0 x1 x2 x3 x4 x5 hs j4 a4 b0 HP
    go_loopg [12,13,14,15,16,17,18,57,65] k (fun gh b12 b13 b14 b15 b16 b17 b18 b57 b65 w2=>∃ (a:Nat) (L:List (List Nat)) (nxl fr bl:List Nat),gh+a=k/\b57=.int .i64 a/\ProdS w w.heap.size o mb k np (.slice da np dc) L nxl fr bl L.length (s * k+a) [] w2/\BfsI (nxtT ds) k (st0T ds) L s a/\s < L.length/\L.length<=4000/\NxOk ds k L nxl s a/\iB ds k L fr bl)
    case atStart=>exact⟨0,L,nxl,fr,bl,rfl,rfl,p6.out,b4.out,o8.out,d5.out,d2.out,d7.out⟩
    case round =>
     clear p6 b4 d2 d7 h8 o8 d5
     obtain⟨w2,rfl⟩:∃ w2:World,w2=wr:=⟨_,rfl⟩
     obtain⟨a,L2,nx2,fr2,bl2,H6,rfl,hp,a9,a4,b0,d8,e0⟩:=hrel
     have j1:=Kh H6;have HP:=Kh hp;have b4:=Kh a9;have d2:=Kh d8;have d7:=Kh e0
     have b3:=Kh a4;have d5:=Kh b0
     by_cases ha:a < k
     case neg =>
      have r4:¬ (a:Int) < k:=by omega
      have o4:a=k:=by omega
      have m4:=Kh o4
      clear H6 hp a9 a4 b0 d8 e0 o4
      go_wp2
      go_roundg (4000 - (s+1))
      case measure=>have:=e6.out;have:=b3.out;have:=d5.out;omega
      case rel =>
       have h9:s < 4000:=by have:=b3.out;have:=d5.out;omega
       refine⟨s+1,L2,nx2,fr2,bl2,by have:=e6.out;omega,by(refine congrArg _ ?_;rw[IntWalk.wrap64_in _ (by omega)];omega),?_,?_,d5.out,?_,d7.out⟩
       ·rw[Nat.succ_mul];have:=HP.out;rw[m4.out]at this;exact this
       ·have:=b4.out;rw[m4.out]at this;exact this.next b3.out
       ·have:=d2.out;rw[m4.out]at this;exact this.next
     have r4:(a:Int) < k:=by omega
     have d6:=Kh (bfs_inT a9 d1.out a4)
     obtain⟨x,hx⟩:∃ x,x=L2.getD s []:=⟨_,rfl⟩
     rw[<- hx]at d6
     have HX:=Kh hx
     obtain⟨q0,j6⟩:∃ q,q=s * k+a:=⟨_,rfl⟩
     rw[<- j6]at HP
     have i5:=Kh j6
     obtain⟨m,hm⟩:∃ m,m=L2.length:=⟨_,rfl⟩
     rw[<- hm]at HP b0 a4
     have h8:=Kh hm
     clear H6 hp a9 d8 e0 hx j6 hm
     go_upto_region 16 with (first|(at_make;refine make1o rfl _ _ _ rfl xQ rfl .i64 .i64 _ _ np rfl rfl rfl rfl ?b1 ?b2 ?_;(case b1=>omega);(case b2=>(unfold maxLen;omega));intro w3 a5 o2 k2)|fail)
     obtain⟨rb,n3⟩:∃ b,b=w2.heap.size:=⟨_,rfl⟩
     have i2:=HP.out.addRow o2 a5 (by decide)
     rw[<- n3]at i2 ⊢
     rw[<- yR,<- mM (nxtT ds x a)]at i2
     have p5:=Kh i2
     have i7:Hid ((nxtT ds x a).length=np):=Kh (by rw[oM,h6.out])
     have t9:Hid (w.heap.size<=rb):=Kh (by have:=HP.out.facts;omega)
     clear a5 o2 k2 i2 n3 HP
     go_wp2
     go_loopg [14,15,65] np (fun gh c14 c15 c65 w4=>∃ i:Nat,gh+i=np/\c65=.int .i64 i/\ProdS w w.heap.size o mb k np (.slice da np dc) L2 nx2 fr2 bl2 m q0 [⟨w.heap.size,3,.slice (some ⟨rb,0,none⟩) np np,np,nats (rI (nxtT ds x a) np i),1⟩] w4)
     case atStart=>exact⟨0,rfl,rfl,p5.out⟩
     case round =>
      clear p5
      obtain⟨w4,rfl⟩:∃ w4:World,w4=wr:=⟨_,rfl⟩
      obtain⟨i,o0,rfl,hp⟩:=hrel
      have m1:=Kh o0;have HP:=Kh hp
      clear o0
      by_cases hi:i < np
      case pos =>
       have r1:(i:Int) < np:=by omega
       obtain⟨b,off,cap,e,k7,k6,hd⟩:=(H.out.kept hp.facts.1 (by simp)).head (by rw[<- h6.out];omega)
       rw[<- h6.out]at e k7
       simp only[Value.slice.injEq,true_and]at e
       obtain⟨rfl,rfl⟩:=e
       have c5:dc<=9223372036854775807:=by unfold maxLen at k6;omega
       obtain⟨n,fb,fo,fc,nb,no,nc,RB,RO,RC,hv,h5,c1,c2,c3,c4,i4⟩:=hd.dfa d1.out (by rw[<- h6.out];exact hi)
       have hq:x.getD i 0 < n:=by have:=d6.out.2 i (by rw[<- h6.out];exact hi);rw[hv.hn]at this;exact this
       have s9:=Kh i4;have HD:=Kh hd
       obtain⟨st,e9⟩:∃ y,y=st0 (ds.getD i dN):=⟨_,rfl⟩
       rw[<- e9]at c2
       have HQ:=Kh hq
       clear hd i4 hv hp e9
       go_upto_region 19 with fail
       have H6:=Ga w4 (.cells #[.int .i64 (k:Int),.int .i64 (st:Int),.slice (some ⟨fb,fo,none⟩) n fc,.slice (some ⟨nb,no,none⟩) n nc] 42) none
       have k9:=heap_alloc_new w4 (.cells #[.int .i64 (k:Int),.int .i64 (st:Int),.slice (some ⟨fb,fo,none⟩) n fc,.slice (some ⟨nb,no,none⟩) n nc] 42)
       obtain⟨w5,a3⟩:∃ w5,w5=w4.alloc (.cells #[.int .i64 (k:Int),.int .i64 (st:Int),.slice (some ⟨fb,fo,none⟩) n fc,.slice (some ⟨nb,no,none⟩) n nc] 42):=⟨_,rfl⟩
       obtain⟨db,k5⟩:∃ b,b=w4.heap.size:=⟨_,rfl⟩
       rw[<- a3]at H6
       rw[<- a3,<- k5]at k9
       rw[<- a3,<- k5]
       obtain⟨_,_,_,d3⟩:=cells4M k9
       have i1:=HP.out.grow H6
       have s6:=Kh i1
       have H7:=s9.out.kept H6 (by simp)
       have e1:=H7.hd (x.getD i 0) HQ.out
       have e2:=H7.el (x.getD i 0) a HQ.out ha
       have e3:=H7.cap
       have e4:=H7.rcap (x.getD i 0) HQ.out
       obtain⟨sS,cS,sN,cN,sF,cF,sB,cB,h7,g9⟩:=i1.cells
       obtain⟨x0,x1,x2,x3,x4,x5⟩:=mU h7
       obtain⟨sb,rfl,r3,g3,g9⟩:=g9 (by omega)
       obtain⟨g,go,gc,f1,f2,f3,f4⟩:=g9 s a4 (by rw[<- HX.out];intro e;have:=d6.out.1;rw[e,<- h6.out]at this;simp at this;omega)
       rw[<- HX.out]at f1 f2 f4
       have f5:=f4 i (by rw[d6.out.1,<- h6.out];exact hi)
       rw[d6.out.1,<- h6.out]at f1 f2
       have hR:=i1.arr
       have fR:=hR.frozen i
       have cR:=Arr.nat hR i (by rw[sO i7.out (by omega)];exact hi)
       have r5:=hR.lt
       have t7:cS<=9223372036854775807:=by unfold maxLen at g3;omega
       have t6:gc<=9223372036854775807:=by unfold maxLen at f3;omega
       have t3:nc<=9223372036854775807:=by unfold maxLen at e3;omega
       have n2:RC (x.getD i 0)<=9223372036854775807:=by unfold maxLen at e4;omega
       have h3:=nS i7.out hi
       rw[fH (by rw[<- h6.out];exact hi)]at h3
       obtain⟨qq,j5⟩:∃ q,q=x.getD i 0:=⟨_,rfl⟩
       rw[<- j5]at e1 e2 e4 f5 h3 n2
       have t2:(qq:Int) < n:=by rw[j5];have:=HQ.out;omega
       obtain⟨rb2,c0⟩:∃ r,r=RB qq:=⟨_,rfl⟩
       obtain⟨ro2,b8⟩:∃ r,r=RO qq:=⟨_,rfl⟩
       obtain⟨rc2,b9⟩:∃ r,r=RC qq:=⟨_,rfl⟩
       obtain⟨y,hy⟩:∃ y,y=nx (ds.getD i dN) qq a:=⟨_,rfl⟩
       rw[<- c0,<- b8,<- b9]at e1
       rw[<- c0,<- b8,<- hy]at e2
       rw[<- b9]at e4 n2
       rw[<- hy]at h3
       have d0:=Kh h3
       obtain⟨e3a,_⟩:=e3
       obtain⟨e4a,_⟩:=e4
       have j4:(s:Int) < m:=by omega
       clear h3 hy c0 b8 b9 j5 f4 g9 h7 i1 H7 k9 H6 a3 k5 d6 hR g3 f3
       go_region
       all_goals (try go_frame)
       go_wp2
       go_roundg (np - (i+1))
       case measure=>have:=m1.out;omega
       case rel =>
        refine⟨i+1,by have:=m1.out;omega,by go_num,?_⟩
        rw[<- d0.out,<- nats_setM]
        exact(s6.out.put hi (.int .i64 (y:Int))).grow (zL _ none)
      case neg =>
       have r1:¬ (i:Int) < np:=by omega
       have n9:i=np:=by have:=m1.out;omega
       rw[jE i7.out n9]at hp
       obtain⟨z,hz⟩:∃ z,z=nxtT ds x a:=⟨_,rfl⟩
       have e7:z.length=np:=by rw[hz];exact i7.out
       have l4:Hid (jZ np z):=Kh (by
        have h1:=d1.out.next d6.out ha
        rw[<- hz]at h1
        refine⟨e7,fun y hy=>?_⟩
        obtain⟨j,hj,rfl⟩:=List.getElem_of_mem hy
        have:=d1.out.small h1 j (by rw[<- h6.out,<- e7];exact hj)
        rwa [zF hj]at this)
       rw[<- hz]at hp
       have p0:=Kh hp
       have H8:Hid (Row w4.heap.size w4 (.slice (some ⟨rb,0,none⟩) np np) (nats z)):=Kh (qBU (X:=fun _=>True) hp.arr e7 (by unfold maxLen;omega) trivial).row
       have H2:Hid (Calls Try.prog 84 #[.slice (some ⟨rb,0,none⟩) np np] w4 fun e w'=>e=.returned (.string (txtT (kb z)))/\w4.grownBy w' none):=Kh (qAB w4.heap.size w4 _ z np (Nat.le_refl _) H8.out l4.out (by omega))
       obtain⟨T,hT⟩:∃ t,t=txtT (kb z):=⟨_,rfl⟩
       rw[<- hT]at H2
       have HT:=Kh hT;have HZ:=Kh hz;have t8:=Kh e7
       clear n9 hp hz hT e7 HP H8
       go_wp2_with fail
       refine H2.out.mono ?_
       rintro e w6 ⟨rfl,a6⟩
       have i0:=p0.out.grow a6
       obtain⟨u,c,hu,hM⟩:=i0.map
       have i6:=Kh i0;have HM:=Kh hM;have HU:=Kh hu
       obtain⟨sS,cS,sN,cN,sF,cF,sB,cB,h7,_⟩:=i0.cells
       obtain⟨x0,x1,x2,x3,x4,x5⟩:=mU h7
       have H1:=hM.lookup l9.out l4.out
       clear a6 i0 hM hu h7 H2 p0
       have m3:Hid (L2[s]?=some x):=Kh (by rw[HX.out,List.getD_eq_getElem?_getD,List.getElem?_eq_getElem b3.out];rfl)
       by_cases hmem:z∈L2
       case pos =>
        obtain⟨y,hy⟩:∃ y,y=L2.idxOf z:=⟨_,rfl⟩
        have t1:y < m:=by rw[hy,h8.out];exact List.idxOf_lt_length_of_mem hmem
        have i3:Sem.run Try.prog (Instr.lookup 129 (.map (some mb)) (.string T) true) w6=.ok (.tuple #[.int .i64 (y:Int),.bool true]) w6:=by
         rw[numE_of_mem hmem,<- hy]at H1
         rw[HT.out];exact H1
        obtain⟨X,hs,sS,sN,sF,sB,cS,cN,cF,cB,hB,r9,hE,c5,a0,hl,g0⟩:=i6.out.open_ (zN w6 (some mb)) HM.out.obj
        obtain⟨X1,c7⟩:∃ X1,X1=fun j=>X j\/j=mb:=⟨_,rfl⟩
        rw[<- c7]at hB
        have HS:=Kh hB;have HE:=Kh hE;have l7:=Kh c5;have d4:=Kh a0;have HL:=Kh hl;have m0:=Kh g0;have l3:=Kh c7;have HY:=Kh hy;have H5:=Kh hmem
        have l6:Hid (q0<=24000):=Kh (by rw[i5.out];have h1:s * k<=3999 * 6:=Nat.mul_le_mul (by omega) hk6;omega)
        have q9:=l6.out
        clear x0 x1 x2 x3 x4 x5 H1 hB r9 hE c5 a0 hl g0 c7 hy hmem
        have q1:=zK HS.out.box 3 (by simp)
        simp only[List.getElem_toArray,List.getElem_cons_zero,List.getElem_cons_succ]at q1
        have f7:=HS.out.own (r:=⟨w.heap.size,3,.slice sN q0 cN,q0,nats nx2,1⟩) (by simp)
        have e8:=Nat.le_trans HS.out.base HS.out.wk
        go_upto_region 32 with (first|(at_builtin;refine sQ rfl _ _ _ rfl xQ.toN w.heap.size (.slice sN q0 cN) (q0) (nats nx2) rfl f7 [.int .i64 (y:Int)] rfl rfl ?z1 ?z2 ?z3 ?z4 ?_;(case z1=>(intro v hv;simp only[List.mem_cons,List.not_mem_nil,or_false]at hv;subst hv;rfl));(case z2=>(unfold maxLen;omega));(case z3=>(show (q0+1) * 8<=140737488355328;omega));(case z4=>exact e8);intro sn1 cn1 wM1 h2 H4 H3;(have a2:Hid (BoxS w.heap.size X1 o 111 w w6 (⟨w.heap.size,34,.slice sS m cS,m,hs,1⟩ :: ⟨w.heap.size,3,.slice sn1 (q0+1) cn1,(q0+1),nats nx2 ++ [.int .i64 (y:Int)],1⟩ :: ⟨w.heap.size,3,.slice sF m cF,m,nats fr2,1⟩ :: ⟨w.heap.size,3,.slice sB m cB,m,nats bl2,1⟩ :: []) #[.int .i64 (k:Int),.slice da np dc,.slice sS m cS,.slice sN q0 cN,.slice sF m cF,.slice sB m cB] wM1):=Kh (HS.out.appAt (j:=1) rfl h2 H4 H3));(have p1:=zK a2.out.box 3 (by simp));simp only[List.getElem_toArray,List.getElem_cons_zero,List.getElem_cons_succ]at p1;(have f1:=zE a2.out.box 3);clear h2 H4 H3 q1)|fail)
        obtain⟨wZ1,H0⟩:∃ wZ,wZ=wM1.setCell ⟨o,3,none⟩ (.slice sn1 (q0+1) cn1):=⟨_,rfl⟩
        have c8:Hid (BoxS w.heap.size X1 o 111 w w6 (⟨w.heap.size,34,.slice sS m cS,m,hs,1⟩ :: ⟨w.heap.size,3,.slice sn1 (q0+1) cn1,(q0+1),nats nx2 ++ [.int .i64 (y:Int)],1⟩ :: ⟨w.heap.size,3,.slice sF m cF,m,nats fr2,1⟩ :: ⟨w.heap.size,3,.slice sB m cB,m,nats bl2,1⟩ :: []) #[.int .i64 (k:Int),.slice da np dc,.slice sS m cS,.slice sn1 (q0+1) cn1,.slice sF m cF,.slice sB m cB] wZ1):=Kh (by rw[H0];exact a2.out.set 3 (.slice sn1 (q0+1) cn1))
        rw[<- H0]
        clear H0 f7 e8 a2 p1 f1
        go_wp2
        go_roundg (k - (a+1))
        case measure=>have:=j1.out;omega
        case rel =>
         have H9:z=nxtT ds (L2.getD s []) a:=by rw[HZ.out,HX.out]
         refine⟨a+1,L2,nx2 ++ [y],fr2,bl2,by have:=j1.out;omega,by go_num,?_,b4.out.old m3.out (by rw[<- HX.out]at H9;rw[<- H9];exact H5.out),b3.out,d5.out,?_,d7.out⟩
         ·have e1:s * k+(a+1)=q0+1:=by rw[i5.out];rfl
          rw[e1,<- h8.out]
          have hb:=c8.out
          rw[<- qS,l3.out]at hb
          exact iQ hb HE.out HM.out l7.out d4.out HU.out ⟨HL.out.1,by rw[List.length_append,HL.out.2.1];rfl,HL.out.2.2⟩ m0.out
         ·rw[HY.out,H9]
          exact d2.out.push ha (by rw[<- H9];exact H5.out)
       case neg =>
        have i3:Sem.run Try.prog (Instr.lookup 129 (.map (some mb)) (.string T) true) w6=.ok (.tuple #[.int .i64 0,.bool false]) w6:=by
         rw[numE_not hmem]at H1
         rw[HT.out];exact H1
        have H9:z=nxtT ds (L2.getD s []) a:=by rw[HZ.out,HX.out]
        have g4:=Kh H9;have H5:=Kh hmem
        by_cases h4:m=4000
        case pos =>
         have s7:Hid (Over ds k):=Kh (b4.out.over (by rw[<- h8.out];exact h4) ha m3.out (by rw[<- HX.out]at H9;rw[<- H9];exact hmem))
         subst h4
         clear H1 H9 hmem
         go_wp2
         refine bodyPost_ret (v:=.tuple #[.pointer none,.bool false]) (by simp[results,Try.results57,go_sem]) rfl ?_
         exact .inl ⟨s7.out,rfl,i6.out.facts.1⟩
        have s0:¬ (m:Int)=4000:=by omega
        clear H1 H9 hmem
        go_upto_region 28 with (first|(at_mapUpdate;refine kO l9.out rfl _ _ _ rfl mb u c (numE L2) z m rfl ?k1 rfl HM.out (by have:=HU.out;unfold maxLen;omega) l4.out (by omega) ?_;(case k1=>(show _=Value.string (txtT (kb z));rw[<- HT.out];rfl));intro w8 d9 g2)|fail)
        obtain⟨c9,n7⟩:∃ c9,MapK 9 (jZ np) (fun l=>.string (txtT (kb l))) w8 mb (u+1) c9 (numE (L2 ++ [z])):=⟨_,by rw[<- numE_snoc H5.out,<- h8.out];exact d9⟩
        obtain⟨X,hs,sS,sN,sF,sB,cS,cN,cF,cB,hB,hE,_,c5,a0,hl,g0⟩:=i6.out.open_ g2 d9.obj
        obtain⟨X1,c7⟩:∃ X1,X1=fun j=>X j\/j=mb:=⟨_,rfl⟩
        rw[<- c7]at hB
        have HS:=Kh hB;have HE:=Kh hE;have l7:=Kh c5;have d4:=Kh a0;have HL:=Kh hl;have m0:=Kh g0;have l3:=Kh c7;have s8:=Kh n7
        have l6:Hid (q0<=24000):=Kh (by rw[i5.out];have h1:s * k<=3999 * 6:=Nat.mul_le_mul (by omega) hk6;omega)
        have q9:=l6.out
        have t5:m < 4000:=by omega
        clear x0 x1 x2 x3 x4 x5 hB hE c5 a0 hl g0 c7 d9 n7 g2 h4 s0 i3 i6 HM
        have q1:=zK HS.out.box 2 (by simp)
        simp only[List.getElem_toArray,List.getElem_cons_zero,List.getElem_cons_succ]at q1
        have f7:=HS.out.own (r:=⟨w.heap.size,34,.slice sS m cS,m,hs,1⟩) (by simp)
        have e8:=Nat.le_trans HS.out.base HS.out.wk
        go_upto_region 29 with (first|(at_builtin;refine sQ rfl _ _ _ rfl kD.toN w.heap.size (.slice sS m cS) (m) (hs) rfl f7 [.slice (some ⟨rb,0,none⟩) np np] rfl rfl ?z1 ?z2 ?z3 ?z4 ?_;(case z1=>(intro v hv;simp only[List.mem_cons,List.not_mem_nil,or_false]at hv;subst hv;rfl));(case z2=>(unfold maxLen;omega));(case z3=>(show (m+1) * 24<=140737488355328;omega));(case z4=>exact e8);intro sn1 cn1 wM1 h2 H4 H3;(have a2:Hid (BoxS w.heap.size X1 o 111 w w8 (⟨w.heap.size,34,.slice sn1 (m+1) cn1,(m+1),hs ++ [.slice (some ⟨rb,0,none⟩) np np],1⟩ :: ⟨w.heap.size,3,.slice sN q0 cN,q0,nats nx2,1⟩ :: ⟨w.heap.size,3,.slice sF m cF,m,nats fr2,1⟩ :: ⟨w.heap.size,3,.slice sB m cB,m,nats bl2,1⟩ :: []) #[.int .i64 (k:Int),.slice da np dc,.slice sS m cS,.slice sN q0 cN,.slice sF m cF,.slice sB m cB] wM1):=Kh (HS.out.appAt (j:=0) rfl h2 H4 H3));(have p1:=zK a2.out.box 2 (by simp));simp only[List.getElem_toArray,List.getElem_cons_zero,List.getElem_cons_succ]at p1;(have f1:=zE a2.out.box 2);clear h2 H4 H3 q1)|fail)
        obtain⟨wZ1,H0⟩:∃ wZ,wZ=wM1.setCell ⟨o,2,none⟩ (.slice sn1 (m+1) cn1):=⟨_,rfl⟩
        have c8:Hid (BoxS w.heap.size X1 o 111 w w8 (⟨w.heap.size,34,.slice sn1 (m+1) cn1,(m+1),hs ++ [.slice (some ⟨rb,0,none⟩) np np],1⟩ :: ⟨w.heap.size,3,.slice sN q0 cN,q0,nats nx2,1⟩ :: ⟨w.heap.size,3,.slice sF m cF,m,nats fr2,1⟩ :: ⟨w.heap.size,3,.slice sB m cB,m,nats bl2,1⟩ :: []) #[.int .i64 (k:Int),.slice da np dc,.slice sn1 (m+1) cn1,.slice sN q0 cN,.slice sF m cF,.slice sB m cB] wZ1):=Kh (by rw[H0];exact a2.out.set 2 (.slice sn1 (m+1) cn1))
        rw[<- H0]
        clear H0 f7 e8 a2 p1 f1
        have q2:=zK c8.out.box 4 (by simp)
        simp only[List.getElem_toArray,List.getElem_cons_zero,List.getElem_cons_succ]at q2
        have n6:=c8.out.own (r:=⟨w.heap.size,3,.slice sF m cF,m,nats fr2,1⟩) (by simp)
        have m7:=Nat.le_trans c8.out.base c8.out.wk
        go_upto_region 30 with (first|(at_builtin;refine sQ rfl _ _ _ rfl xQ.toN w.heap.size (.slice sF m cF) (m) (nats fr2) rfl n6 [.int .i64 (s:Int)] rfl rfl ?z1 ?z2 ?z3 ?z4 ?_;(case z1=>(intro v hv;simp only[List.mem_cons,List.not_mem_nil,or_false]at hv;subst hv;rfl));(case z2=>(unfold maxLen;omega));(case z3=>(show (m+1) * 8<=140737488355328;omega));(case z4=>exact m7);intro sn2 cn2 wM2 h2 H4 H3;(have j0:Hid (BoxS w.heap.size X1 o 111 w w8 (⟨w.heap.size,34,.slice sn1 (m+1) cn1,(m+1),hs ++ [.slice (some ⟨rb,0,none⟩) np np],1⟩ :: ⟨w.heap.size,3,.slice sN q0 cN,q0,nats nx2,1⟩ :: ⟨w.heap.size,3,.slice sn2 (m+1) cn2,(m+1),nats fr2 ++ [.int .i64 (s:Int)],1⟩ :: ⟨w.heap.size,3,.slice sB m cB,m,nats bl2,1⟩ :: []) #[.int .i64 (k:Int),.slice da np dc,.slice sn1 (m+1) cn1,.slice sN q0 cN,.slice sF m cF,.slice sB m cB] wM2):=Kh (c8.out.appAt (j:=2) rfl h2 H4 H3));(have p2:=zK j0.out.box 4 (by simp));simp only[List.getElem_toArray,List.getElem_cons_zero,List.getElem_cons_succ]at p2;(have f2:=zE j0.out.box 4);clear h2 H4 H3 q2)|fail)
        obtain⟨wZ2,b7⟩:∃ wZ,wZ=wM2.setCell ⟨o,4,none⟩ (.slice sn2 (m+1) cn2):=⟨_,rfl⟩
        have g6:Hid (BoxS w.heap.size X1 o 111 w w8 (⟨w.heap.size,34,.slice sn1 (m+1) cn1,(m+1),hs ++ [.slice (some ⟨rb,0,none⟩) np np],1⟩ :: ⟨w.heap.size,3,.slice sN q0 cN,q0,nats nx2,1⟩ :: ⟨w.heap.size,3,.slice sn2 (m+1) cn2,(m+1),nats fr2 ++ [.int .i64 (s:Int)],1⟩ :: ⟨w.heap.size,3,.slice sB m cB,m,nats bl2,1⟩ :: []) #[.int .i64 (k:Int),.slice da np dc,.slice sn1 (m+1) cn1,.slice sN q0 cN,.slice sn2 (m+1) cn2,.slice sB m cB] wZ2):=Kh (by rw[b7];exact j0.out.set 4 (.slice sn2 (m+1) cn2))
        rw[<- b7]
        clear b7 n6 m7 j0 p2 f2
        have q3:=zK g6.out.box 5 (by simp)
        simp only[List.getElem_toArray,List.getElem_cons_zero,List.getElem_cons_succ]at q3
        have n5:=g6.out.own (r:=⟨w.heap.size,3,.slice sB m cB,m,nats bl2,1⟩) (by simp)
        have m6:=Nat.le_trans g6.out.base g6.out.wk
        go_upto_region 31 with (first|(at_builtin;refine sQ rfl _ _ _ rfl xQ.toN w.heap.size (.slice sB m cB) (m) (nats bl2) rfl n5 [.int .i64 (a:Int)] rfl rfl ?z1 ?z2 ?z3 ?z4 ?_;(case z1=>(intro v hv;simp only[List.mem_cons,List.not_mem_nil,or_false]at hv;subst hv;rfl));(case z2=>(unfold maxLen;omega));(case z3=>(show (m+1) * 8<=140737488355328;omega));(case z4=>exact m6);intro sn3 cn3 wM3 h2 H4 H3;(have i9:Hid (BoxS w.heap.size X1 o 111 w w8 (⟨w.heap.size,34,.slice sn1 (m+1) cn1,(m+1),hs ++ [.slice (some ⟨rb,0,none⟩) np np],1⟩ :: ⟨w.heap.size,3,.slice sN q0 cN,q0,nats nx2,1⟩ :: ⟨w.heap.size,3,.slice sn2 (m+1) cn2,(m+1),nats fr2 ++ [.int .i64 (s:Int)],1⟩ :: ⟨w.heap.size,3,.slice sn3 (m+1) cn3,(m+1),nats bl2 ++ [.int .i64 (a:Int)],1⟩ :: []) #[.int .i64 (k:Int),.slice da np dc,.slice sn1 (m+1) cn1,.slice sN q0 cN,.slice sn2 (m+1) cn2,.slice sB m cB] wM3):=Kh (g6.out.appAt (j:=3) rfl h2 H4 H3));(have p3:=zK i9.out.box 5 (by simp));simp only[List.getElem_toArray,List.getElem_cons_zero,List.getElem_cons_succ]at p3;(have f3:=zE i9.out.box 5);clear h2 H4 H3 q3)|fail)
        obtain⟨wZ3,b6⟩:∃ wZ,wZ=wM3.setCell ⟨o,5,none⟩ (.slice sn3 (m+1) cn3):=⟨_,rfl⟩
        have g5:Hid (BoxS w.heap.size X1 o 111 w w8 (⟨w.heap.size,34,.slice sn1 (m+1) cn1,(m+1),hs ++ [.slice (some ⟨rb,0,none⟩) np np],1⟩ :: ⟨w.heap.size,3,.slice sN q0 cN,q0,nats nx2,1⟩ :: ⟨w.heap.size,3,.slice sn2 (m+1) cn2,(m+1),nats fr2 ++ [.int .i64 (s:Int)],1⟩ :: ⟨w.heap.size,3,.slice sn3 (m+1) cn3,(m+1),nats bl2 ++ [.int .i64 (a:Int)],1⟩ :: []) #[.int .i64 (k:Int),.slice da np dc,.slice sn1 (m+1) cn1,.slice sN q0 cN,.slice sn2 (m+1) cn2,.slice sn3 (m+1) cn3] wZ3):=Kh (by rw[b6];exact i9.out.set 5 (.slice sn3 (m+1) cn3))
        rw[<- b6]
        clear b6 n5 m6 i9 p3 f3
        have q4:=zK g5.out.box 3 (by simp)
        simp only[List.getElem_toArray,List.getElem_cons_zero,List.getElem_cons_succ]at q4
        have n4:=g5.out.own (r:=⟨w.heap.size,3,.slice sN q0 cN,q0,nats nx2,1⟩) (by simp)
        have m5:=Nat.le_trans g5.out.base g5.out.wk
        go_upto_region 32 with (first|(at_builtin;refine sQ rfl _ _ _ rfl xQ.toN w.heap.size (.slice sN q0 cN) (q0) (nats nx2) rfl n4 [.int .i64 (m:Int)] rfl rfl ?z1 ?z2 ?z3 ?z4 ?_;(case z1=>(intro v hv;simp only[List.mem_cons,List.not_mem_nil,or_false]at hv;subst hv;rfl));(case z2=>(unfold maxLen;omega));(case z3=>(show (q0+1) * 8<=140737488355328;omega));(case z4=>exact m5);intro sn4 cn4 wM4 h2 H4 H3;(have i8:Hid (BoxS w.heap.size X1 o 111 w w8 (⟨w.heap.size,34,.slice sn1 (m+1) cn1,(m+1),hs ++ [.slice (some ⟨rb,0,none⟩) np np],1⟩ :: ⟨w.heap.size,3,.slice sn4 (q0+1) cn4,(q0+1),nats nx2 ++ [.int .i64 (m:Int)],1⟩ :: ⟨w.heap.size,3,.slice sn2 (m+1) cn2,(m+1),nats fr2 ++ [.int .i64 (s:Int)],1⟩ :: ⟨w.heap.size,3,.slice sn3 (m+1) cn3,(m+1),nats bl2 ++ [.int .i64 (a:Int)],1⟩ :: []) #[.int .i64 (k:Int),.slice da np dc,.slice sn1 (m+1) cn1,.slice sN q0 cN,.slice sn2 (m+1) cn2,.slice sn3 (m+1) cn3] wM4):=Kh (g5.out.appAt (j:=1) rfl h2 H4 H3));(have p4:=zK i8.out.box 3 (by simp));simp only[List.getElem_toArray,List.getElem_cons_zero,List.getElem_cons_succ]at p4;(have f4:=zE i8.out.box 3);clear h2 H4 H3 q4)|fail)
        obtain⟨wZ4,b5⟩:∃ wZ,wZ=wM4.setCell ⟨o,3,none⟩ (.slice sn4 (q0+1) cn4):=⟨_,rfl⟩
        have s1:Hid (BoxS w.heap.size X1 o 111 w w8 (⟨w.heap.size,34,.slice sn1 (m+1) cn1,(m+1),hs ++ [.slice (some ⟨rb,0,none⟩) np np],1⟩ :: ⟨w.heap.size,3,.slice sn4 (q0+1) cn4,(q0+1),nats nx2 ++ [.int .i64 (m:Int)],1⟩ :: ⟨w.heap.size,3,.slice sn2 (m+1) cn2,(m+1),nats fr2 ++ [.int .i64 (s:Int)],1⟩ :: ⟨w.heap.size,3,.slice sn3 (m+1) cn3,(m+1),nats bl2 ++ [.int .i64 (a:Int)],1⟩ :: []) #[.int .i64 (k:Int),.slice da np dc,.slice sn1 (m+1) cn1,.slice sn4 (q0+1) cn4,.slice sn2 (m+1) cn2,.slice sn3 (m+1) cn3] wZ4):=Kh (by rw[b5];exact i8.out.set 3 (.slice sn4 (q0+1) cn4))
        rw[<- b5]
        clear b5 n4 m5 i8 p4 f4
        go_wp2
        go_roundg (k - (a+1))
        case measure=>have:=j1.out;omega
        case rel =>
         refine⟨a+1,L2 ++ [z],nx2 ++ [m],fr2 ++ [s],bl2 ++ [a],by have:=j1.out;omega,by go_num,?_,?_,by rw[List.length_append];have:=b3.out;omega,by rw[List.length_append,<- h8.out];show m+1<=4000;omega,?_,?_⟩
         ·have e1:s * k+(a+1)=q0+1:=by rw[i5.out];rfl
          have e2:(L2 ++ [z]).length=m+1:=by rw[List.length_append,<- h8.out];rfl
          rw[e1,e2]
          have hb:=s1.out
          rw[<- qS,<- qS,<- qS,l3.out]at hb
          exact iQ hb HE.out s8.out l7.out d4.out (by have:=HU.out;omega) ⟨e2,by rw[List.length_append,HL.out.2.1];rfl,by rw[List.length_append,HL.out.2.2.1];rfl,by rw[List.length_append,HL.out.2.2.2];rfl⟩ (by rw[List.length_append,m0.out];rfl)
         ·have h1:=b4.out.new ha m3.out (by rw[HX.out,<- g4.out];exact H5.out)
          rw[HX.out,<- g4.out]at h1
          exact h1
         ·have h1:=d2.out.pushNew b3.out ha (by rw[<- g4.out];exact H5.out)
          rw[<- g4.out,<- h8.out]at h1
          exact h1
         ·have h1:=d7.out.push b3.out ha
          rw[<- g4.out]at h1
          exact h1
end Go.Proofs.Ytjfdomfendbhfaa
