/- Part 17 of the proof: PMin, Minimal. -/
import Derived.Test.YtjfdomfendbhfaaQe16
set_option linter.unusedVariables false
set_option linter.unusedSimpArgs false
namespace Go.Proofs.Ytjfdomfendbhfaa
open Go.RowKit Go.Maps
def PMinOk (w:World) (m:DfaV) (e:Ending) (w':World):Prop:=∃ v sv,e=.returned (.tuple #[v,sv])/\tA w w' v m/\w.grownBy w' none
def lV (d:DfaV) (p:List Nat) (k q x:Nat):List Nat:=(List.range x).map (fun a=>p.getD (nx d q a) 0) ++ List.replicate (k - x) 0
theorem qU {d:DfaV} {p:List Nat} {k q x:Nat} (h:x<=k):(lV d p k q x).length=k:=by simp[lV];omega
theorem mapTo_set {d:DfaV} {p:List Nat} {k q x:Nat} (h:x < k):(lV d p k q x).set x (p.getD (nx d q x) 0)=lV d p k q (x+1):=by
 unfold lV
 rw[List.set_append_right _ _ (by simp),List.range_succ,List.map_append,show k - x=(k - (x+1))+1 by omega,List.replicate_succ]
 simp
theorem mapTo_full {d:DfaV} {n k q:Nat} {p:List Nat} (hd:VD d n k) (hq:q < n):nats (lV d p k q k)=ints (vG p (d.next.getD q [])):=by
 have e:(lV d p k q k).map (fun(x:Nat)=>(x:Int))=vG p (d.next.getD q []):=by
  refine List.ext_getElem (by rw[List.length_map,qU (Nat.le_refl k),vG,List.length_map,hd.row q hq]) fun i h1 h2=>?_
  have hi:i < k:=by rw[List.length_map,qU (Nat.le_refl k)]at h1;exact h1
  rw[<- zF (d:=0) h2,mI (by rw[hd.row q hq];exact hi)]
  simp[lV,hi,nx,entN,ent]
 rw[<- e];simp[nats,ints]
set_option maxRecDepth 100000 in
set_option maxHeartbeats 4000000 in
theorem pminimal_any (B:Nat) (w:World) (v:Value) (d:DfaV) (n k:Nat) (hB:B<=w.heap.size) (h:tE B w v d) (hd:VD d n k) (h5:n<=512) :
  Calls Try.prog 85 #[v] w (PMinOk w (minD (xK d k) k)):=by
 have c8:=h
 obtain⟨fb,fo,fc,b,off,cap,RB,RO,RC,rfl,z2⟩:=h.at hd
 have E0:=hd.n1
 have E1:=hd.k6
 have E2:=hd.k1
 have i2:=oG hd
 have z7:=(yV hd).2
 obtain⟨T,hT⟩:∃ T,T=xK d k:=⟨_,rfl⟩
 obtain⟨N,hN⟩:∃ N,N=(zT d k).length:=⟨_,rfl⟩
 rw[<- hT,<- hN]at i2
 rw[<- hN]at z7
 rw[<- hT]
 have F2:=i2.n1
 have H0:=Kh i2;have o2:=Kh hT;have B7:=Kh hN
 obtain⟨p,hp⟩:∃ p,p=zR T k:=⟨_,rfl⟩
 have e9:p.length=N:=by rw[hp,xP,i2.hn]
 have q6:Norm p:=by rw[hp];exact wH T k
 have f5:minD T k=xK (wC T p) k:=by rw[hp];rfl
 have HP:=Kh hp;have c4:=Kh q6;have o7:=Kh f5
 obtain⟨S,hS⟩:∃ S,S=st0 d:=⟨_,rfl⟩
 have p9:dAgg k (st0 d) fb fo fc b off cap n=.agg #[.int .i64 (k:Int),.int .i64 (S:Int),.slice (some ⟨fb,fo,none⟩) n fc,.slice (some ⟨b,off,none⟩) n cap]:=by rw[hS];rfl
 rw[p9]at c8 ⊢
 obtain⟨b7,j6,j2,p6⟩:=kK w #[.int .i64 (k:Int),.int .i64 (S:Int),.slice (some ⟨fb,fo,none⟩) n fc,.slice (some ⟨b,off,none⟩) n cap] #[.int .i64 0,.int .i64 0,.slice none 0 0,.slice none 0 0] 42
 obtain⟨wA,m7⟩:∃ wA,wA=(w.alloc (.cells #[.int .i64 (k:Int),.int .i64 (S:Int),.slice (some ⟨fb,fo,none⟩) n fc,.slice (some ⟨b,off,none⟩) n cap] 42)).alloc (.cells #[.int .i64 0,.int .i64 0,.slice none 0 0,.slice none 0 0] 42):=⟨_,rfl⟩
 rw[<- m7]at b7 j6 j2 p6
 obtain⟨c0,c1,c2,c3⟩:=zG b7
 obtain⟨P,hP⟩:∃ P,P=w.heap.size:=⟨_,rfl⟩
 obtain⟨Q,hQ⟩:∃ Q,Q=w.heap.size+1:=⟨_,rfl⟩
 have B4:=Kh hP;have B2:Hid (Q=P+1):=Kh (by omega)
 have F1:P < Q:=by omega
 have E8:Q < wA.heap.size:=by omega
 have F0:w.heap.size<=P:=by omega
 have A3:B<=wA.heap.size:=by omega
 rw[<- hQ]at j6
 rw[<- hP]at b7 c0 c1 c2 c3 hB
 have t8:=Kh b7;have t7:=Kh j6;have C1:=Kh j2;have A6:=Kh m7
 have i3:=Kh (dC B wA _ d n k A3 (c8.kept j2 (by simp)) hd h5)
 clear b7 j6 j2 m7 z2 hd h c8 p9 hS p6 hP hQ hT hN hp q6 f5 i2
 go_enter Try.func85,Try.ntmps85
 go_upto_region 1 with fail
 rw[<- A6.out,<- B4.out,<- B2.out]
 go_wp2_with fail
 refine i3.out.mono ?_
 rintro e w1 ⟨v1,G,rfl,⟨o,hs,sf,cf,sn,cn,rfl,ho,c9⟩,F5,s0,f7⟩
 rw[<- o2.out]at c9 ⊢
 have h6:T.letters=k:=H0.out.hk
 have i1:T.start=0:=by rw[o2.out];rfl
 have m9:T.final.length=N:=H0.out.hn
 have m8:T.next.length=N:=H0.out.nl
 have j4:tE w1.heap.size w1 (.agg #[.int .i64 (k:Int),.int .i64 0,.slice sf N cf,.slice sn N cn]) T:=by
  have:=c9.dfa
  rw[h6,i1,m9,m8]at this
  have e:(⟨(k:Int),0,T.final,T.next⟩:DfaV)=T:=by rw[<- h6,<- i1]
  rwa [e]at this
 rw[h6,i1,m9,m8]
 obtain⟨tfb,tfo,tfc,tb,toff,tcap,TRB,TRO,TRC,ev,a6⟩:=j4.at H0.out
 have k8:(st0 T:Int)=0:=by rw[gQ H0.out];exact i1
 rw[dAgg,k8,Value.agg.injEq]at ev
 have ev:=congrArg Array.toList ev
 simp only[List.cons.injEq,Value.slice.injEq,true_and,and_true]at ev
 obtain⟨⟨rfl,rfl⟩,rfl,rfl⟩:=ev
 have x8:=a6.fcap
 have x9:=a6.cap
 unfold maxLen at x8 x9
 have H7:Hid (∀ W:World,w1.grownBy W none->DAt w1.heap.size W T N k tfb tfo cf tb toff cn TRB TRO TRC):=Kh (fun W hg=>a6.kept hg (by simp))
 clear a6
 obtain⟨zs,k0,k2⟩:∃ zs:List Int,Arr w1 G 3 (ints zs)/\zs.length=n/\∀ q,q < n->zs.getD q 0 = -1\/∃ i:Nat,i < N/\zs.getD q 0=(i:Int):=⟨_,s0,vU _ _,fun q hq=>by
  rw[placeL_get hq,rP]
  split
  ·rename_i hm
   exact .inr ⟨_,by rw[B7.out];exact List.idxOf_lt_length_of_mem hm,rfl⟩
  ·exact .inl rfl⟩
 have A4:=Kh k2.2
 have D2:=k2.1
 obtain⟨T4,n0⟩:∃ T4,T4=w1.heap.size:=⟨_,rfl⟩
 obtain⟨w2,k5⟩:∃ w2,w2=w1.alloc (.cells #[.int .i64 (k:Int),.int .i64 0,.slice (some ⟨tfb,tfo,none⟩) N cf,.slice (some ⟨tb,toff,none⟩) N cn] 42):=⟨_,rfl⟩
 have H8:=Ga w1 (.cells #[.int .i64 (k:Int),.int .i64 0,.slice (some ⟨tfb,tfo,none⟩) N cf,.slice (some ⟨tb,toff,none⟩) N cn] 42) none
 have e7:=heap_alloc_new w1 (.cells #[.int .i64 (k:Int),.int .i64 0,.slice (some ⟨tfb,tfo,none⟩) N cf,.slice (some ⟨tb,toff,none⟩) N cn] 42)
 rw[<- k5]at H8 e7
 rw[<- n0]at e7
 have D5:=f7.size
 have x1:=H8.size
 have z4:=zH e7
 have E9:Q < T4:=by omega
 obtain⟨d0,d1,d2,d3⟩:=zG e7
 have e4:=Kh (zA (zA t8.out f7 (by simp)) H8 (by simp));have i7:=Kh (zA (zA t7.out f7 (by simp)) H8 (by simp))
 have t6:=Kh e7;have A8:=Kh k5;have A9:=Kh n0
 have s1:=Kh (k0.kept H8 (by simp))
 have E5:=k0.lt
 have s9:=Kh (j4.kept H8 (by simp))
 have C6:=Kh (zB (zB C1.out f7 (by simp)) H8 (by simp));have p0:=Kh H8
 have t4:=Kh (pclasses_any w1.heap.size w2 _ T N k x1 (j4.kept H8 (by simp)) H0.out (by omega))
 clear c9 s0 h6 i1 m9 m8 j4 k0 k2 e7 k5 H8 f7 i3 t8 t7 c0 c1 c2 c3 n0
 obtain⟨a0,a1,a2,a3⟩:=zG e4.out
 go_upto_region 2 with fail
 rw[<- A8.out,<- A9.out]
 go_wp2_with fail
 refine t4.out.mono ?_
 rintro e w3 ⟨G6,rfl,F6,h4,a4⟩
 rw[<- HP.out]at h4 ⊢
 rw[e9]
 have D4:=a4.size
 have i9:=Kh (zA e4.out a4 (by simp));have p3:=Kh (zA i7.out a4 (by simp));have d9:=Kh (zA t6.out a4 (by simp))
 have n9:=Kh (s1.out.kept a4 (by simp));have C7:=Kh (s9.out.kept a4 (by simp));have C5:=Kh (zB C6.out a4 (by simp));have H6:=Kh (zB p0.out a4 (by simp))
 have p5:=Kh h4
 have A2:=h4.lt
 clear t4 h4 a4 d0 d1 d2 d3 a0 a1 a2 a3 e4 i7 t6 s1 s9
 obtain⟨a0,a1,a2,a3⟩:=zG i9.out
 obtain⟨oQ,l5⟩:∃ oQ,oQ=w3.heap.size:=⟨_,rfl⟩
 obtain⟨w5,k4⟩:∃ w5,w5=w3.alloc (.cells #[.int .i64 (k:Int),.int .i64 0,.slice none 0 0,.slice none 0 0] 42):=⟨_,rfl⟩
 have m0:=Ga w3 (.cells #[.int .i64 (k:Int),.int .i64 0,.slice none 0 0,.slice none 0 0] 42) none
 have g0:=heap_alloc_new w3 (.cells #[.int .i64 (k:Int),.int .i64 0,.slice none 0 0,.slice none 0 0] 42)
 rw[<- k4]at m0 g0
 rw[<- l5]at g0
 have A7:=Kh k4;have B5:=Kh l5
 have b3:Hid (BX w3 w5 oQ (fun _=>False) k (vF T p 0) (uC T p 0) [] none 0 none 0):=Kh (BX.start g0 (by omega) m0)
 have y2:=zH g0
 clear k4 l5 m0 g0
 go_upto_region 4 with fail
 rw[<- A7.out,<- B5.out]
 go_wp2_with fail
 go_loopg [8,9,10,11,12,30] N (fun gh a8 a9 a10 a11 a12 i wr=>∃ (q:Nat) (X:Nat->Prop) (hs:List Value) (sf:Option Addr) (cf:Nat) (sn:Option Addr) (cn:Nat),gh+q=N/\i=.int .i64 q/\BX w3 wr oQ X k (vF T p q) (uC T p q) hs sf cf sn cn)
 case atStart=>exact⟨0,_,_,_,_,_,_,rfl,rfl,b3.out⟩
 case round =>
  clear b3
  obtain⟨q,X,hs,sf,cf,sn,cn,H9,rfl,e6⟩:=hrel
  have e8:=Kh H9;have b3:=Kh e6
  have h9:=e6.grown
  have d7:=Kh h9
  obtain⟨d0,d1,d2,d3⟩:=zG e6.box
  obtain⟨t0,t1,t2,t3⟩:=zG (zA d9.out h9 (by simp))
  obtain⟨a0,a1,a2,a3⟩:=zG (zA i9.out h9 (by simp))
  by_cases hq:q < N
  ·have D8:(q:Int) < N:=by omega
   have cq:=(p5.out.kept h9 (by simp)).nat q (by omega)
   obtain⟨f4,l6,y6⟩:=nM c4.out (q:=q) (by omega)
   have a7:=iP (d:=T) c4.out (show q<=p.length by omega)
   have h6:=iO (d:=T) c4.out (show q<=p.length by omega)
   obtain⟨M,hM⟩:∃ M,M=cls (p.take q):=⟨_,rfl⟩
   obtain⟨c,hc⟩:∃ c,c=p.getD q 0:=⟨_,rfl⟩
   have F3:M<=q:=by rw[hM];have:=cls_le (p.take q);rw[List.length_take]at this;omega
   rw[<- hM]at a7 h6 f4 l6
   rw[<- hc]at cq f4 l6
   have HM:=Kh hM;have HC:=Kh hc;have j9:=Kh a7;have o1:=Kh h6
   rw[a7]at d2
   rw[h6]at d3
   clear H9 e6 h9 l6 y6 hM hc a7 h6
   by_cases m4:c < M
   ·have f9:(c:Int) < M:=by omega
    have e1:Hid (vF T p (q+1)=vF T p q/\uC T p (q+1)=uC T p q):=Kh (by
     have:p.getD q 0≠cls (p.take q):=by rw[<- HC.out,<- HM.out];omega
     exact⟨quotFs_old this,quotTs_old this⟩)
    go_wp2
    go_roundg (N - (q+1))
    case measure=>have:=e8.out;omega
    case rel=>exact⟨q+1,X,hs,sf,cf,sn,cn,by have:=e8.out;omega,by go_num,by rw[e1.out.1,e1.out.2];exact b3.out⟩
   ·have z0:c=M:=by omega
    have f9:¬ (c:Int) < M:=by omega
    have e1:Hid (vF T p (q+1)=vF T p q ++ [T.final.getD q false]/\uC T p (q+1)=uC T p q ++ [vG p (T.next.getD q [])]):=Kh (by
     have:p.getD q 0=cls (p.take q):=by rw[<- HC.out,<- HM.out];exact z0
     exact⟨quotFs_new this,quotTs_new this⟩)
    have i0:=H7.out wr (zB H6.out d7.out (by simp))
    have H1:=i0.rcap q hq
    have l1:=H1.1
    have l0:TRC q<=9223372036854775807:=by have:=H1.2;unfold maxLen at this;omega
    obtain⟨rb,l3⟩:∃ rb,rb=TRB q:=⟨_,rfl⟩
    obtain⟨ro,k9⟩:∃ ro,ro=TRO q:=⟨_,rfl⟩
    obtain⟨rc,l2⟩:∃ rc,rc=TRC q:=⟨_,rfl⟩
    have s6:Hid (∀ W:World,w3.grownBy W none->W.cell? ⟨tb,toff+q,none⟩=some (.slice (some ⟨rb,ro,none⟩) k rc)):=Kh (fun W hg=>by rw[l3,k9,l2];exact(H7.out W (zB H6.out hg (by simp))).hd q hq)
    have s8:Hid (∀ W:World,w3.grownBy W none->∀ a,a < k->W.cell? ⟨rb,ro+a,none⟩=some (.int .i64 ((nx T q a:Nat):Int))):=Kh (fun W hg a ha=>by rw[l3,k9];exact(H7.out W (zB H6.out hg (by simp))).el q a hq ha)
    have i5:Hid (∀ W:World,w3.grownBy W none->W.cell? ⟨tfb,tfo+q,none⟩=some (.bool (T.final.getD q false))):=Kh (fun W hg=>(H7.out W (zB H6.out hg (by simp))).fin hq)
    rw[<- l2]at l1 l0
    clear i0 H1 l3 k9 l2
    go_wp2_with (first|(at_make;refine kZ rfl _ _ _ rfl xQ rfl .i64 .i64 _ _ k rfl rfl rfl rfl ?b1 ?b2 ?_;(case b1=>omega);(case b2=>(unfold maxLen;omega));intro w7 h0 e5 l8;(obtain⟨u0,u1,u2,u3⟩:=zG (zA (zA d9.out d7.out (by simp)) e5 (by simp)));(have chd:=s6.out _ (zB d7.out e5 (by simp))))|fail)
    obtain⟨g,hg⟩:∃ g,g=wr.heap.size:=⟨_,rfl⟩
    rw[<- hg]at h0 l8 ⊢
    have p4:Hid (Arr w7 g 3 (nats (lV T p k q 0))):=Kh (by
     rw[show lV T p k q 0=List.replicate k 0 by simp[lV],yR];exact h0)
    have i6:=Kh (b3.out.grow e5)
    have q8:∀ j,X j->j < g:=fun j hj=>by have:=b3.out.lt j hj;omega
    have B8:=Kh q8
    have E7:oQ < g:=by have:=zH b3.out.box;omega
    have m1:w3.heap.size<=g:=by have:=d7.out.size;omega
    have C2:=Kh (zB d7.out e5 (by simp))
    have F7:=Kh e5.size
    have E6:wr.heap.size<=g:=by omega
    clear h0 e5 q8 hg d0 d1 d2 d3 t0 t1 t2 t3 a0 a1 a2 a3 u0 u1 u2 u3 chd cq
    go_loopg [11,12,49] k (fun gh a11 a12 i wr=>∃ x:Nat,gh+x=k/\i=.int .i64 x/\Arr wr g 3 (nats (lV T p k q x))/\w7.grownBy wr (some g))
    case atStart=>exact⟨0,rfl,rfl,p4.out,zN _ _⟩
    case round =>
     obtain⟨x,H9,rfl,h0,h9⟩:=hrel
     have d8:=Kh H9;have HA:=Kh h0;have o9:=Kh h9
     have h3:=zB C2.out h9 (fun k e=>by have e:g=k:=Oj e;omega)
     have C4:=Kh h3
     clear H9
     by_cases hx:x < k
     ·have D7:(x:Int) < k:=by omega
      have cel:=s8.out wr h3 x hx
      have x4:=qF H0.out hq hx
      obtain⟨y,hy⟩:∃ y,y=nx T q x:=⟨_,rfl⟩
      rw[<- hy]at cel x4
      have x3:(y:Int) < N:=by omega
      have cy:=(p5.out.kept h3 (by simp)).nat y (by omega)
      have c6:=mapTo_set (d:=T) (p:=p) (q:=q) hx
      rw[<- hy]at c6
      have o4:=Kh c6
      have s5:=Kh (qU (d:=T) (p:=p) (q:=q) (k:=k) (x:=x) (by omega))
      have ck:=h0.nat x (by rw[s5.out];exact hx)
      have fk:=h0.frozen x
      obtain⟨z,hz⟩:∃ z,z=p.getD y 0:=⟨_,rfl⟩
      rw[<- hz]at cy
      have HZ:=Kh hz
      clear c6 hz hy h0 h9 h3
      go_wp2
      go_roundg (k - (x+1))
      case measure=>have:=d8.out;omega
      case rel=>exact⟨x+1,by have:=d8.out;omega,by go_num,by rw[<- o4.out,<- HZ.out];exact HA.out.nat_set x (by rw[s5.out];exact hx) z,zD o9.out (zC wr ⟨g,x,none⟩ _)⟩
     ·have x5:x=k:=by have:=d8.out;omega
      subst x5
      obtain⟨cur,rest,f8,_⟩:=p4.out
      have z3:¬ X g:=fun hx=>by have:=B8.out g hx;omega
      have H3:=i6.out.put h9 f8 z3 m1
      have p2:=Kh H3
      have t9:Hid (Arr wr g 3 (ints (vG p (T.next.getD q [])))):=Kh (by rw[<- mapTo_full H0.out hq];exact h0)
      obtain⟨d0,d1,d2,d3⟩:=zG H3.box
      have fz2:=zE H3.box 2
      have d5:=zA d9.out h3 (by simp)
      obtain⟨t0,t1,t2,t3⟩:=zG d5
      have cfin:=i5.out wr h3
      have z5:=zH d5
      have y3:=zH H3.box
      have x7:tfb < wr.heap.size:=by
       have:=(H7.out wr (zB H6.out h3 (by simp))).frow.1
       exact this
      rw[j9.out]at d2
      rw[o1.out]at d3
      obtain⟨bf,m5⟩:∃ bf,bf=T.final.getD q false:=⟨_,rfl⟩
      rw[<- m5]at cfin
      have C9:=Kh m5
      have o5:Hid (∀ W1:World,wr.grownBy W1 none->W1.ownsRow oQ 4 1 (.slice sf M cf) M (bls (vF T p q))/\oQ<=W1.heap.size):=Kh (fun W1 hg=>⟨by have:=zQ p2.out.ownF hg;rwa [j9.out]at this,by have:=hg.size;omega⟩)
      have b9:Hid (∀ (W1 w':World) (sf':Option Addr) (cf':Nat),w'.ownsRow oQ 4 1 (.slice sf' (M+1) cf') (M+1) (bls (vF T p q) ++ [.bool bf])->W1.grownBy w' (Value.slice sf M cf).ownBlock->wr.grownBy W1 none ->
        BX w3 (w'.setCell ⟨oQ,2,none⟩ (.slice sf' (M+1) cf')) oQ X x (vF T p q ++ [bf]) (uC T p q) hs sf' cf' sn cn/\Arr (w'.setCell ⟨oQ,2,none⟩ (.slice sf' (M+1) cf')) g 3 (ints (vG p (T.next.getD q [])))/\w'.frozen? ⟨oQ,2,none⟩=false/\w'.cell? ⟨oQ,2,none⟩=some (.slice sf M cf)):=Kh (fun W1 w' sf' cf' ho hg h1=>by
       have n2:=p2.out.grow h1
       have n8:=n2.ownF
       have m6:=n2.box
       rw[j9.out]at n8 m6
       have b7:=zA m6 hg (zS n8 m6 (by decide))
       have hp:=n2.pushF (b:=bf) j9.out ho hg rfl
       have r6:=t9.out.kept h1 (by simp)
       obtain⟨cg,rg,y9,_⟩:=id r6
       exact⟨hp,(r6.kept hg (zS n8 y9 (by decide))).kept (zC w' ⟨oQ,2,none⟩ _) (fun e=>by have e:oQ=g:=Oj e;omega),zE b7 2,(zG b7).2.2.1⟩)
      obtain⟨wo,rfl⟩:∃ wo:World,wo=wr:=⟨_,rfl⟩
      clear f8 H3 h0 h9 h3 d5 m5 p4
      go_wp2_with fail
      go_region_law (first|(refine eV ?g1 (.tmp 63) (.tmp 69) 39 ?g2 cK oQ (.slice sf M cf) M (bls (vF T p q)) ?g3 ?g4 (.bool bf) wo.heap.size (0,0) ?g5 ?g6 ?g7 ?g8 ?g9 ?g10 ?_;(case g1=>rfl);(case g2=>rfl);(case g3=>rfl);(case g4=>(refine(o5.out _ ?_).1;exact tQ (o:=.cells #[.bool bf] 4) rfl rfl rfl rfl));(case g5=>rfl);(case g6=>exact heap_alloc_new (wo.drew) _);(case g7=>rfl);(case g8=>(unfold maxLen;omega));(case g9=>omega);(case g10=>(refine(o5.out _ ?_).2;exact tQ (o:=.cells #[.bool bf] 4) rfl rfl rfl rfl));intro sf8 cf8 w8 b4 q9;have j0:=b9.out _ _ _ _ b4 q9 (tQ (o:=.cells #[.bool bf] 4) rfl rfl rfl rfl);have m2:=j0.2.2.1;have m3:=j0.2.2.2;have j8:=Kh j0;clear j0 b4 q9)|fail)
      all_goals
       clear b9 o5 m2 m3 d0 d1 d2 d3 fz2 t0 t1 t2 t3 cfin p2 t9 i6 b3 s6 s8 i5
       obtain⟨w9,p8⟩:∃ W9,W9=w8.setCell ⟨oQ,2,none⟩ (.slice sf8 (M+1) cf8):=⟨_,rfl⟩
       rw[<- p8]at j8 ⊢
       have H4:=j8.out.1
       have x0:=Kh j8.out.2.1
       have j7:=Kh H4
       have n6:=H4.ownN
       obtain⟨d0,d1,d2,d3⟩:=zG H4.box
       rw[o1.out]at d3 n6
       have s4:=Kh n6
       have y1:=zH H4.box
       clear p8 j8 H4 n6
       go_wp2_with (first|(at_builtin;refine qBW rfl _ _ _ rfl kD oQ (.slice sn M cn) M hs rfl s4.out (.slice (some ⟨g,0,none⟩) x x) rfl rfl ?a1 ?a2 ?a3 ?_;(case a1=>(unfold maxLen;omega));(case a2=>omega);(case a3=>omega);intro sn6 cn6 w10 b5 l9 D3 l7;(have B6:=Kh b5);(have C3:=Kh l9);(have r5:=zA j7.out.box l9 (zS s4.out j7.out.box (by decide)));(obtain⟨e0,e1',e2,e3⟩:=zG r5);(have fz6:=zE r5 3);clear b5 l9 l7)|fail)
       go_roundg (N - (q+1))
       case measure=>have:=e8.out;omega
       case rel =>
        have hp:=j7.out.pushN (Y:=fun j=>X j\/j=g) o1.out (fun j hj=>.inl hj) (fun j hj=>by
         rcases hj with hj|rfl
         ·exact j7.out.lt j hj
         ·exact x0.out.lt) B6.out C3.out (RowX.of_arr x0.out (by rw[yO,vG,List.length_map,H0.out.row q hq]) (by unfold maxLen;omega) (.inr rfl)) rfl
        rw[C9.out,<- e1.out.1,<- e1.out.2]at hp
        exact⟨q+1,_,_,_,_,_,_,by have:=e8.out;omega,by go_num,hp⟩
  ·have l4:q=N:=by have:=e8.out;omega
   have a7:(vF T p q).length=cls p:=by rw[iP c4.out (by omega),l4,<- e9,List.take_length]
   have h6:(uC T p q).length=cls p:=by rw[iO c4.out (by omega),l4,<- e9,List.take_length]
   have q5:(⟨(k:Int),0,vF T p q,uC T p q⟩:DfaV)=wC T p:=by
    have:=quot_full (d:=T) (p:=p) (q:=q) (by omega) (by
     have e:st0 T=0:=by rw[o2.out];rfl
     rw[e];exact norm_zero c4.out)
    rw[<- this,H0.out.hk]
   have j3:=(e6.built (a7.trans h6.symm)).dfa
   rw[q5,a7,h6]at j3
   obtain⟨M,hM⟩:∃ M,M=cls p:=⟨_,rfl⟩
   have F4:M<=N:=by rw[hM,<- e9];exact cls_le p
   have q4:VD (wC T p) M k:=by rw[hM];exact bC H0.out e9 c4.out
   rw[<- hM]at j3
   rw[a7,<- hM]at d2
   rw[h6,<- hM]at d3
   have B3:Hid (∀ i,i < N->p.getD i 0 < M):=Kh (fun i hi=>by rw[hM];exact vL c4.out (by omega))
   have i3:=Kh (dC wr.heap.size wr _ (wC T p) M k (Nat.le_refl _) j3 q4 (by omega))
   have C0:Hid (w.grownBy wr none):=Kh (zB C5.out h9 (by simp))
   clear H9 e6 a7 h6 q5 j3 q4 hM l4 e8 t0 t1 t2 t3 a0 a1 a2 a3
   go_wp2_with fail
   refine i3.out.mono ?_
   rintro e wt ⟨vt,Gt,rfl,⟨ot,y0,sft,cft,snt,cnt,rfl,D9,j5⟩,z8,b8,j1⟩
   rw[<- o7.out]at j5 ⊢
   obtain⟨R,hR⟩:∃ R,R=minD T k:=⟨_,rfl⟩
   rw[<- hR]at j5 ⊢
   have n4:R.letters=k:=by rw[hR];exact(pY H0.out).hk
   have n3:R.start=0:=by rw[hR];rfl
   obtain⟨FL,n7⟩:∃ FL,FL=R.final.length:=⟨_,rfl⟩
   obtain⟨NL,n5⟩:∃ NL,NL=R.next.length:=⟨_,rfl⟩
   rw[n4,n3,<- n7,<- n5]
   obtain⟨ys,k3,D6⟩:∃ ys:List Int,Arr wt Gt 3 (ints ys)/\ys.length=M:=⟨_,b8,vU _ _⟩
   have s3:=Kh hR;have B1:=Kh n4;have B0:=Kh n3;have p1:=Kh n7;have o6:=Kh n5;have C8:=Kh j5;have A5:=Kh k3
   have B9:=Kh (zB C0.out j1 (by simp));have o8:=Kh (zB d7.out j1 (by simp))
   obtain⟨T13,d6⟩:∃ T13,T13=wt.heap.size:=⟨_,rfl⟩
   obtain⟨w13,c5⟩:∃ w13,w13=wt.alloc (.cells #[.int .i64 (k:Int),.int .i64 0,.slice sft FL cft,.slice snt NL cnt] 42):=⟨_,rfl⟩
   have a5:=Ga wt (.cells #[.int .i64 (k:Int),.int .i64 0,.slice sft FL cft,.slice snt NL cnt] 42) none
   have H5:=heap_alloc_new wt (.cells #[.int .i64 (k:Int),.int .i64 0,.slice sft FL cft,.slice snt NL cnt] 42)
   rw[<- c5]at a5 H5
   rw[<- d6]at H5
   have D1:=d7.out.size
   have D0:=j1.size
   have x2:=a5.size
   have r7:=zH H5
   have y7:=k3.lt
   have i8:=Kh H5;have o0:=Kh c5;have o3:=Kh d6;have h8:=Kh a5
   have z6:Q < T13:=by omega
   have r8:w3.heap.size<=T13:=by omega
   clear hR n4 n3 n7 n5 j5 b8 k3 j1 H5 c5 d6 a5 d0 d1 d2 d3 b3 i3
   go_upto_region 18 with fail
   rw[<- o0.out,<- o3.out]
   go_wp2_with (first|(at_make;refine kZ rfl _ _ _ rfl xQ rfl .i64 .i64 _ _ n rfl rfl rfl rfl ?b1 ?b2 ?_;(case b1=>omega);(case b2=>(unfold maxLen;omega));intro ws h0 q7 f6)|fail)
   obtain⟨Gs,r9⟩:∃ Gs,Gs=w13.heap.size:=⟨_,rfl⟩
   rw[<- r9]at h0 f6 ⊢
   have s2:Hid (Arr ws Gs 3 (ints (List.replicate n 0))):=Kh (by simpa [sX] using h0)
   have A1:T13 < Gs:=by omega
   have z9:Gt < Gs:=by omega
   have s7:=Kh q7
   have A0:w13.heap.size<=Gs:=by omega
   clear h0 q7 r9 f6
   go_loopg [16,17,89] n (fun gh a16 a17 i wr=>∃ (j:Nat) (vs:List Int),gh+j=n/\i=.int .i64 j/\vs.length=n/\Arr wr Gs 3 (ints vs)/\w13.grownBy wr none)
   case atStart=>exact⟨0,_,rfl,rfl,by simp,s2.out,s7.out⟩
   case round =>
    clear s2 s7
    obtain⟨j,vs,H9,rfl,k7,h0,h2⟩:=hrel
    have b0:=Kh H9;have HA:=Kh h0;have i4:=Kh h2
    have H2:=zB (zB o8.out h8.out (by simp)) h2 (by simp)
    clear H9
    by_cases hj:j < n
    ·have E3:(j:Int) < n:=by omega
     have cz:=(n9.out.kept H2 (by simp)).int j (by omega)
     have cs:=h0.int j (by omega)
     have fs:=h0.frozen j
     have b6:=A4.out j hj
     obtain⟨z,hz⟩:∃ z,z=zs.getD j 0:=⟨_,rfl⟩
     rw[<- hz]at cz b6
     have x6:(ints vs).length=n:=by rw[yO,k7]
     rcases b6 with rfl|⟨i,hi,rfl⟩
     ·clear hz h0 h2 H2
      go_wp2
      go_roundg (n - (j+1))
      case measure=>have:=b0.out;omega
      case rel=>exact⟨j+1,vs.set j (-1),by have:=b0.out;omega,by go_num,by rw[List.length_set,k7],HA.out.int_set j (by omega) (-1),zB i4.out (zC wr ⟨Gs,j,none⟩ _) (fun k e=>by have e:Gs=k:=Oj e;omega)⟩
     ·have E4:(i:Int) < N:=by omega
      have cp:=(p5.out.kept H2 (by simp)).nat i (by omega)
      have m4:=B3.out i hi
      obtain⟨c,hc⟩:∃ c,c=p.getD i 0:=⟨_,rfl⟩
      rw[<- hc]at cp m4
      have f9:(c:Int) < M:=by omega
      have cy:=((A5.out.kept h8.out (by simp)).kept h2 (by simp)).int c (by omega)
      obtain⟨y,hy⟩:∃ y,y=ys.getD c 0:=⟨_,rfl⟩
      rw[<- hy]at cy
      have F8:=Kh (And.intro hi m4)
      clear hz hc hy h0 h2 H2
      have y5:G6≠Gs:=by omega
      have y4:Gt≠Gs:=by omega
      go_wp2
      go_roundg (n - (j+1))
      case measure=>have:=b0.out;omega
      case rel=>exact⟨j+1,(vs.set j (-1)).set j y,by have:=b0.out;omega,by go_num,by rw[List.length_set,List.length_set,k7],(HA.out.int_set j (by omega) (-1)).int_set j (by rw[List.length_set];omega) y,zB (zB i4.out (zC wr ⟨Gs,j,none⟩ _) (fun k e=>by have e:Gs=k:=Oj e;omega)) (zC (wr.setCell ⟨Gs,j,none⟩ (.int .i64 (-1))) ⟨Gs,j,none⟩ _) (fun k e=>by have e:Gs=k:=Oj e;omega)⟩
    ·obtain⟨e0,e1,e2,e3⟩:=zG (zA i8.out h2 (by simp))
     have d4:=zA p3.out H2 (by simp)
     obtain⟨q0,q1,q2,q3⟩:=zG d4
     have f0:=zE d4 0
     have f1:=zE d4 1
     have f2:=zE d4 2
     have f3:=zE d4 3
     have t5:=Kh d4
     clear d4
     go_wp2
     obtain⟨r4,c7⟩:=wG t5.out (.int .i64 (k:Int)) (.int .i64 0) (.slice sft FL cft) (.slice snt NL cnt)
     obtain⟨wz,p7⟩:∃ wz,wz=(((wr.setCell ⟨Q,0,none⟩ (.int .i64 (k:Int))).setCell ⟨Q,1,none⟩ (.int .i64 0)).setCell ⟨Q,2,none⟩ (.slice sft FL cft)).setCell ⟨Q,3,none⟩ (.slice snt NL cnt):=⟨_,rfl⟩
     rw[<- p7]at r4 c7 ⊢
     clear p7
     obtain⟨r0,r1,r2,r3⟩:=zG r4
     clear e0 e1 e2 e3 q0 q1 q2 q3 f0 f1 f2 f3
     refine bodyPost_ret (v:=.tuple #[.agg #[.int .i64 (k:Int),.int .i64 0,.slice sft FL cft,.slice snt NL cnt],.slice (some ⟨Gs,0,none⟩) n n]) (by simp[results,Try.results85,go_sem,r0,r1,r2,r3]) rfl ?_
     have y8:w.grownBy wz none:=zB (zB (zB B9.out h8.out (by simp)) h2 (by simp)) c7 (fun k e=>by have h7:Q=k:=Oj e;omega)
     have z1:=((C8.out.grow h8.out).grow h2).far c7 t5.out (by omega)
     refine⟨_,_,rfl,⟨ot,y0,sft,cft,snt,cnt,?_,by omega,by rw[<- s3.out];exact z1⟩,y8⟩
     rw[<- s3.out,B0.out,B1.out,p1.out,o6.out]
end Go.Proofs.Ytjfdomfendbhfaa
namespace Go.Proofs.Ytjfdomfendbhfaa
open Go.RowKit
def lU (d:DfaV) (p:List Nat) (i:Nat):List Bool:=(vN p i).map fun q=>d.final.getD q false
def nP (d:DfaV) (p:List Nat) (i:Nat):List (List Int):=(vN p i).map fun q=>vG p (d.next.getD q [])
theorem minFs_new {d:DfaV} {p:List Nat} {i:Nat} (h:p.getD i 0=cls (p.take i)):lU d p (i+1)=lU d p i ++ [d.final.getD i false]:=by simp only[lU,xZ h,List.map_append,List.map_cons,List.map_nil]
theorem minTs_new {d:DfaV} {p:List Nat} {i:Nat} (h:p.getD i 0=cls (p.take i)):nP d p (i+1)=nP d p i ++ [vG p (d.next.getD i [])]:=by simp only[nP,xZ h,List.map_append,List.map_cons,List.map_nil]
theorem minFs_old {d:DfaV} {p:List Nat} {i:Nat} (h:p.getD i 0≠cls (p.take i)):lU d p (i+1)=lU d p i:=by simp only[lU,xY h]
theorem minTs_old {d:DfaV} {p:List Nat} {i:Nat} (h:p.getD i 0≠cls (p.take i)):nP d p (i+1)=nP d p i:=by simp only[nP,xY h]
theorem rX {d:DfaV} {n k:Nat} (hd:VD d n k) {p:List Nat} {q:Nat} (hq:q < n):(vG p (d.next.getD q [])).length=k:=by rw[vG,List.length_map,hd.row q hq]
theorem mapRow_at {d:DfaV} {n k:Nat} (hd:VD d n k) {p:List Nat} {q a:Nat} (hq:q < n) (ha:a < k):(vG p (d.next.getD q [])).getD a 0=((p.getD (nx d q a) 0:Nat):Int):=by
 rw[mI (by rw[hd.row q hq];exact ha)]
 rfl
def qDF (w:World) (m:DfaV) (e:Ending) (w':World):Prop:=∃ v,e=.returned v/\tA w w' v m/\w.grownBy w' none
end Go.Proofs.Ytjfdomfendbhfaa
