/- Part 9 of the proof. -/
import Derived.Test.YtjfdomfendbhfaaQf8
import Derived.Deep.OwnRows
set_option linter.unusedVariables false
set_option linter.unusedSimpArgs false
set_option maxRecDepth 100000
set_option maxHeartbeats 16000000
namespace Go.Proofs.Ytjfdomfendbhfaa
open Go.RowKit Go.Maps
def PMinOk (w:World)(m:DfaV)(e:Ending)(w':World):Prop:=∃ v sv,e=.returned (.tuple #[v,sv])/\sI w w' v m/\w.grownBy w' none
def gK (d:DfaV)(p:List Nat)(k q x:Nat):List Nat:=(List.range x).map (fun a=>p.getD (nx d q a) 0)++List.replicate (k - x) 0
theorem nS {d:DfaV}{p:List Nat}{k q x:Nat}(h:x<=k):(gK d p k q x).length=k:=by simp[gK];omega
theorem mapTo_set {d:DfaV}{p:List Nat}{k q x:Nat}(h:x<k):(gK d p k q x).set x (p.getD (nx d q x) 0)=gK d p k q (x+1):=by
 unfold gK;rw[List.set_append_right _ _ (by simp),List.range_succ,List.map_append,show k - x=(k - (x+1))+1 by omega,List.replicate_succ];simp
theorem mapTo_full {d:DfaV}{n k q:Nat}{p:List Nat}(hd:VD d n k)(hq:q<n):nats (gK d p k q k)=ints (wT p (d.next.getD q [])):=by
 have e:(gK d p k q k).map (fun(x:Nat)=>(x:Int))=wT p (d.next.getD q []):=by
  refine List.ext_getElem (by rw[List.length_map,nS (Nat.le_refl k),wT,List.length_map,hd.row q hq]) fun i h1 h2=>?_;have hi:i<k:=by rw[List.length_map,nS (Nat.le_refl k)]at h1;exact h1
  rw[<- zG (d:=0) h2,iA (by rw[hd.row q hq];exact hi)];simp[gK,hi,nx,entN,ent]
 rw[<- e];simp[nats,ints]
theorem pminimal_any (B:Nat)(w:World)(v:Value)(d:DfaV)(n k:Nat)(hB:B<=w.heap.size)(h:uT B w v d)(hd:VD d n k)(h5:n<=512):
  Calls Try.prog 85 #[v] w (PMinOk w (minD (xT d k) k)):=by
 have c8:=h;obtain⟨fb,fo,fc,b,off,cap,RB,RO,RC,rfl,z2⟩:=h.at hd;have E0:=hd.n1;have E1:=hd.k6;have E2:=hd.k1;have i2:=lT hd;have z7:=(xK hd).2;obtain⟨T,hT⟩:∃ T,T=xT d k:=⟨_,rfl⟩;obtain⟨N,hN⟩:∃ N,N=(zX d k).length:=⟨_,rfl⟩;rw[<- hT,<- hN]at i2;rw[<- hN]at z7;rw[<- hT];have F2:=i2.n1;have H0:=Kh i2;have o2:=Kh hT;have B7:=Kh hN;obtain⟨p,hp⟩:∃ p,p=zU T k:=⟨_,rfl⟩;have e9:p.length=N:=by rw[hp,xW,i2.hn]
 have q6:Norm p:=by rw[hp];exact vJ T k
 have f5:minD T k=xT (vE T p) k:=by rw[hp];rfl
 have HP:=Kh hp;have c4:=Kh q6;have o7:=Kh f5;obtain⟨S,hS⟩:∃ S,S=st0 d:=⟨_,rfl⟩;have p9:dAgg k (st0 d) fb fo fc b off cap n=.agg #[.int .i64 (k:Int),.int .i64 (S:Int),.slice (some ⟨fb,fo,none⟩) n fc,.slice (some ⟨b,off,none⟩) n cap]:=by rw[hS];rfl
 rw[p9]at c8 ⊢;obtain⟨b7,j6,j2,p6⟩:=rX w #[.int .i64 (k:Int),.int .i64 (S:Int),.slice (some ⟨fb,fo,none⟩) n fc,.slice (some ⟨b,off,none⟩) n cap] #[.int .i64 0,.int .i64 0,.slice none 0 0,.slice none 0 0] 42;obtain⟨wA,m7⟩:∃ wA,wA=(w.alloc (.cells #[.int .i64 (k:Int),.int .i64 (S:Int),.slice (some ⟨fb,fo,none⟩) n fc,.slice (some ⟨b,off,none⟩) n cap] 42)).alloc (.cells #[.int .i64 0,.int .i64 0,.slice none 0 0,.slice none 0 0] 42):=⟨_,rfl⟩;rw[<- m7]at b7 j6 j2 p6;obtain⟨c0,c1,c2,c3⟩:=zF b7;obtain⟨P,hP⟩:∃ P,P=w.heap.size:=⟨_,rfl⟩;obtain⟨Q,hQ⟩:∃ Q,Q=w.heap.size+1:=⟨_,rfl⟩;have B4:=Kh hP;have B2:Hid (Q=P+1):=Kh (by omega);have F1:P<Q:=by omega
 have E8:Q<wA.heap.size:=by omega
 have F0:w.heap.size<=P:=by omega
 have A3:B<=wA.heap.size:=by omega
 rw[<- hQ]at j6;rw[<- hP]at b7 c0 c1 c2 c3 hB;have t8:=Kh b7;have t7:=Kh j6;have C1:=Kh j2;have A6:=Kh m7;have i3:=Kh (qBL B wA _ d n k A3 (c8.kept j2 (by simp)) hd h5);clear b7 j6 j2 m7 z2 hd h c8 p9 hS p6 hP hQ hT hN hp q6 f5 i2;go_enter Try.func85,Try.ntmps85;go_upto_region 1 with fail;rw[<- A6.out,<- B4.out,<- B2.out];go_wp2_with fail;refine i3.out.mono ?_;rintro e w1 ⟨v1,G,rfl,⟨o,hs,sf,cf,sn,cn,rfl,ho,c9⟩,F5,s0,f7⟩;rw[<- o2.out]at c9 ⊢;have h6:T.letters=k:=H0.out.hk;have i1:T.start=0:=by rw[o2.out];rfl
 have m9:T.final.length=N:=H0.out.hn;have m8:T.next.length=N:=H0.out.nl
 have j4:uT w1.heap.size w1 (.agg #[.int .i64 (k:Int),.int .i64 0,.slice sf N cf,.slice sn N cn]) T:=by
  have:=c9.dfa;rw[h6,i1,m9,m8]at this;have e:(⟨(k:Int),0,T.final,T.next⟩:DfaV)=T:=by rw[<- h6,<- i1]
  rwa [e]at this
 rw[h6,i1,m9,m8];obtain⟨tfb,tfo,tfc,tb,toff,tcap,TRB,TRO,TRC,ev,a6⟩:=j4.at H0.out;have k8:(st0 T:Int)=0:=by rw[aL H0.out];exact i1
 rw[dAgg,k8,Value.agg.injEq]at ev;have ev:=congrArg Array.toList ev;simp only[List.cons.injEq,Value.slice.injEq,true_and,and_true]at ev;obtain⟨⟨rfl,rfl⟩,rfl,rfl⟩:=ev;have x8:=a6.fcap;have x9:=a6.cap;unfold maxLen at x8 x9;have H7:Hid (∀ W:World,w1.grownBy W none->DAt w1.heap.size W T N k tfb tfo cf tb toff cn TRB TRO TRC):=Kh (fun W hg=>a6.kept hg (by simp));clear a6
 obtain⟨zs,k0,k2⟩:∃ zs:List Int,Arr w1 G 3 (ints zs)/\zs.length=n/\∀ q,q<n->zs.getD q 0 = -1\/∃ i:Nat,i<N/\zs.getD q 0=(i:Int):=⟨_,s0,vF _ _,fun q hq=>by
  rw[bK hq,rI]
  split
  ·rename_i hm
   exact .inr ⟨_,by rw[B7.out];exact List.idxOf_lt_length_of_mem hm,rfl⟩
  ·exact .inl rfl⟩
 have A4:=Kh k2.2;have D2:=k2.1;obtain⟨T4,n0⟩:∃ T4,T4=w1.heap.size:=⟨_,rfl⟩;obtain⟨w2,k5⟩:∃ w2,w2=w1.alloc (.cells #[.int .i64 (k:Int),.int .i64 0,.slice (some ⟨tfb,tfo,none⟩) N cf,.slice (some ⟨tb,toff,none⟩) N cn] 42):=⟨_,rfl⟩;have H8:=Ga w1 (.cells #[.int .i64 (k:Int),.int .i64 0,.slice (some ⟨tfb,tfo,none⟩) N cf,.slice (some ⟨tb,toff,none⟩) N cn] 42) none;have e7:=heap_alloc_new w1 (.cells #[.int .i64 (k:Int),.int .i64 0,.slice (some ⟨tfb,tfo,none⟩) N cf,.slice (some ⟨tb,toff,none⟩) N cn] 42);rw[<- k5]at H8 e7;rw[<- n0]at e7;have D5:=f7.size;have x1:=H8.size;have z4:=zI e7;have E9:Q<T4:=by omega
 obtain⟨d0,d1,d2,d3⟩:=zF e7;have e4:=Kh (zA (zA t8.out f7 (by simp)) H8 (by simp));have i7:=Kh (zA (zA t7.out f7 (by simp)) H8 (by simp));have t6:=Kh e7;have A8:=Kh k5;have A9:=Kh n0;have s1:=Kh (k0.kept H8 (by simp));have E5:=k0.lt;have s9:=Kh (j4.kept H8 (by simp));have C6:=Kh (zB (zB C1.out f7 (by simp)) H8 (by simp));have p0:=Kh H8;have t4:=Kh (pclasses_any w1.heap.size w2 _ T N k x1 (j4.kept H8 (by simp)) H0.out (by omega));clear c9 s0 h6 i1 m9 m8 j4 k0 k2 e7 k5 H8 f7 i3 t8 t7 c0 c1 c2 c3 n0;obtain⟨a0,a1,a2,a3⟩:=zF e4.out;go_upto_region 2 with fail;rw[<- A8.out,<- A9.out];go_wp2_with fail;refine t4.out.mono ?_;rintro e w3 ⟨G6,rfl,F6,h4,a4⟩;rw[<- HP.out]at h4 ⊢;rw[e9];have D4:=a4.size;have i9:=Kh (zA e4.out a4 (by simp));have p3:=Kh (zA i7.out a4 (by simp));have d9:=Kh (zA t6.out a4 (by simp));have n9:=Kh (s1.out.kept a4 (by simp));have C7:=Kh (s9.out.kept a4 (by simp));have C5:=Kh (zB C6.out a4 (by simp));have H6:=Kh (zB p0.out a4 (by simp));have p5:=Kh h4;have A2:=h4.lt;clear t4 h4 a4 d0 d1 d2 d3 a0 a1 a2 a3 e4 i7 t6 s1 s9;obtain⟨a0,a1,a2,a3⟩:=zF i9.out;obtain⟨oQ,l5⟩:∃ oQ,oQ=w3.heap.size:=⟨_,rfl⟩;obtain⟨w5,k4⟩:∃ w5,w5=w3.alloc (.cells #[.int .i64 (k:Int),.int .i64 0,.slice none 0 0,.slice none 0 0] 42):=⟨_,rfl⟩;have m0:=Ga w3 (.cells #[.int .i64 (k:Int),.int .i64 0,.slice none 0 0,.slice none 0 0] 42) none;have g0:=heap_alloc_new w3 (.cells #[.int .i64 (k:Int),.int .i64 0,.slice none 0 0,.slice none 0 0] 42);rw[<- k4]at m0 g0;rw[<- l5]at g0;have A7:=Kh k4;have B5:=Kh l5;have b3:Hid (BX w3 w5 oQ (fun _=>False) k (uW T p 0) (sH T p 0) [] none 0 none 0):=Kh (BX.start g0 (by omega) m0);have y2:=zI g0;clear k4 l5 m0 g0;go_upto_region 4 with fail;rw[<- A7.out,<- B5.out];go_wp2_with fail
 go_loopg [8,9,10,11,12,30] N (fun gh a8 a9 a10 a11 a12 i wr=>∃ (q:Nat) (X:Nat->Prop) (hs:List Value) (sf:Option Addr) (cf:Nat) (sn:Option Addr) (cn:Nat),gh+q=N/\i=.int .i64 q/\BX w3 wr oQ X k (uW T p q) (sH T p q) hs sf cf sn cn)
 case atStart=>exact⟨0,_,_,_,_,_,_,rfl,rfl,b3.out⟩
 case round =>
  clear b3;obtain⟨q,X,hs,sf,cf,sn,cn,H9,rfl,e6⟩:=hrel;have e8:=Kh H9;have b3:=Kh e6;have h9:=e6.grown;have d7:=Kh h9;obtain⟨d0,d1,d2,d3⟩:=zF e6.box;obtain⟨t0,t1,t2,t3⟩:=zF (zA d9.out h9 (by simp));obtain⟨a0,a1,a2,a3⟩:=zF (zA i9.out h9 (by simp));by_cases hq:q<N
  ·have D8:(q:Int)<N:=by omega
   have cq:=(p5.out.kept h9 (by simp)).nat q (by omega);obtain⟨f4,l6,y6⟩:=mS c4.out (q:=q) (by omega);have a7:=bB (d:=T) c4.out (show q<=p.length by omega);have h6:=bA (d:=T) c4.out (show q<=p.length by omega);obtain⟨M,hM⟩:∃ M,M=cls (p.take q):=⟨_,rfl⟩;obtain⟨c,hc⟩:∃ c,c=p.getD q 0:=⟨_,rfl⟩;have F3:M<=q:=by rw[hM];have:=cls_le (p.take q);rw[List.length_take]at this;omega
   rw[<- hM]at a7 h6 f4 l6;rw[<- hc]at cq f4 l6;have HM:=Kh hM;have HC:=Kh hc;have j9:=Kh a7;have o1:=Kh h6;rw[a7]at d2;rw[h6]at d3;clear H9 e6 h9 l6 y6 hM hc a7 h6;by_cases m4:c<M
   ·have f9:(c:Int)<M:=by omega
    have e1:Hid (uW T p (q+1)=uW T p q/\sH T p (q+1)=sH T p q):=Kh (by
     have:p.getD q 0≠cls (p.take q):=by rw[<- HC.out,<- HM.out];omega
     exact⟨quotFs_old this,quotTs_old this⟩)
    go_wp2;go_roundg (N - (q+1))
    case measure=>have:=e8.out;omega
    case rel=>exact⟨q+1,X,hs,sf,cf,sn,cn,by have:=e8.out;omega,by go_num,by rw[e1.out.1,e1.out.2];exact b3.out⟩
   ·have z0:c=M:=by omega
    have f9:¬ (c:Int)<M:=by omega
    have e1:Hid (uW T p (q+1)=uW T p q++[T.final.getD q false]/\sH T p (q+1)=sH T p q++[wT p (T.next.getD q [])]):=Kh (by
     have:p.getD q 0=cls (p.take q):=by rw[<- HC.out,<- HM.out];exact z0
     exact⟨quotFs_new this,quotTs_new this⟩)
    have i0:=H7.out wr (zB H6.out d7.out (by simp));have H1:=i0.rcap q hq;have l1:=H1.1;have l0:TRC q<=9223372036854775807:=by have:=H1.2;unfold maxLen at this;omega
    obtain⟨rb,l3⟩:∃ rb,rb=TRB q:=⟨_,rfl⟩;obtain⟨ro,k9⟩:∃ ro,ro=TRO q:=⟨_,rfl⟩;obtain⟨rc,l2⟩:∃ rc,rc=TRC q:=⟨_,rfl⟩;have s6:Hid (∀ W:World,w3.grownBy W none->W.cell? ⟨tb,toff+q,none⟩=some (.slice (some ⟨rb,ro,none⟩) k rc)):=Kh (fun W hg=>by rw[l3,k9,l2];exact(H7.out W (zB H6.out hg (by simp))).hd q hq);have s8:Hid (∀ W:World,w3.grownBy W none->∀ a,a<k->W.cell? ⟨rb,ro+a,none⟩=some (.int .i64 ((nx T q a:Nat):Int))):=Kh (fun W hg a ha=>by rw[l3,k9];exact(H7.out W (zB H6.out hg (by simp))).el q a hq ha);have i5:Hid (∀ W:World,w3.grownBy W none->W.cell? ⟨tfb,tfo+q,none⟩=some (.bool (T.final.getD q false))):=Kh (fun W hg=>(H7.out W (zB H6.out hg (by simp))).fin hq);rw[<- l2]at l1 l0;clear i0 H1 l3 k9 l2;go_wp2_with (first|(at_make;refine nD rfl _ _ _ rfl yP rfl .i64 .i64 _ _ k rfl rfl rfl rfl ?b1 ?b2 ?_;(case b1=>omega);(case b2=>(unfold maxLen;omega));intro w7 h0 e5 l8;(obtain⟨u0,u1,u2,u3⟩:=zF (zA (zA d9.out d7.out (by simp)) e5 (by simp)));(have chd:=s6.out _ (zB d7.out e5 (by simp))))|fail);obtain⟨g,hg⟩:∃ g,g=wr.heap.size:=⟨_,rfl⟩;rw[<- hg]at h0 l8 ⊢
    have p4:Hid (Arr w7 g 3 (nats (gK T p k q 0))):=Kh (by
     rw[show gK T p k q 0=List.replicate k 0 by simp[gK],yV];exact h0)
    have i6:=Kh (b3.out.grow e5);have q8:∀ j,X j->j<g:=fun j hj=>by have:=b3.out.lt j hj;omega
    have B8:=Kh q8;have E7:oQ<g:=(by have:=zI b3.out.box;omega);have m1:w3.heap.size<=g:=by have:=d7.out.size;omega
    have C2:=Kh (zB d7.out e5 (by simp));have F7:=Kh e5.size;have E6:wr.heap.size<=g:=by omega
    clear h0 e5 q8 hg d0 d1 d2 d3 t0 t1 t2 t3 a0 a1 a2 a3 u0 u1 u2 u3 chd cq
    go_loopg [11,12,49] k (fun gh a11 a12 i wr=>∃ x:Nat,gh+x=k/\i=.int .i64 x/\Arr wr g 3 (nats (gK T p k q x))/\w7.grownBy wr (some g))
    case atStart=>exact⟨0,rfl,rfl,p4.out,zM _ _⟩
    case round =>
     obtain⟨x,H9,rfl,h0,h9⟩:=hrel;have d8:=Kh H9;have HA:=Kh h0;have o9:=Kh h9;have h3:=zB C2.out h9 (fun k e=>by have e:g=k:=Oj e;omega);have C4:=Kh h3;clear H9;by_cases hx:x<k
     ·have D7:(x:Int)<k:=by omega
      have cel:=s8.out wr h3 x hx;have x4:=qC H0.out hq hx;obtain⟨y,hy⟩:∃ y,y=nx T q x:=⟨_,rfl⟩;rw[<- hy]at cel x4;have x3:(y:Int)<N:=(by omega);have cy:=(p5.out.kept h3 (by simp)).nat y (by omega);have c6:=mapTo_set (d:=T) (p:=p) (q:=q) hx;rw[<- hy]at c6;have o4:=Kh c6;have s5:=Kh (nS (d:=T) (p:=p) (q:=q) (k:=k) (x:=x) (by omega));have ck:=h0.nat x (by rw[s5.out];exact hx);have fk:=h0.frozen x;obtain⟨z,hz⟩:∃ z,z=p.getD y 0:=⟨_,rfl⟩;rw[<- hz]at cy;have HZ:=Kh hz;clear c6 hz hy h0 h9 h3;go_wp2;go_roundg (k - (x+1))
      case measure=>have:=d8.out;omega
      case rel=>exact⟨x+1,by have:=d8.out;omega,by go_num,by rw[<- o4.out,<- HZ.out];exact HA.out.nat_set x (by rw[s5.out];exact hx) z,zD o9.out (zC wr ⟨g,x,none⟩ _)⟩
     ·have x5:x=k:=by have:=d8.out;omega
      subst x5;obtain⟨cur,rest,f8,_⟩:=p4.out;have z3:¬ X g:=fun hx=>by have:=B8.out g hx;omega
      have H3:=i6.out.put h9 f8 z3 m1;have p2:=Kh H3;have t9:Hid (Arr wr g 3 (ints (wT p (T.next.getD q [])))):=Kh (by rw[<- mapTo_full H0.out hq];exact h0);obtain⟨d0,d1,d2,d3⟩:=zF H3.box;have fz2:=zE H3.box 2;have d5:=zA d9.out h3 (by simp);obtain⟨t0,t1,t2,t3⟩:=zF d5;have cfin:=i5.out wr h3;have z5:=zI d5;have y3:=zI H3.box
      have x7:tfb<wr.heap.size:=by
       have:=(H7.out wr (zB H6.out h3 (by simp))).frow.1;exact this
      rw[j9.out]at d2;rw[o1.out]at d3;obtain⟨bf,m5⟩:∃ bf,bf=T.final.getD q false:=⟨_,rfl⟩;rw[<- m5]at cfin;have C9:=Kh m5;have o5:Hid (∀ W1:World,wr.grownBy W1 none->W1.ownsRow oQ 4 1 (.slice sf M cf) M (bls (uW T p q))/\oQ<=W1.heap.size):=Kh (fun W1 hg=>⟨by have:=zQ p2.out.ownF hg;rwa [j9.out]at this,by have:=hg.size;omega⟩)
      have b9:Hid (∀ (W1 w':World) (sf':Option Addr) (cf':Nat),w'.ownsRow oQ 4 1 (.slice sf' (M+1) cf') (M+1) (bls (uW T p q)++[.bool bf])->W1.grownBy w' (Value.slice sf M cf).ownBlock->wr.grownBy W1 none ->
        BX w3 (w'.setCell ⟨oQ,2,none⟩ (.slice sf' (M+1) cf')) oQ X x (uW T p q++[bf]) (sH T p q) hs sf' cf' sn cn/\Arr (w'.setCell ⟨oQ,2,none⟩ (.slice sf' (M+1) cf')) g 3 (ints (wT p (T.next.getD q [])))/\w'.frozen? ⟨oQ,2,none⟩=false/\w'.cell? ⟨oQ,2,none⟩=some (.slice sf M cf)):=Kh (fun W1 w' sf' cf' ho hg h1=>by
       have n2:=p2.out.grow h1;have n8:=n2.ownF;have m6:=n2.box;rw[j9.out]at n8 m6;have b7:=zA m6 hg (zS n8 m6 (by decide));have hp:=n2.pushF (b:=bf) j9.out ho hg rfl;have r6:=t9.out.kept h1 (by simp);obtain⟨cg,rg,y9,_⟩:=id r6
       exact⟨hp,(r6.kept hg (zS n8 y9 (by decide))).kept (zC w' ⟨oQ,2,none⟩ _) (fun e=>by have e:oQ=g:=Oj e;omega),zE b7 2,(zF b7).2.2.1⟩)
      obtain⟨wo,rfl⟩:∃ wo:World,wo=wr:=⟨_,rfl⟩;clear f8 H3 h0 h9 h3 d5 m5 p4;go_wp2_with fail
      go_region_law (first|(refine qBD ?g1 (.tmp 63) (.tmp 69) 39 ?g2 wU oQ (.slice sf M cf) M (bls (uW T p q)) ?g3 ?g4 (.bool bf) wo.heap.size (0,0) ?g5 ?g6 ?g7 ?g8 ?g9 ?g10 ?_;(case g1=>rfl);(case g2=>rfl);(case g3=>rfl);(case g4=>(refine(o5.out _ ?_).1;exact vC (o:=.cells #[.bool bf] 4) rfl rfl rfl rfl));(case g5=>rfl);(case g6=>exact heap_alloc_new (wo.drew) _);(case g7=>rfl);(case g8=>(unfold maxLen;omega));(case g9=>omega);(case g10=>(refine(o5.out _ ?_).2;exact vC (o:=.cells #[.bool bf] 4) rfl rfl rfl rfl));intro sf8 cf8 w8 b4 q9;have j0:=b9.out _ _ _ _ b4 q9 (vC (o:=.cells #[.bool bf] 4) rfl rfl rfl rfl);have m2:=j0.2.2.1;have m3:=j0.2.2.2;have j8:=Kh j0;clear j0 b4 q9)|fail)
      all_goals
       clear b9 o5 m2 m3 d0 d1 d2 d3 fz2 t0 t1 t2 t3 cfin p2 t9 i6 b3 s6 s8 i5;obtain⟨w9,p8⟩:∃ W9,W9=w8.setCell ⟨oQ,2,none⟩ (.slice sf8 (M+1) cf8):=⟨_,rfl⟩;rw[<- p8]at j8 ⊢;have H4:=j8.out.1;have x0:=Kh j8.out.2.1;have j7:=Kh H4;have n6:=H4.ownN;obtain⟨d0,d1,d2,d3⟩:=zF H4.box;rw[o1.out]at d3 n6;have s4:=Kh n6;have y1:=zI H4.box;clear p8 j8 H4 n6;go_wp2_with (first|(at_builtin;refine qDH rfl _ _ _ rfl uP oQ (.slice sn M cn) M hs rfl s4.out (.slice (some ⟨g,0,none⟩) x x) rfl rfl ?a1 ?a2 ?a3 ?_;(case a1=>(unfold maxLen;omega));(case a2=>omega);(case a3=>omega);intro sn6 cn6 w10 b5 l9 D3 l7;(have B6:=Kh b5);(have C3:=Kh l9);(have r5:=zA j7.out.box l9 (zS s4.out j7.out.box (by decide)));(obtain⟨e0,e1',e2,e3⟩:=zF r5);(have fz6:=zE r5 3);clear b5 l9 l7)|fail);go_roundg (N - (q+1))
       case measure=>have:=e8.out;omega
       case rel =>
        have hp:=j7.out.pushN (Y:=fun j=>X j\/j=g) o1.out (fun j hj=>.inl hj) (fun j hj=>by
         rcases hj with hj|rfl
         ·exact j7.out.lt j hj
         ·exact x0.out.lt) B6.out C3.out (RowX.of_arr x0.out (by rw[yE,wT,List.length_map,H0.out.row q hq]) (by unfold maxLen;omega) (.inr rfl)) rfl
        rw[C9.out,<- e1.out.1,<- e1.out.2]at hp;exact⟨q+1,_,_,_,_,_,_,by have:=e8.out;omega,by go_num,hp⟩
  ·have l4:q=N:=by have:=e8.out;omega
   have a7:(uW T p q).length=cls p:=by rw[bB c4.out (by omega),l4,<- e9,List.take_length]
   have h6:(sH T p q).length=cls p:=by rw[bA c4.out (by omega),l4,<- e9,List.take_length]
   have q5:(⟨(k:Int),0,uW T p q,sH T p q⟩:DfaV)=vE T p:=by
    have:=quot_full (d:=T) (p:=p) (q:=q) (by omega) (by
     have e:st0 T=0:=by rw[o2.out];rfl
     rw[e];exact norm_zero c4.out)
    rw[<- this,H0.out.hk]
   have j3:=(e6.built (a7.trans h6.symm)).dfa;rw[q5,a7,h6]at j3;obtain⟨M,hM⟩:∃ M,M=cls p:=⟨_,rfl⟩;have F4:M<=N:=by rw[hM,<- e9];exact cls_le p
   have q4:VD (vE T p) M k:=(by rw[hM];exact aS H0.out e9 c4.out);rw[<- hM]at j3;rw[a7,<- hM]at d2;rw[h6,<- hM]at d3;have B3:Hid (∀ i,i<N->p.getD i 0<M):=Kh (fun i hi=>by rw[hM];exact tB c4.out (by omega));have i3:=Kh (qBL wr.heap.size wr _ (vE T p) M k (Nat.le_refl _) j3 q4 (by omega));have C0:Hid (w.grownBy wr none):=Kh (zB C5.out h9 (by simp));clear H9 e6 a7 h6 q5 j3 q4 hM l4 e8 t0 t1 t2 t3 a0 a1 a2 a3;go_wp2_with fail;refine i3.out.mono ?_;rintro e wt ⟨vt,Gt,rfl,⟨ot,y0,sft,cft,snt,cnt,rfl,D9,j5⟩,z8,b8,j1⟩;rw[<- o7.out]at j5 ⊢;obtain⟨R,hR⟩:∃ R,R=minD T k:=⟨_,rfl⟩;rw[<- hR]at j5 ⊢;have n4:R.letters=k:=by rw[hR];exact(pS H0.out).hk
   have n3:R.start=0:=by rw[hR];rfl
   obtain⟨FL,n7⟩:∃ FL,FL=R.final.length:=⟨_,rfl⟩;obtain⟨NL,n5⟩:∃ NL,NL=R.next.length:=⟨_,rfl⟩;rw[n4,n3,<- n7,<- n5];obtain⟨ys,k3,D6⟩:∃ ys:List Int,Arr wt Gt 3 (ints ys)/\ys.length=M:=⟨_,b8,vF _ _⟩;have s3:=Kh hR;have B1:=Kh n4;have B0:=Kh n3;have p1:=Kh n7;have o6:=Kh n5;have C8:=Kh j5;have A5:=Kh k3;have B9:=Kh (zB C0.out j1 (by simp));have o8:=Kh (zB d7.out j1 (by simp));obtain⟨T13,d6⟩:∃ T13,T13=wt.heap.size:=⟨_,rfl⟩;obtain⟨w13,c5⟩:∃ w13,w13=wt.alloc (.cells #[.int .i64 (k:Int),.int .i64 0,.slice sft FL cft,.slice snt NL cnt] 42):=⟨_,rfl⟩;have a5:=Ga wt (.cells #[.int .i64 (k:Int),.int .i64 0,.slice sft FL cft,.slice snt NL cnt] 42) none;have H5:=heap_alloc_new wt (.cells #[.int .i64 (k:Int),.int .i64 0,.slice sft FL cft,.slice snt NL cnt] 42);rw[<- c5]at a5 H5;rw[<- d6]at H5;have D1:=d7.out.size;have D0:=j1.size;have x2:=a5.size;have r7:=zI H5;have y7:=k3.lt;have i8:=Kh H5;have o0:=Kh c5;have o3:=Kh d6;have h8:=Kh a5;have z6:Q<T13:=(by omega);have r8:w3.heap.size<=T13:=by omega
   clear hR n4 n3 n7 n5 j5 b8 k3 j1 H5 c5 d6 a5 d0 d1 d2 d3 b3 i3;go_upto_region 18 with fail;rw[<- o0.out,<- o3.out];go_wp2_with (first|(at_make;refine nD rfl _ _ _ rfl yP rfl .i64 .i64 _ _ n rfl rfl rfl rfl ?b1 ?b2 ?_;(case b1=>omega);(case b2=>(unfold maxLen;omega));intro ws h0 q7 f6)|fail);obtain⟨Gs,r9⟩:∃ Gs,Gs=w13.heap.size:=⟨_,rfl⟩;rw[<- r9]at h0 f6 ⊢;have s2:Hid (Arr ws Gs 3 (ints (List.replicate n 0))):=Kh (by simpa [sU] using h0);have A1:T13<Gs:=(by omega);have z9:Gt<Gs:=(by omega);have s7:=Kh q7;have A0:w13.heap.size<=Gs:=by omega
   clear h0 q7 r9 f6
   go_loopg [16,17,89] n (fun gh a16 a17 i wr=>∃ (j:Nat) (vs:List Int),gh+j=n/\i=.int .i64 j/\vs.length=n/\Arr wr Gs 3 (ints vs)/\w13.grownBy wr none)
   case atStart=>exact⟨0,_,rfl,rfl,by simp,s2.out,s7.out⟩
   case round =>
    clear s2 s7;obtain⟨j,vs,H9,rfl,k7,h0,h2⟩:=hrel;have b0:=Kh H9;have HA:=Kh h0;have i4:=Kh h2;have H2:=zB (zB o8.out h8.out (by simp)) h2 (by simp);clear H9;by_cases hj:j<n
    ·have E3:(j:Int)<n:=by omega
     have cz:=(n9.out.kept H2 (by simp)).int j (by omega);have cs:=h0.int j (by omega);have fs:=h0.frozen j;have b6:=A4.out j hj;obtain⟨z,hz⟩:∃ z,z=zs.getD j 0:=⟨_,rfl⟩;rw[<- hz]at cz b6;have x6:(ints vs).length=n:=by rw[yE,k7]
     rcases b6 with rfl|⟨i,hi,rfl⟩
     ·clear hz h0 h2 H2
      go_wp2;go_roundg (n - (j+1))
      case measure=>have:=b0.out;omega
      case rel=>exact⟨j+1,vs.set j (-1),by have:=b0.out;omega,by go_num,by rw[List.length_set,k7],HA.out.int_set j (by omega) (-1),zB i4.out (zC wr ⟨Gs,j,none⟩ _) (fun k e=>by have e:Gs=k:=Oj e;omega)⟩
     ·have E4:(i:Int)<N:=by omega
      have cp:=(p5.out.kept H2 (by simp)).nat i (by omega);have m4:=B3.out i hi;obtain⟨c,hc⟩:∃ c,c=p.getD i 0:=⟨_,rfl⟩;rw[<- hc]at cp m4;have f9:(c:Int)<M:=(by omega);have cy:=((A5.out.kept h8.out (by simp)).kept h2 (by simp)).int c (by omega);obtain⟨y,hy⟩:∃ y,y=ys.getD c 0:=⟨_,rfl⟩;rw[<- hy]at cy;have F8:=Kh (And.intro hi m4);clear hz hc hy h0 h2 H2;have y5:G6≠Gs:=(by omega);have y4:Gt≠Gs:=(by omega);go_wp2;go_roundg (n - (j+1))
      case measure=>have:=b0.out;omega
      case rel=>exact⟨j+1,(vs.set j (-1)).set j y,by have:=b0.out;omega,by go_num,by rw[List.length_set,List.length_set,k7],(HA.out.int_set j (by omega) (-1)).int_set j (by rw[List.length_set];omega) y,zB (zB i4.out (zC wr ⟨Gs,j,none⟩ _) (fun k e=>by have e:Gs=k:=Oj e;omega)) (zC (wr.setCell ⟨Gs,j,none⟩ (.int .i64 (-1))) ⟨Gs,j,none⟩ _) (fun k e=>by have e:Gs=k:=Oj e;omega)⟩
    ·obtain⟨e0,e1,e2,e3⟩:=zF (zA i8.out h2 (by simp))
     have d4:=zA p3.out H2 (by simp);obtain⟨q0,q1,q2,q3⟩:=zF d4;have f0:=zE d4 0;have f1:=zE d4 1;have f2:=zE d4 2;have f3:=zE d4 3;have t5:=Kh d4;clear d4;go_wp2;obtain⟨r4,c7⟩:=xI t5.out (.int .i64 (k:Int)) (.int .i64 0) (.slice sft FL cft) (.slice snt NL cnt);obtain⟨wz,p7⟩:∃ wz,wz=(((wr.setCell ⟨Q,0,none⟩ (.int .i64 (k:Int))).setCell ⟨Q,1,none⟩ (.int .i64 0)).setCell ⟨Q,2,none⟩ (.slice sft FL cft)).setCell ⟨Q,3,none⟩ (.slice snt NL cnt):=⟨_,rfl⟩;rw[<- p7]at r4 c7 ⊢;clear p7;obtain⟨r0,r1,r2,r3⟩:=zF r4;clear e0 e1 e2 e3 q0 q1 q2 q3 f0 f1 f2 f3;refine bodyPost_ret (v:=.tuple #[.agg #[.int .i64 (k:Int),.int .i64 0,.slice sft FL cft,.slice snt NL cnt],.slice (some ⟨Gs,0,none⟩) n n]) (by simp[results,Try.results85,go_sem,r0,r1,r2,r3]) rfl ?_;have y8:w.grownBy wz none:=zB (zB (zB B9.out h8.out (by simp)) h2 (by simp)) c7 (fun k e=>by have h7:Q=k:=Oj e;omega);have z1:=((C8.out.grow h8.out).grow h2).far c7 t5.out (by omega);refine⟨_,_,rfl,⟨ot,y0,sft,cft,snt,cnt,?_,by omega,by rw[<- s3.out];exact z1⟩,y8⟩;rw[<- s3.out,B0.out,B1.out,p1.out,o6.out]
end Go.Proofs.Ytjfdomfendbhfaa
namespace Go.Proofs.Ytjfdomfendbhfaa
open Go.RowKit
def nC (d:DfaV)(p:List Nat)(i:Nat):List Bool:=(uV p i).map fun q=>d.final.getD q false
def pT (d:DfaV)(p:List Nat)(i:Nat):List (List Int):=(uV p i).map fun q=>wT p (d.next.getD q [])
theorem qCC {d:DfaV}{p:List Nat}{i:Nat}(h:p.getD i 0=cls (p.take i)):nC d p (i+1)=nC d p i++[d.final.getD i false]:=by simp only[nC,vO h,List.map_append,List.map_cons,List.map_nil]
theorem qCA {d:DfaV}{p:List Nat}{i:Nat}(h:p.getD i 0=cls (p.take i)):pT d p (i+1)=pT d p i++[wT p (d.next.getD i [])]:=by simp only[pT,vO h,List.map_append,List.map_cons,List.map_nil]
theorem qCB {d:DfaV}{p:List Nat}{i:Nat}(h:p.getD i 0≠cls (p.take i)):nC d p (i+1)=nC d p i:=by simp only[nC,vN h]
theorem qBZ {d:DfaV}{p:List Nat}{i:Nat}(h:p.getD i 0≠cls (p.take i)):pT d p (i+1)=pT d p i:=by simp only[pT,vN h]
theorem tW {d:DfaV}{n k:Nat}(hd:VD d n k){p:List Nat}{q:Nat}(hq:q<n):(wT p (d.next.getD q [])).length=k:=by rw[wT,List.length_map,hd.row q hq]
theorem qCF {d:DfaV}{n k:Nat}(hd:VD d n k){p:List Nat}{q a:Nat}(hq:q<n)(ha:a<k):(wT p (d.next.getD q [])).getD a 0=((p.getD (nx d q a) 0:Nat):Int):=by
 rw[iA (by rw[hd.row q hq];exact ha)];rfl
def qHX (w:World)(m:DfaV)(e:Ending)(w':World):Prop:=∃ v,e=.returned v/\sI w w' v m/\w.grownBy w' none
theorem eN (B:Nat)(w:World)(v:Value)(d:DfaV)(n k:Nat)(hB:B<=w.heap.size)(h:uT B w v d)(hd:VD d n k):
  Calls Try.prog 54 #[v] w (qHX w (minD d k)):=by
 have b7:=h;obtain⟨fb,fo,fc,b,off,cap,RB,RO,RC,rfl,d5⟩:=h.at hd;have hn:=hd.hn;have p2:=hd.n1;have j4:=hd.nbig;have p5:=hd.k6;have p6:=hd.k1;have q0:=d5.fcap.1;have e6:=d5.fcap.2;have q1:=d5.cap.1;have e7:=d5.cap.2;have m1:fc<=9223372036854775807:=by unfold maxLen at e6;omega
 have m0:cap<=9223372036854775807:=by unfold maxLen at e7;omega
 obtain⟨S,hS⟩:∃ S,S=st0 d:=⟨_,rfl⟩;have m8:S<n:=by rw[hS];exact qR hd
 have n5:=Kh hS;have j1:dAgg k (st0 d) fb fo fc b off cap n=.agg #[.int .i64 (k:Int),.int .i64 (S:Int),.slice (some ⟨fb,fo,none⟩) n fc,.slice (some ⟨b,off,none⟩) n cap]:=by rw[hS];rfl
 rw[j1]at b7 ⊢;obtain⟨e9,g2,e4,j0⟩:=rX w #[.int .i64 (k:Int),.int .i64 (S:Int),.slice (some ⟨fb,fo,none⟩) n fc,.slice (some ⟨b,off,none⟩) n cap] #[.int .i64 0,.int .i64 0,.slice none 0 0,.slice none 0 0] 42;obtain⟨wA,i3⟩:∃ wA,wA=(w.alloc (.cells #[.int .i64 (k:Int),.int .i64 (S:Int),.slice (some ⟨fb,fo,none⟩) n fc,.slice (some ⟨b,off,none⟩) n cap] 42)).alloc (.cells #[.int .i64 0,.int .i64 0,.slice none 0 0,.slice none 0 0] 42):=⟨_,rfl⟩;rw[<- i3]at e9 g2 e4 j0;obtain⟨c0,c1,c2,c3⟩:=zF e9;obtain⟨P,hP⟩:∃ P,P=w.heap.size:=⟨_,rfl⟩;have g6:=Kh hP;rw[<- hP]at e9 g2 c0 c1 c2 c3 j0 hB;have i8:=Kh e9;have o3:=Kh g2;have o0:=Kh e4;have n2:=Kh i3;have o4:=Kh (d5.kept e4 (by simp));have HN:=Kh hn;have HD:=Kh hd;have l5:=Kh (classes_any B wA _ d n k (by omega) (b7.kept e4 (by simp)) hd);clear e9 g2 e4 i3 d5 hn hd h b7 j1 e6 e7 hS;go_enter Try.func54,Try.ntmps54;go_upto_region 1 with fail;rw[<- n2.out,<- g6.out];clear hP;go_wp2_with fail;refine l5.out.mono ?_;rintro e w1 ⟨G,rfl,m5,H2,g0⟩;have c9:(zU d k).length=n:=by rw[xW,HN.out]
 have f8:=vJ d k;obtain⟨p,hp⟩:∃ p,p=zU d k:=⟨_,rfl⟩;have HP:=Kh hp;rw[<- hp]at H2 c9 f8 ⊢;rw[c9];have b4:=pI f8;rw[c9]at b4;have l3:=Kh H2;have f4:=Kh g0;have g5:=Kh f8;have c5:=Kh c9;have n8:=Kh b4;have o6:=g0.size;have p8:=H2.1;obtain⟨d0,d1,d2,d3⟩:=zF (zA i8.out g0 (by simp));have cp:=H2.nat S (by rw[c9];exact m8);rw[Nat.zero_add]at cp;obtain⟨ps,g9⟩:∃ ps,ps=p.getD S 0:=⟨_,rfl⟩;have n7:=Kh g9;rw[<- g9]at cp;have m7:(S:Int)<n:=by omega
 have j6:=World.new_ne w1 _ d0;have e0:=World.new_ne w1 _ d1;have j5:=World.new_ne w1 _ cp;have i0:=World.block_lt_of_cell? w1 _ d0;simp only at j6 e0 j5 i0;have m9:P<w1.heap.size:=i0;clear hp H2 g0 c9 f8 b4 l5 c0 c1 c2 c3 d2 d3 g9;go_upto_region 2 with fail
 go_region_held3 (fun w'=>w'.cell? ⟨P,0,none⟩=some (.int .i64 (k:Int))/\w'.cell? ⟨P,1,none⟩=some (.int .i64 (S:Int))/\w'.cell? ⟨G,S,none⟩=some (.int .i64 (ps:Int))) (first|go_keep|fail) (fail)
 obtain⟨w4,rfl⟩:∃ w4:World,w4=w1:=⟨_,rfl⟩;obtain⟨O,hO⟩:∃ O,O=w4.heap.size:=⟨_,rfl⟩;obtain⟨w6,f7⟩:∃ w6,w6=(w4.alloc (.cells #[.int .i64 (k:Int),.int .i64 (ps:Int),.slice none 0 0,.slice none 0 0] 42)).drew:=⟨_,rfl⟩;rw[<- f7,<- hO];have b6:w4.grownBy w6 none:=by rw[f7];exact zD (Ga w4 _ none) (zP _ _)
 have k5:w6.heap[O]?=some (.cells #[.int .i64 (k:Int),.int .i64 (ps:Int),.slice none 0 0,.slice none 0 0] 42 (0,0)):=by rw[f7,hO];exact heap_alloc_new w4 _
 have l2:Built O w6 O k ps [] [] [] none 0 none 0:=⟨k5,World.ownsRow_nil _ _ _ _,World.ownsRow_nil _ _ _ _,xY.nil,rfl⟩;have l6:=Kh l2;have f3:=Kh b6;have f0:=Kh hO;have q5:G<O:=by omega
 have q3:P+1<O:=by omega
 have l7:=b6.size;clear k5 l2 b6 f7 hO j6 e0 j5 i0 m9 d0 d1 cp;go_wp2
 go_loopg [5,6,7,23] n (fun gh v5 a6 a7 i wr=>∃ (i':Nat) (hs:List Value) (sf:Option Addr) (cf:Nat) (sn:Option Addr) (cn:Nat),gh+i'=n/\i=.int .i64 i'/\v5=.int .i64 (cls (p.take i'):Nat)/\Built O wr O k ps (nC d p i') (pT d p i') hs sf cf sn cn/\w4.grownBy wr (some O))
 case atStart=>exact⟨0,[],none,0,none,0,rfl,rfl,rfl,l6.out,yQ f3.out⟩
 case round =>
  clear l6 f3;obtain⟨i,hs,sf,cf,sn,cn,hg,rfl,rfl,h7,h4⟩:=hrel;have f2:=Kh hg;have a1:=Kh h7;have f1:=Kh h4;have o5:=h4.size;clear hg;by_cases hi:i<n
  ·have p7:(i:Int)<n:=by omega
   have b8:O≠P:=(by omega);have l0:O≠G:=(by omega);have k3:=(l3.out.kept h4 (fun e=>l0 (Oj e))).nat i (by rw[c5.out];exact hi);rw[Nat.zero_add]at k3;obtain⟨H7,H4,H3⟩:=mS g5.out (q:=i) (by rw[c5.out];exact hi);have k2:=cls_le (p.take i);rw[List.length_take]at k2;obtain⟨c,hc⟩:∃ c,c=cls (p.take i):=⟨_,rfl⟩;rw[<- hc]at H7 H4 H3 k2 ⊢;obtain⟨x,hx⟩:∃ x,x=p.getD i 0:=⟨_,rfl⟩;rw[<- hx]at k3 H7 H4 H3;by_cases hxc:x=c
   ·have c7:=Kh (qCC (d:=d) (hx.symm.trans (hxc.trans hc)));have d6:=Kh (qCA (d:=d) (hx.symm.trans (hxc.trans hc)))
    have f5:Hid (cls (p.take (i+1))=c+1):=Kh (H4 hxc);have e1:((x:Int) != (c:Int))=false:=by rw[hxc];simp
    have d4:(nC d p i).length=c:=by simp only[nC,List.length_map];rw[wH g5.out i (by rw[c5.out];omega),hc]
    have b3:(pT d p i).length=c:=by simp only[pT,List.length_map];rw[wH g5.out i (by rw[c5.out];omega),hc]
    have hA:=(o4.out.kept f4.out (by simp)).kept h4 (fun k e=>by have:=Oj e;omega);have ch:=hA.hd i hi;obtain⟨d0,d1,d2,d3⟩:=zF (zA (zA i8.out f4.out (by simp)) h4 (fun e=>b8 (Oj e)));obtain⟨wo,rfl⟩:∃ wo:World,wo=wr:=⟨_,rfl⟩;have i9:=Kh hA;clear hA h7 h4 H7 H4 H3 hx hxc hc;go_wp2
    go_loopg [8,39] k (fun gh ov i' wr=>∃ (a:Nat) (sr:Option Addr) (cr:Nat),gh+a=k/\i'=.int .i64 a/\ov=.slice sr a cr/\wr.ownsRow wo.heap.size 3 1 (.slice sr a cr) a (ints ((wT p (d.next.getD i [])).take a))/\wo.grownBy wr none)
    case atStart=>exact⟨0,none,0,rfl,rfl,rfl,by simpa [ints] using World.ownsRow_nil _ _ _ _,zM _ _⟩
    case round =>
     obtain⟨a,sr,cr,hg,rfl,rfl,d9,h4⟩:=hrel;have l4:=Kh hg;have a0:=Kh d9;have i5:=Kh h4;clear hg d9 d0 d1 d2 d3;by_cases ha:a<k
     ·have q2:(a:Int)<k:=by omega
      have hA:=i9.out.kept h4 (by simp);have ce:=hA.el i a hi ha;have p0:=(hA.rcap i hi).1;have j3:=qC HD.out hi ha;have cp:=((l3.out.kept f1.out (fun e=>l0 (Oj e))).kept h4 (by simp)).nat (nx d i a) (by rw[c5.out];exact j3);rw[Nat.zero_add]at cp
      have i4:Hid ((wT p (d.next.getD i [])).take (a+1)=(wT p (d.next.getD i [])).take a++[((p.getD (nx d i a) 0:Nat):Int)]):=Kh (by
       rw[zR (d:=0) (by rw[tW HD.out hi];exact ha),qCF HD.out hi ha])
      obtain⟨s,hs⟩:∃ s,s=nx d i a:=⟨_,rfl⟩;rw[<- hs]at ce j3 cp i4;obtain⟨y,hy⟩:∃ y,y=p.getD s 0:=⟨_,rfl⟩;rw[<- hy]at cp i4;have m4:=h4.size;have l9:(s:Int)<n:=(by omega);clear hA hs hy h4;go_wp2_with (first|(at_builtin;refine app1 rfl _ _ _ rfl yP wo.heap.size _ a (ints ((wT p (d.next.getD i [])).take a)) rfl a0.out _ rfl rfl ?c1 ?c2 ?c3 ?_)|fail)
      case c1=>unfold maxLen;omega
      case c2=>omega
      case c3=>exact m4
      intro sa' sc' w6 a3 k0 m3;have n9:=Kh a3;have o1:=Kh k0;clear a3 k0;go_wp2;go_roundg (k - (a+1))
      case measure=>have:=l4.out;omega
      case rel =>
       refine⟨a+1,sa',sc',by omega,by go_num,rfl,?_,zB i5.out o1.out (fun q e=>(a0.out.lt q e).1)⟩;rw[i4.out,qCL];exact n9.out
     ·have k8:a=k:=by have:=l4.out;omega
      have j2:(wT p (d.next.getD i [])).take a=wT p (d.next.getD i []):=by rw[k8,<- tW HD.out (p:=p) hi];exact List.take_length
      rw[j2]at a0;obtain⟨w5,g8⟩:∃ w5,w5=wr.drew:=⟨_,rfl⟩;have n3:=Kh g8;have b5:wr.grownBy w5 none:=(by rw[g8];exact zP wr none);have a2:=Kh ((a1.out.grow h4).grow b5);have c4:Hid (RowT w5.heap.size 3 w5 (.slice sr a cr) (ints (wT p (d.next.getD i [])))):=Kh (RowT.of_owns (yM a0.out b5 (by simp)));have i6:=Kh (zD f1.out (yQ (zD h4 b5) (row:=some O)));have l1:=a2.out.box;have H0:=Kh l1;have g7:=Kh a2.out.notbox;have c8:O<=w5.heap.size:=by have:=h4.size;have:=b5.size;have:=f0.out;omega
      have cq:=(((i9.out.kept h4 (by simp)).kept b5 (by simp))).fin hi;obtain⟨_,_,d2,_⟩:=zF (zA (zA (zA (zA i8.out f4.out (by simp)) f1.out (fun e=>b8 (Oj e))) h4 (by simp)) b5 (by simp));have p9:=i9.out.flt;have m6:O≠fb:=(by omega);obtain⟨bq,k4⟩:∃ bq,bq=d.final.getD i false:=⟨_,rfl⟩;rw[<- k4]at cq c7;obtain⟨fsl,e5⟩:∃ x,x=nC d p i:=⟨_,rfl⟩;obtain⟨tsl,d8⟩:∃ x,x=pT d p i:=⟨_,rfl⟩;rw[<- e5]at a2 H0 c7 d4;rw[<- d8]at a2 H0 d6 b3;obtain⟨m,hm⟩:∃ m,m=c:=⟨_,rfl⟩;rw[<- hm]at d4 b3;have b9:=Kh b3;have k9:=a2.out.many
      have hM:Many w5 (FB sf sn) w5 [⟨O,34,.slice sn m cn,m,hs,1⟩,⟨O,4,.slice sf m cf,m,bls fsl,1⟩] [] []:=by
       have h1:=k9;simp only[rN,rF,d4,b3]at h1;exact h1
      have d7:Hid (∀ W:World,(W.cell? ⟨P,2,none⟩=some (.slice (some ⟨fb,fo,none⟩) n fc)/\W.cell? ⟨fb,fo+i,none⟩=some (.bool bq))->∀ (c:Nat) (X:Value),(W.setCell ⟨O,c,none⟩ X).cell? ⟨P,2,none⟩=some (.slice (some ⟨fb,fo,none⟩) n fc)/\(W.setCell ⟨O,c,none⟩ X).cell? ⟨fb,fo+i,none⟩=some (.bool bq)):=Kh (fun W h c X =>
       ⟨by rw[World.cell?_setCell_far W ⟨O,c,none⟩ ⟨P,2,none⟩ X b8];exact h.1,by rw[World.cell?_setCell_far W ⟨O,c,none⟩ ⟨fb,fo+i,none⟩ X m6];exact h.2⟩)
      have h0:Hid (∀ W rs ls,Many w5 (FB sf sn) W rs ls []->(W.cell? ⟨P,2,none⟩=some (.slice (some ⟨fb,fo,none⟩) n fc)/\W.cell? ⟨fb,fo+i,none⟩=some (.bool bq))/\(W.cell? ⟨O,3,none⟩=some (.slice sn m cn)/\W.cell? ⟨O,2,none⟩=some (.slice sf m cf))):=Kh (fun W rs ls h=>by
       have j8:=a2.out.ge;have hb:=h.but.heap H0.out g7.out;rw[d4,b3]at hb;obtain⟨_,_,e2,e3⟩:=zF hb
       exact⟨⟨h.but.cell d2 (fun hf=>by have:=j8 _ hf;simp only at this;omega),h.but.cell cq (fun hf=>by have:=j8 _ hf;simp only at this;omega)⟩,e3,e2⟩)
      rw[d4,b3]at H0;have p3:Hid (m=c):=Kh hm;have p4:m<=4194304:=by omega
      clear k9 l1 j2 k8 g8 b5 h4 k4 e5 d8 hm d4 b3 ch d2 cq;go_upto_region 15 with fail;refine wp_region_noPanic ?_;refine xZ (G:=tG 15 (fun W=>W.cell? ⟨P,2,none⟩=some (.slice (some ⟨fb,fo,none⟩) n fc)/\W.cell? ⟨fb,fo+i,none⟩=some (.bool bq)) (fun W=>W.cell? ⟨O,3,none⟩=some (.slice sn m cn)/\W.cell? ⟨O,2,none⟩=some (.slice sf m cf))) (by kernel_rfl) ?_;rw[<- n3.out];refine yK 0 ⟨(h0.out _ _ _ hM).1,fun _=>(h0.out _ _ _ hM).2⟩ ?_;refine vX 1 ⟨(h0.out _ _ _ hM).1,fun _=>(h0.out _ _ _ hM).2⟩ ?_;refine yK 2 ⟨(h0.out _ _ _ hM).1,fun _=>(h0.out _ _ _ hM).2⟩ ?_;refine yK 5 ⟨(h0.out _ _ _ hM).1,fun _=>(h0.out _ _ _ hM).2⟩ ?_;refine vX 6 ⟨(h0.out _ _ _ hM).1,fun _=>(h0.out _ _ _ hM).2⟩ ?_;refine yK 7 ⟨(h0.out _ _ _ hM).1,fun _=>(h0.out _ _ _ hM).2⟩ ?_;refine yK 8 ⟨(h0.out _ _ _ hM).1,fun _=>(h0.out _ _ _ hM).2⟩ ?_;refine yK 9 ⟨(h0.out _ _ _ hM).1,fun _=>(h0.out _ _ _ hM).2⟩ ?_;refine yK 10 ⟨(h0.out _ _ _ hM).1,fun _=>(h0.out _ _ _ hM).2⟩ ?_;refine yK 11 ⟨(h0.out _ _ _ hM).1,fun _=>(h0.out _ _ _ hM).2⟩ ?_;refine twoG (i:=3) (j:=12) (by kernel_rfl) rfl rfl (fun K hK=>?_) (fun K hK=>?_)
      ·skip
       go_simp;refine hK.out _ _ ⟨(h0.out _ _ _ (hM.alloc _)).1,fun _=>(h0.out _ _ _ (hM.alloc _)).2⟩ ?_;clear hK K
       try simp only[Act.put,sPa,sPb,sPc]
       refine twoG (i:=4) (j:=12) (by kernel_rfl) rfl rfl (fun K hK=>?_) (fun K hK=>?_)
       ·skip
        refine vY rfl (.tmp 52) (.tmp 54) 40 rfl uP 0 _ _ rfl ⟨_,_,_,_,_,(hM.alloc _),_,rfl,rfl,rfl,rfl,?g3,?g4,c8,_,_,_,List.Mem.head _,(by first|rfl|simp),rfl,?_⟩
        case g3=>(simp only[];unfold maxLen;omega)
        case g4=>(simp only[];omega)
        intro sa1 sc1 w1x H9;have H5:=H9.litcell (List.Mem.head _)
        try simp only[zO]at H5
        refine hK.out _ _ ⟨(h0.out _ _ _ H9).1,fun _=>(h0.out _ _ _ H9).2⟩ ?_;clear hK K
        try simp only[Act.put,sPa,sPb,sPc]
        refine yK 14 ⟨(h0.out _ _ _ H9).1,fun _=>(h0.out _ _ _ H9).2⟩ ?_;refine oneG (i:=12) (by kernel_rfl) rfl (fun K hK=>?_);go_simp;refine hK.out _ _ ⟨(h0.out _ _ _ (H9.alloc _)).1,fun _=>(h0.out _ _ _ (H9.alloc _)).2⟩ ?_;clear hK K
        try simp only[Act.put,sPa,sPb,sPc]
        refine oneG (i:=13) (by kernel_rfl) rfl (fun K hK=>?_);refine vY rfl (.tmp 57) (.tmp 63) 39 rfl wU 1 _ _ rfl ⟨_,_,_,_,_,(H9.alloc _),_,rfl,rfl,rfl,rfl,?g3,?g4,c8,_,_,_,List.Mem.head _,(by first|rfl|simp),rfl,?_⟩
        case g3=>(simp only[];unfold maxLen;omega)
        case g4=>(simp only[];omega)
        intro sa2 sc2 w2x b2;have H5:=b2.litcell (List.Mem.head _)
        try simp only[zO]at H5
        have H8:=b2.litcell (List.Mem.tail _ (List.Mem.head _))
        try simp only[zO]at H8
        refine hK.out _ _ ⟨(h0.out _ _ _ b2).1,fun _=>(h0.out _ _ _ b2).2⟩ ?_;clear hK K
        try simp only[Act.put,sPa,sPb,sPc]
        refine oneG (i:=15) (by kernel_rfl) rfl (fun K hK=>?_);have h5:=b2.but.heap H0.out g7.out;have cb3:=zJ h5 3 (by simp);have cb2:=zJ h5 2 (by simp);have fb3:=zE h5 3;have fb2:=zE h5 2;simp only[List.getElem_toArray,List.getElem_cons_zero,List.getElem_cons_succ]at cb3 cb2;go_simp;have h3:=heap_setCell_same _ O 3 _ _ (.slice sa1 (m+1) sc1) h5;have cb22:=zJ h3 2 (by simp);have fb22:=zE h3 2;simp at cb22;have H1:=d7.out _ (h0.out _ _ _ b2).1 3 (.slice sa1 (m+1) sc1);refine hK.out _ _ ⟨H1,fun h=>by simp at h⟩ ?_;clear hK K
        try simp only[Act.put,sPa,sPb,sPc]
        refine yK 16 ⟨H1,fun h=>by simp at h⟩ ?_;refine oneG (i:=17) (by kernel_rfl) rfl (fun K hK=>?_);go_simp;have h6:=d7.out _ H1 2 (.slice sa2 (m+1) sc2);refine hK.out _ _ ⟨h6,fun h=>by simp at h⟩ ?_;clear hK K
        try simp only[Act.put,sPa,sPb,sPc]
        refine nE (by kernel_rfl) ?_ _;refine NoPanic.normal ?_;obtain⟨h7,a5⟩:=a2.out.push (b:=bq) (row:=wT p (d.next.getD i [])) b9.out b2 c4.out rfl;have H6:=Kh h7;have c6:=Kh (a5 w4 i6.out (by have:=f0.out;omega));clear h7 a5 cb3 cb2 fb3 fb2 h5 h3 cb22 fb22 H1 h6 b2
        (try clear H9)
        go_wp2;go_roundg (n - (i+1))
        case measure=>have:=f2.out;omega
        case rel=>exact⟨i+1,_,_,_,_,_,by omega,by go_num,by rw[f5.out];rfl,H6.out.congr c7.out d6.out,c6.out⟩
       ·skip
        go_simp;refine hK.out _ _ ⟨(h0.out _ _ _ ((hM.alloc _).alloc _)).1,fun _=>(h0.out _ _ _ ((hM.alloc _).alloc _)).2⟩ ?_;clear hK K
        try simp only[Act.put,sPa,sPb,sPc]
        refine oneG (i:=4) (by kernel_rfl) rfl (fun K hK=>?_);refine vY rfl (.tmp 52) (.tmp 54) 40 rfl uP 0 _ _ rfl ⟨_,_,_,_,_,((hM.alloc _).alloc _),_,rfl,rfl,rfl,rfl,?g3,?g4,c8,_,_,_,List.Mem.tail _ (List.Mem.head _),(by first|rfl|simp),rfl,?_⟩
        case g3=>(simp only[];unfold maxLen;omega)
        case g4=>(simp only[];omega)
        intro sa3 sc3 w3x b1;have H5:=b1.litcell (List.Mem.head _)
        try simp only[zO]at H5
        have H8:=b1.litcell (List.Mem.tail _ (List.Mem.head _))
        try simp only[zO]at H8
        refine hK.out _ _ ⟨(h0.out _ _ _ b1).1,fun _=>(h0.out _ _ _ b1).2⟩ ?_;clear hK K
        try simp only[Act.put,sPa,sPb,sPc]
        refine yK 14 ⟨(h0.out _ _ _ b1).1,fun _=>(h0.out _ _ _ b1).2⟩ ?_;refine oneG (i:=13) (by kernel_rfl) rfl (fun K hK=>?_);refine vY rfl (.tmp 57) (.tmp 63) 39 rfl wU 1 _ _ rfl ⟨_,_,_,_,_,b1,_,rfl,rfl,rfl,rfl,?g3,?g4,c8,_,_,_,List.Mem.head _,(by first|rfl|simp),rfl,?_⟩
        case g3=>(simp only[];unfold maxLen;omega)
        case g4=>(simp only[];omega)
        intro sa4 sc4 w4x b0;have H5:=b0.litcell (List.Mem.head _)
        try simp only[zO]at H5
        have H8:=b0.litcell (List.Mem.tail _ (List.Mem.head _))
        try simp only[zO]at H8
        refine hK.out _ _ ⟨(h0.out _ _ _ b0).1,fun _=>(h0.out _ _ _ b0).2⟩ ?_;clear hK K
        try simp only[Act.put,sPa,sPb,sPc]
        refine oneG (i:=15) (by kernel_rfl) rfl (fun K hK=>?_);have h5:=b0.but.heap H0.out g7.out;have cb3:=zJ h5 3 (by simp);have cb2:=zJ h5 2 (by simp);have fb3:=zE h5 3;have fb2:=zE h5 2;simp only[List.getElem_toArray,List.getElem_cons_zero,List.getElem_cons_succ]at cb3 cb2;go_simp;have h3:=heap_setCell_same _ O 3 _ _ (.slice sa3 (m+1) sc3) h5;have cb22:=zJ h3 2 (by simp);have fb22:=zE h3 2;simp at cb22;have H1:=d7.out _ (h0.out _ _ _ b0).1 3 (.slice sa3 (m+1) sc3);refine hK.out _ _ ⟨H1,fun h=>by simp at h⟩ ?_;clear hK K
        try simp only[Act.put,sPa,sPb,sPc]
        refine yK 16 ⟨H1,fun h=>by simp at h⟩ ?_;refine oneG (i:=17) (by kernel_rfl) rfl (fun K hK=>?_);go_simp;have h6:=d7.out _ H1 2 (.slice sa4 (m+1) sc4);refine hK.out _ _ ⟨h6,fun h=>by simp at h⟩ ?_;clear hK K
        try simp only[Act.put,sPa,sPb,sPc]
        refine nE (by kernel_rfl) ?_ _;refine NoPanic.normal ?_;obtain⟨h7,a5⟩:=a2.out.push (b:=bq) (row:=wT p (d.next.getD i [])) b9.out b0 c4.out rfl;have H6:=Kh h7;have c6:=Kh (a5 w4 i6.out (by have:=f0.out;omega));clear h7 a5 cb3 cb2 fb3 fb2 h5 h3 cb22 fb22 H1 h6 b0
        (try clear b1)
        go_wp2;go_roundg (n - (i+1))
        case measure=>have:=f2.out;omega
        case rel=>exact⟨i+1,_,_,_,_,_,by omega,by go_num,by rw[f5.out];rfl,H6.out.congr c7.out d6.out,c6.out⟩
      ·skip
       go_simp;refine hK.out _ _ ⟨(h0.out _ _ _ (hM.alloc _)).1,fun _=>(h0.out _ _ _ (hM.alloc _)).2⟩ ?_;clear hK K
       try simp only[Act.put,sPa,sPb,sPc]
       refine oneG (i:=3) (by kernel_rfl) rfl (fun K hK=>?_);go_simp;refine hK.out _ _ ⟨(h0.out _ _ _ ((hM.alloc _).alloc _)).1,fun _=>(h0.out _ _ _ ((hM.alloc _).alloc _)).2⟩ ?_;clear hK K
       try simp only[Act.put,sPa,sPb,sPc]
       refine oneG (i:=4) (by kernel_rfl) rfl (fun K hK=>?_);refine vY rfl (.tmp 52) (.tmp 54) 40 rfl uP 0 _ _ rfl ⟨_,_,_,_,_,((hM.alloc _).alloc _),_,rfl,rfl,rfl,rfl,?g3,?g4,c8,_,_,_,List.Mem.head _,(by first|rfl|simp),rfl,?_⟩
       case g3=>(simp only[];unfold maxLen;omega)
       case g4=>(simp only[];omega)
       intro sa5 sc5 w5x a9;have H5:=a9.litcell (List.Mem.head _)
       try simp only[zO]at H5
       have H8:=a9.litcell (List.Mem.tail _ (List.Mem.head _))
       try simp only[zO]at H8
       refine hK.out _ _ ⟨(h0.out _ _ _ a9).1,fun _=>(h0.out _ _ _ a9).2⟩ ?_;clear hK K
       try simp only[Act.put,sPa,sPb,sPc]
       refine yK 14 ⟨(h0.out _ _ _ a9).1,fun _=>(h0.out _ _ _ a9).2⟩ ?_;refine oneG (i:=13) (by kernel_rfl) rfl (fun K hK=>?_);refine vY rfl (.tmp 57) (.tmp 63) 39 rfl wU 1 _ _ rfl ⟨_,_,_,_,_,a9,_,rfl,rfl,rfl,rfl,?g3,?g4,c8,_,_,_,List.Mem.tail _ (List.Mem.head _),(by first|rfl|simp),rfl,?_⟩
       case g3=>(simp only[];unfold maxLen;omega)
       case g4=>(simp only[];omega)
       intro sa6 sc6 w6x a8;have H5:=a8.litcell (List.Mem.head _)
       try simp only[zO]at H5
       have H8:=a8.litcell (List.Mem.tail _ (List.Mem.head _))
       try simp only[zO]at H8
       refine hK.out _ _ ⟨(h0.out _ _ _ a8).1,fun _=>(h0.out _ _ _ a8).2⟩ ?_;clear hK K
       try simp only[Act.put,sPa,sPb,sPc]
       refine oneG (i:=15) (by kernel_rfl) rfl (fun K hK=>?_);have h5:=a8.but.heap H0.out g7.out;have cb3:=zJ h5 3 (by simp);have cb2:=zJ h5 2 (by simp);have fb3:=zE h5 3;have fb2:=zE h5 2;simp only[List.getElem_toArray,List.getElem_cons_zero,List.getElem_cons_succ]at cb3 cb2;go_simp;have h3:=heap_setCell_same _ O 3 _ _ (.slice sa5 (m+1) sc5) h5;have cb22:=zJ h3 2 (by simp);have fb22:=zE h3 2;simp at cb22;have H1:=d7.out _ (h0.out _ _ _ a8).1 3 (.slice sa5 (m+1) sc5);refine hK.out _ _ ⟨H1,fun h=>by simp at h⟩ ?_;clear hK K
       try simp only[Act.put,sPa,sPb,sPc]
       refine yK 16 ⟨H1,fun h=>by simp at h⟩ ?_;refine oneG (i:=17) (by kernel_rfl) rfl (fun K hK=>?_);go_simp;have h6:=d7.out _ H1 2 (.slice sa6 (m+1) sc6);refine hK.out _ _ ⟨h6,fun h=>by simp at h⟩ ?_;clear hK K
       try simp only[Act.put,sPa,sPb,sPc]
       refine nE (by kernel_rfl) ?_ _;refine NoPanic.normal ?_;obtain⟨h7,a5⟩:=a2.out.push (b:=bq) (row:=wT p (d.next.getD i [])) b9.out a8 c4.out rfl;have H6:=Kh h7;have c6:=Kh (a5 w4 i6.out (by have:=f0.out;omega));clear h7 a5 cb3 cb2 fb3 fb2 h5 h3 cb22 fb22 H1 h6 a8
       (try clear a9)
       go_wp2;go_roundg (n - (i+1))
       case measure=>have:=f2.out;omega
       case rel=>exact⟨i+1,_,_,_,_,_,by omega,by go_num,by rw[f5.out];rfl,H6.out.congr c7.out d6.out,c6.out⟩
   ·have c7:=Kh (qCB (d:=d) (fun e=>hxc (hx.trans (e.trans hc.symm))));have d6:=Kh (qBZ (d:=d) (fun e=>hxc (hx.trans (e.trans hc.symm))))
    have f5:Hid (cls (p.take (i+1))=c):=Kh (H3 hxc);have e1:((x:Int) != (c:Int))=true:=by rw[bne_iff_ne];omega
    clear h7 h4 H7 H4 H3 hx hc hxc;go_wp2;go_roundg (n - (i+1))
    case measure=>have:=f2.out;omega
    case rel=>exact⟨i+1,hs,sf,cf,sn,cn,by omega,by go_num,by rw[f5.out],a1.out.congr c7.out d6.out,f1.out⟩
  ·have j7:i=n:=by have:=f2.out;omega
   have hE:(⟨(k:Int),(ps:Int),nC d p i,pT d p i⟩:DfaV)=vE d p:=by
    have h1:=HD.out.hk;have h2:reps p=uV p i:=by rw[reps,c5.out,j7]
    simp only[vE,nC,pT,h1,h2,n7.out,n5.out]
   have n6:=Kh (aS HD.out c5.out g5.out);have i2:=h7.dfa;rw[hE]at i2;have n4:=Kh (trim_any wr.heap.size wr _ (vE d p) (cls p) k (Nat.le_refl _) i2 n6.out);obtain⟨d0,d1,d2,d3⟩:=zF h7.box;have b8:O≠P+1:=(by omega);have n0:P+1≠O:=(by omega);clear hE i2 h7 j7;go_wp2_with fail;refine n4.out.mono ?_;rintro e w7 ⟨v7,pv7,rfl,a4,f9⟩;have m2:xT (vE d p) k=minD d k:=by rw[HP.out];rfl
   rw[m2]at a4;obtain⟨o7,l8,sf7,cf7,sn7,cn7,rfl,p1,k7⟩:=a4;have h9:=zA a1.out.box f9 (by simp);have h8:=zA (zA (zA o3.out f4.out (by simp)) h4 (fun e=>b8 (Oj e))) f9 (by simp);have f6:=Kh h9;have i7:=Kh h8;have o2:=Kh k7;have c6:=Kh f9;obtain⟨x0,x1,x2,x3⟩:=zF h9;obtain⟨y0,y1,y2,y3⟩:=zF h8;have fx0:=zE h9 0;have fx1:=zE h9 1;have fx2:=zE h9 2;have fx3:=zE h9 3;have fy0:=zE h8 0;have fy1:=zE h8 1;have fy2:=zE h8 2;have fy3:=zE h8 3;clear h9 h8 k7 f9 h4 d0 d1 d2 d3;go_wp2;refine bodyPost_ret (v:=.agg #[.int .i64 (minD d k).letters,.int .i64 (minD d k).start,.slice sf7 (minD d k).final.length cf7,.slice sn7 (minD d k).next.length cn7]) (by simp[results,Try.results54,go_sem,y0,y1,y2,y3,b8,n0]) rfl ?_;obtain⟨o9,i1⟩:=xI f6.out (.int .i64 (minD d k).letters) (.int .i64 (minD d k).start) (.slice sf7 (minD d k).final.length cf7) (.slice sn7 (minD d k).next.length cn7);have e8:=zA i7.out i1 (fun e=>b8 (Oj e));obtain⟨o8,j9⟩:=xI e8 (.int .i64 (minD d k).letters) (.int .i64 (minD d k).start) (.slice sf7 (minD d k).final.length cf7) (.slice sn7 (minD d k).next.length cn7);have q4:O<wr.heap.size:=zI a1.out.box;refine⟨_,rfl,⟨o7,l8,sf7,cf7,sn7,cn7,rfl,by have:=g6.out;omega,(o2.out.far i1 f6.out (by omega)).far j9 e8 (by omega)⟩,?_⟩;have g1:w.grownBy wr none:=zD o0.out (zD f4.out (zB (zM _ _) f1.out (fun x e=>by have:=Oj e;have:=f0.out;omega)));refine zB (zB (zD g1 c6.out) i1 (fun x e=>by have:=Oj e;have:=g6.out;omega)) j9 (fun x e=>by have:=Oj e;have:=g6.out;omega)
theorem mM (B:Nat)(w:World)(v:Value)(d:DfaV)(n k:Nat)(hB:B<=w.heap.size)(h:uT B w v d)(hd:VD d n k)(h5:n<=512):
  Calls Try.prog 58 #[v] w (qHX w (minD d k)):=by
 have h0:=h;obtain⟨fb,fo,fc,b,off,cap,RB,RO,RC,rfl,b6⟩:=h.at hd;obtain⟨S,hS⟩:∃ S,S=st0 d:=⟨_,rfl⟩;have a7:dAgg k (st0 d) fb fo fc b off cap n=.agg #[.int .i64 (k:Int),.int .i64 (S:Int),.slice (some ⟨fb,fo,none⟩) n fc,.slice (some ⟨b,off,none⟩) n cap]:=by rw[hS];rfl
 rw[a7]at h0 ⊢;obtain⟨h4,H1,h6,a5⟩:=rX w #[.int .i64 (k:Int),.int .i64 (S:Int),.slice (some ⟨fb,fo,none⟩) n fc,.slice (some ⟨b,off,none⟩) n cap] #[.int .i64 0,.int .i64 0,.slice none 0 0,.slice none 0 0] 42;obtain⟨wA,H4⟩:∃ wA,wA=(w.alloc (.cells #[.int .i64 (k:Int),.int .i64 (S:Int),.slice (some ⟨fb,fo,none⟩) n fc,.slice (some ⟨b,off,none⟩) n cap] 42)).alloc (.cells #[.int .i64 0,.int .i64 0,.slice none 0 0,.slice none 0 0] 42):=⟨_,rfl⟩;rw[<- H4]at h4 H1 h6 a5;obtain⟨c0,c1,c2,c3⟩:=zF h4;obtain⟨P,hP⟩:∃ P,P=w.heap.size:=⟨_,rfl⟩;obtain⟨Q,hQ⟩:∃ Q,Q=w.heap.size+1:=⟨_,rfl⟩;have c9:=Kh hP;have c8:Hid (Q=P+1):=Kh (by omega);have f4:P<Q:=by omega
 have e7:Q<wA.heap.size:=by omega
 have e9:w.heap.size<=P:=by omega
 have b7:B<=wA.heap.size:=by omega
 rw[<- hQ]at H1;rw[<- hP]at h4 c0 c1 c2 c3 hB;have d9:=Kh h4;have d8:=Kh H1;have d4:=Kh h6;have b8:=Kh H4;have HD:=Kh hd;have a2:=Kh (h0.kept h6 (by simp));have a9:=Kh (rP B wA _ d b7 a2.out);have c4:=Kh (fA hd h5);clear h4 H1 h6 H4 b6 hd h h0 a7 hS a5 hP hQ;go_enter Try.func58,Try.ntmps58;go_upto_region 1 with fail;rw[<- b8.out,<- c9.out,<- c8.out];go_wp2_with fail;refine a9.out.mono ?_;rintro e w1 ⟨rfl,h2⟩;rw[c4.out];have e6:=h2.size;have d6:=Kh h2;have a4:=Kh (zA d9.out h2 (by simp));have a3:=Kh (zA d8.out h2 (by simp));have b1:=Kh (pminimal_any B w1 _ d n k (by omega) (a2.out.kept h2 (by simp)) HD.out h5);obtain⟨d0,d1,d2,d3⟩:=zF a4.out;clear h2 a9 c0 c1 c2 c3;go_wp2_with fail;refine b1.out.mono ?_;rintro e w2 ⟨v2,sv,rfl,⟨o,hs,sf,cf,sn,cn,rfl,ho,h9⟩,h8⟩;rw[min_trim HD.out]at h9 ⊢;obtain⟨R,hR⟩:∃ R,R=minD d k:=⟨_,rfl⟩;rw[<- hR]at h9 ⊢;have H7:R.letters=k:=by rw[hR];exact(pS HD.out).hk
 have H6:R.start=0:=by rw[hR];rfl
 obtain⟨FL,H9⟩:∃ FL,FL=R.final.length:=⟨_,rfl⟩;obtain⟨NL,H8⟩:∃ NL,NL=R.next.length:=⟨_,rfl⟩;rw[H7,H6,<- H9,<- H8];have b0:=Kh hR;have c7:=Kh H7;have c6:=Kh H6;have a1:=Kh H9;have a0:=Kh H8;have d7:=Kh h9;have d5:=Kh h8;obtain⟨T3,H5⟩:∃ T3,T3=w2.heap.size:=⟨_,rfl⟩;obtain⟨w3,H2⟩:∃ w3,w3=w2.alloc (.cells #[.int .i64 (k:Int),.int .i64 0,.slice sf FL cf,.slice sn NL cn] 42):=⟨_,rfl⟩;have h3:=Ga w2 (.cells #[.int .i64 (k:Int),.int .i64 0,.slice sf FL cf,.slice sn NL cn] 42) none;have H0:=heap_alloc_new w2 (.cells #[.int .i64 (k:Int),.int .i64 0,.slice sf FL cf,.slice sn NL cn] 42);rw[<- H2]at h3 H0;rw[<- H5]at H0;have e5:=h8.size;have e4:=h3.size;have b9:=Kh H2;have c5:=Kh H5;have b2:=Kh h3;have h1:=zA (zA a3.out h8 (by simp)) h3 (by simp);have b3:=Kh h1;obtain⟨e0,e1,e2,e3⟩:=zF H0;obtain⟨q0,q1,q2,q3⟩:=zF h1;have f0:=zE h1 0;have f1:=zE h1 1;have f2:=zE h1 2;have f3:=zE h1 3;have e8:Q<T3:=by omega
 clear hR H7 H6 H9 H8 h9 h8 H2 H5 h3 H0 h1 d0 d1 d2 d3 b1 a2;go_upto_region 4 with fail;rw[<- b9.out,<- c5.out];go_wp2;obtain⟨a8,H3⟩:=xI b3.out (.int .i64 (k:Int)) (.int .i64 0) (.slice sf FL cf) (.slice sn NL cn);obtain⟨wz,a6⟩:∃ wz,wz=(((w3.setCell ⟨Q,0,none⟩ (.int .i64 (k:Int))).setCell ⟨Q,1,none⟩ (.int .i64 0)).setCell ⟨Q,2,none⟩ (.slice sf FL cf)).setCell ⟨Q,3,none⟩ (.slice sn NL cn):=⟨_,rfl⟩;rw[<- a6]at a8 H3 ⊢;clear a6;obtain⟨r0,r1,r2,r3⟩:=zF a8;clear e0 e1 e2 e3 q0 q1 q2 q3 f0 f1 f2 f3;refine bodyPost_ret (v:=.agg #[.int .i64 (k:Int),.int .i64 0,.slice sf FL cf,.slice sn NL cn]) (by simp[results,Try.results58,go_sem,r0,r1,r2,r3]) rfl ?_;have b4:w.grownBy wz none:=zB (zB (zB (zB d4.out d6.out (by simp)) d5.out (by simp)) b2.out (by simp)) H3 (fun k e=>by have h7:Q=k:=Oj e;omega);have b5:=(d7.out.grow b2.out).far H3 b3.out (by omega);refine⟨_,rfl,⟨o,hs,sf,cf,sn,cn,?_,by omega,by rw[<- b0.out];exact b5⟩,b4⟩;rw[<- b0.out,c6.out,c7.out,a1.out,a0.out]
theorem qAA (n:Nat)(h:n<=4096):∀ w:World,(Instr.makeSlice 39 (.int .i64 (n:Int)) (.int .i64 (n:Int))).run Try.prog w=.ok (.slice (some ⟨w.heap.size,0,none⟩) n n) (w.alloc (.cells (madeCells #[.bool false] n) 4)) :=
 fun w=>run_make_row' 39 4 (.bool false) 1 Try.underlying39 (by kernel_rfl) rfl .i64 .i64 n (by omega) (by omega) w
theorem jG (n:Nat):(madeCells #[.bool false] n).toList=bls (List.replicate n false):=by
 have:=pU (z:=.bool false) rfl n;rw[Nat.mul_one]at this;rw[show bls (List.replicate n false)=List.replicate n (.bool false) by simp[bls]];exact this
def lD:DfaV:=⟨0,0,[],[]⟩
theorem wG {x:Int}(h:-9223372036854775808<=x/\x<=9223372036854775807):IntKind.i64.wrap x=x:=by
 unfold IntKind.wrap;simp[IntKind.bits,IntKind.signed];omega
end Go.Proofs.Ytjfdomfendbhfaa
