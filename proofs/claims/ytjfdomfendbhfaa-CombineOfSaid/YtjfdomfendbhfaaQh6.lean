/- Part 6 of the proof. -/
import Derived.Test.YtjfdomfendbhfaaQh5
import Derived.Deep.OwnRows
set_option linter.unusedVariables false
set_option linter.unusedSimpArgs false
set_option maxRecDepth 100000
set_option maxHeartbeats 16000000
namespace Go.Proofs.Ytjfdomfendbhfaa
open Go.Maps Go.RowKit
def PMinOk (w:World)(m:DfaV)(e:Ending)(w':World):Prop:=∃v sv,e=.returned (.tuple #[v,sv])/\oE w w' v m/\w.grownBy w' none
def gK (d:DfaV)(p:List Nat)(k q x:Nat):List Nat:=(List.range x).map (fun a=>p.getD (nx d q a) 0)++List.replicate (k-x) 0
theorem mD {d:DfaV}{p:List Nat}{k q x:Nat}(h:x<=k):(gK d p k q x).length=k:=by simp[gK];omega
theorem mapTo_set {d:DfaV}{p:List Nat}{k q x:Nat}(h:x<k):(gK d p k q x).set x (p.getD (nx d q x) 0)=gK d p k q (x+1):=by
 unfold gK;rw[List.set_append_right _ _ (by simp),List.range_succ,List.map_append,show k-x=(k-(x+1))+1 by omega,List.replicate_succ];simp
theorem mapTo_full {d:DfaV}{n k q:Nat}{p:List Nat}(hd:VD d n k)(hq:q<n):nats (gK d p k q k)=ints (vQ p (d.next.getD q [])):=by
 have e:(gK d p k q k).map (fun(x:Nat)=>(x:Int))=vQ p (d.next.getD q []):=by
  refine List.ext_getElem (by rw[List.length_map,mD (Nat.le_refl k),vQ,List.length_map,hd.row q hq]) fun i h1 h2=>?_;have hi:i<k:=by rw[List.length_map,mD (Nat.le_refl k)]at h1;exact h1
  rw[<-zG (d:=0) h2,iB (by rw[hd.row q hq];exact hi)];simp[gK,hi,nx,entN,ent]
 rw[<-e];simp[nats,ints]
theorem pminimal_any (B:Nat)(w:World)(v:Value)(d:DfaV)(n k:Nat)(hB:B<=w.heap.size)(h:tE B w v d)(hd:VD d n k)(h5:n<=512):Calls Try.prog 85 #[v] w (PMinOk w (minD (xY d k) k)):=by
 have c8:=h;obtain⟨fb,fo,fc,b,off,cap,RB,RO,RC,rfl,z2⟩:=h.at hd;have E0:=hd.n1;have E1:=hd.k6;have E2:=hd.k1;have i2:=lW hd;have z7:=(xV hd).2;obtain⟨T,hT⟩:∃T,T=xY d k:=⟨_,rfl⟩;obtain⟨N,hN⟩:∃N,N=(zZ d k).length:=⟨_,rfl⟩;rw[<-hT,<-hN]at i2;rw[<-hN]at z7;rw[<-hT];have F2:=i2.n1;have H0:=Kh i2;have o2:=Kh hT;have B7:=Kh hN;obtain⟨p,hp⟩:∃p,p=yW T k:=⟨_,rfl⟩;have e9:p.length=N:=by rw[hp,wV,i2.hn]
 have q6:Norm p:=by rw[hp];exact sI T k
 have f5:minD T k=xY (tA T p) k:=by rw[hp];rfl
 have HP:=Kh hp;have c4:=Kh q6;have o7:=Kh f5;obtain⟨S,hS⟩:∃S,S=st0 d:=⟨_,rfl⟩;have p9:dAgg k (st0 d) fb fo fc b off cap n=.agg #[.int .i64 (k:Int),.int .i64 (S:Int),.slice (some ⟨fb,fo,none⟩) n fc,.slice (some ⟨b,off,none⟩) n cap]:=by rw[hS];rfl
 rw[p9]at c8⊢;obtain⟨b7,j6,j2,p6⟩:=sZ w #[.int .i64 (k:Int),.int .i64 (S:Int),.slice (some ⟨fb,fo,none⟩) n fc,.slice (some ⟨b,off,none⟩) n cap] #[.int .i64 0,.int .i64 0,.slice none 0 0,.slice none 0 0] 42;obtain⟨wA,m7⟩:∃wA,wA=(w.alloc (.cells #[.int .i64 (k:Int),.int .i64 (S:Int),.slice (some ⟨fb,fo,none⟩) n fc,.slice (some ⟨b,off,none⟩) n cap] 42)).alloc (.cells #[.int .i64 0,.int .i64 0,.slice none 0 0,.slice none 0 0] 42):=⟨_,rfl⟩;rw[<-m7]at b7 j6 j2 p6;obtain⟨c0,c1,c2,c3⟩:=zF b7;obtain⟨P,hP⟩:∃P,P=w.heap.size:=⟨_,rfl⟩;obtain⟨Q,hQ⟩:∃Q,Q=w.heap.size+1:=⟨_,rfl⟩;have B4:=Kh hP;have B2:Hid (Q=P+1):=Kh (by omega);have F1:P<Q:=by omega
 have E8:Q<wA.heap.size:=by omega
 have F0:w.heap.size<=P:=by omega
 have A3:B<=wA.heap.size:=by omega
 rw[<-hQ]at j6;rw[<-hP]at b7 c0 c1 c2 c3 hB;have t8:=Kh b7;have t7:=Kh j6;have C1:=Kh j2;have A6:=Kh m7;have i3:=Kh (qBL B wA _ d n k A3 (c8.kept j2 (by simp)) hd h5);clear b7 j6 j2 m7 z2 hd h c8 p9 hS p6 hP hQ hT hN hp q6 f5 i2;go_enter Try.func85,Try.ntmps85;go_upto_region 1 with fail;rw[<-A6.out,<-B4.out,<-B2.out];go_wp2_with fail;refine i3.out.mono ?_;rintro e w1 ⟨v1,G,rfl,⟨o,hs,sf,cf,sn,cn,rfl,ho,c9⟩,F5,s0,f7⟩;rw[<-o2.out]at c9⊢;have h6:T.letters=k:=H0.out.hk;have i1:T.start=0:=by rw[o2.out];rfl
 have m9:T.final.length=N:=H0.out.hn;have m8:T.next.length=N:=H0.out.nl
 have j4:tE w1.heap.size w1 (.agg #[.int .i64 (k:Int),.int .i64 0,.slice sf N cf,.slice sn N cn]) T:=by
  have:=c9.dfa;rw[h6,i1,m9,m8]at this;have e:(⟨(k:Int),0,T.final,T.next⟩:DfaV)=T:=by rw[<-h6,<-i1]
  rwa [e]at this
 rw[h6,i1,m9,m8];obtain⟨tfb,tfo,tfc,tb,toff,tcap,TRB,TRO,TRC,ev,a6⟩:=j4.at H0.out;have k8:(st0 T:Int)=0:=by rw[aJ H0.out];exact i1
 rw[dAgg,k8,Value.agg.injEq]at ev;have ev:=congrArg Array.toList ev;simp only[List.cons.injEq,Value.slice.injEq,true_and,and_true]at ev;obtain⟨⟨rfl,rfl⟩,rfl,rfl⟩:=ev;have x8:=a6.fcap;have x9:=a6.cap;unfold maxLen at x8 x9;have H7:Hid (∀W:World,w1.grownBy W none->DAt w1.heap.size W T N k tfb tfo cf tb toff cn TRB TRO TRC):=Kh (fun W hg=>a6.kept hg (by simp));clear a6
 obtain⟨zs,k0,k2⟩:∃zs:List Int,Arr w1 G 3 (ints zs)/\zs.length=n/\∀q,q<n->zs.getD q 0 = -1\/∃i:Nat,i<N/\zs.getD q 0=(i:Int):=⟨_,s0,vH _ _,fun q hq=>by
  rw[bK hq,rK]
  split
  ·rename_i hm
   exact .inr ⟨_,by rw[B7.out];exact List.idxOf_lt_length_of_mem hm,rfl⟩
  ·exact .inl rfl⟩
 have A4:=Kh k2.2;have D2:=k2.1;obtain⟨T4,n0⟩:∃T4,T4=w1.heap.size:=⟨_,rfl⟩;obtain⟨w2,k5⟩:∃w2,w2=w1.alloc (.cells #[.int .i64 (k:Int),.int .i64 0,.slice (some ⟨tfb,tfo,none⟩) N cf,.slice (some ⟨tb,toff,none⟩) N cn] 42):=⟨_,rfl⟩;have H8:=Ga w1 (.cells #[.int .i64 (k:Int),.int .i64 0,.slice (some ⟨tfb,tfo,none⟩) N cf,.slice (some ⟨tb,toff,none⟩) N cn] 42) none;have e7:=heap_alloc_new w1 (.cells #[.int .i64 (k:Int),.int .i64 0,.slice (some ⟨tfb,tfo,none⟩) N cf,.slice (some ⟨tb,toff,none⟩) N cn] 42);rw[<-k5]at H8 e7;rw[<-n0]at e7;have D5:=f7.size;have x1:=H8.size;have z4:=zK e7;have E9:Q<T4:=by omega
 obtain⟨d0,d1,d2,d3⟩:=zF e7;have e4:=Kh (zB (zB t8.out f7 (by simp)) H8 (by simp));have i7:=Kh (zB (zB t7.out f7 (by simp)) H8 (by simp));have t6:=Kh e7;have A8:=Kh k5;have A9:=Kh n0;have s1:=Kh (k0.kept H8 (by simp));have E5:=k0.lt;have s9:=Kh (j4.kept H8 (by simp));have C6:=Kh (zA (zA C1.out f7 (by simp)) H8 (by simp));have p0:=Kh H8;have t4:=Kh (pclasses_any w1.heap.size w2 _ T N k x1 (j4.kept H8 (by simp)) H0.out (by omega));clear c9 s0 h6 i1 m9 m8 j4 k0 k2 e7 k5 H8 f7 i3 t8 t7 c0 c1 c2 c3 n0;obtain⟨a0,a1,a2,a3⟩:=zF e4.out;go_upto_region 2 with fail;rw[<-A8.out,<-A9.out];go_wp2_with fail;refine t4.out.mono ?_;rintro e w3 ⟨G6,rfl,F6,h4,a4⟩;rw[<-HP.out]at h4⊢;rw[e9];have D4:=a4.size;have i9:=Kh (zB e4.out a4 (by simp));have p3:=Kh (zB i7.out a4 (by simp));have d9:=Kh (zB t6.out a4 (by simp));have n9:=Kh (s1.out.kept a4 (by simp));have C7:=Kh (s9.out.kept a4 (by simp));have C5:=Kh (zA C6.out a4 (by simp));have H6:=Kh (zA p0.out a4 (by simp));have p5:=Kh h4;have A2:=h4.lt;clear t4 h4 a4 d0 d1 d2 d3 a0 a1 a2 a3 e4 i7 t6 s1 s9;obtain⟨a0,a1,a2,a3⟩:=zF i9.out;obtain⟨oQ,l5⟩:∃oQ,oQ=w3.heap.size:=⟨_,rfl⟩;obtain⟨w5,k4⟩:∃w5,w5=w3.alloc (.cells #[.int .i64 (k:Int),.int .i64 0,.slice none 0 0,.slice none 0 0] 42):=⟨_,rfl⟩;have m0:=Ga w3 (.cells #[.int .i64 (k:Int),.int .i64 0,.slice none 0 0,.slice none 0 0] 42) none;have g0:=heap_alloc_new w3 (.cells #[.int .i64 (k:Int),.int .i64 0,.slice none 0 0,.slice none 0 0] 42);rw[<-k4]at m0 g0;rw[<-l5]at g0;have A7:=Kh k4;have B5:=Kh l5;have b3:Hid (BX w3 w5 oQ (fun _=>False) k (tH T p 0) (sP T p 0) [] none 0 none 0):=Kh (BX.start g0 (by omega) m0);have y2:=zK g0;clear k4 l5 m0 g0;go_upto_region 4 with fail;rw[<-A7.out,<-B5.out];go_wp2_with fail
 go_loopg [8,9,10,11,12,30] N (fun gh a8 a9 a10 a11 a12 i wr=>∃(q:Nat) (X:Nat->Prop) (hs:List Value) (sf:Option Addr) (cf:Nat) (sn:Option Addr) (cn:Nat),gh+q=N/\i=.int .i64 q/\BX w3 wr oQ X k (tH T p q) (sP T p q) hs sf cf sn cn)
 case atStart=>exact⟨0,_,_,_,_,_,_,rfl,rfl,b3.out⟩
 case round =>
  clear b3;obtain⟨q,X,hs,sf,cf,sn,cn,H9,rfl,e6⟩:=hrel;have e8:=Kh H9;have b3:=Kh e6;have h9:=e6.grown;have d7:=Kh h9;obtain⟨d0,d1,d2,d3⟩:=zF e6.box;obtain⟨t0,t1,t2,t3⟩:=zF (zB d9.out h9 (by simp));obtain⟨a0,a1,a2,a3⟩:=zF (zB i9.out h9 (by simp));by_cases hq:q<N
  ·have D8:(q:Int)<N:=by omega
   have cq:=(p5.out.kept h9 (by simp)).nat q (by omega);obtain⟨f4,l6,y6⟩:=jD c4.out (q:=q) (by omega);have a7:=bC (d:=T) c4.out (show q<=p.length by omega);have h6:=bB (d:=T) c4.out (show q<=p.length by omega);obtain⟨M,hM⟩:∃M,M=cls (p.take q):=⟨_,rfl⟩;obtain⟨c,hc⟩:∃c,c=p.getD q 0:=⟨_,rfl⟩;have F3:M<=q:=by rw[hM];have:=gC (p.take q);rw[List.length_take]at this;omega
   rw[<-hM]at a7 h6 f4 l6;rw[<-hc]at cq f4 l6;have HM:=Kh hM;have HC:=Kh hc;have j9:=Kh a7;have o1:=Kh h6;rw[a7]at d2;rw[h6]at d3;clear H9 e6 h9 l6 y6 hM hc a7 h6;by_cases m4:c<M
   ·have f9:(c:Int)<M:=by omega
    have e1:Hid (tH T p (q+1)=tH T p q/\sP T p (q+1)=sP T p q):=Kh (by
     have:p.getD q 0≠cls (p.take q):=by rw[<-HC.out,<-HM.out];omega
     exact⟨quotFs_old this,quotTs_old this⟩)
    go_wp2;go_roundg (N-(q+1))
    case measure=>have:=e8.out;omega
    case rel=>exact⟨q+1,X,hs,sf,cf,sn,cn,by have:=e8.out;omega,by go_num,by rw[e1.out.1,e1.out.2];exact b3.out⟩
   ·have z0:c=M:=by omega
    have f9:¬(c:Int)<M:=by omega
    have e1:Hid (tH T p (q+1)=tH T p q++[T.final.getD q false]/\sP T p (q+1)=sP T p q++[vQ p (T.next.getD q [])]):=Kh (by
     have:p.getD q 0=cls (p.take q):=by rw[<-HC.out,<-HM.out];exact z0
     exact⟨quotFs_new this,quotTs_new this⟩)
    have i0:=H7.out wr (zA H6.out d7.out (by simp));have H1:=i0.rcap q hq;have l1:=H1.1;have l0:TRC q<=9223372036854775807:=by have:=H1.2;unfold maxLen at this;omega
    obtain⟨rb,l3⟩:∃rb,rb=TRB q:=⟨_,rfl⟩;obtain⟨ro,k9⟩:∃ro,ro=TRO q:=⟨_,rfl⟩;obtain⟨rc,l2⟩:∃rc,rc=TRC q:=⟨_,rfl⟩;have s6:Hid (∀W:World,w3.grownBy W none->W.cell? ⟨tb,toff+q,none⟩=some (.slice (some ⟨rb,ro,none⟩) k rc)):=Kh (fun W hg=>by rw[l3,k9,l2];exact(H7.out W (zA H6.out hg (by simp))).hd q hq);have s8:Hid (∀W:World,w3.grownBy W none->∀a,a<k->W.cell? ⟨rb,ro+a,none⟩=some (.int .i64 ((nx T q a:Nat):Int))):=Kh (fun W hg a ha=>by rw[l3,k9];exact(H7.out W (zA H6.out hg (by simp))).el q a hq ha);have i5:Hid (∀W:World,w3.grownBy W none->W.cell? ⟨tfb,tfo+q,none⟩=some (.bool (T.final.getD q false))):=Kh (fun W hg=>(H7.out W (zA H6.out hg (by simp))).fin hq);rw[<-l2]at l1 l0;clear i0 H1 l3 k9 l2;go_wp2_with (first|(at_make;refine kC rfl _ _ _ rfl yP rfl .i64 .i64 _ _ k rfl rfl rfl rfl ?b1 ?b2 ?_;(case b1=>omega);(case b2=>(unfold maxLen;omega));intro w7 h0 e5 l8;(obtain⟨u0,u1,u2,u3⟩:=zF (zB (zB d9.out d7.out (by simp)) e5 (by simp)));(have chd:=s6.out _ (zA d7.out e5 (by simp))))|fail);obtain⟨g,hg⟩:∃g,g=wr.heap.size:=⟨_,rfl⟩;rw[<-hg]at h0 l8⊢
    have p4:Hid (Arr w7 g 3 (nats (gK T p k q 0))):=Kh (by
     rw[show gK T p k q 0=List.replicate k 0 by simp[gK],xI];exact h0)
    have i6:=Kh (b3.out.grow e5);have q8:∀j,X j->j<g:=fun j hj=>by have:=b3.out.lt j hj;omega
    have B8:=Kh q8;have E7:oQ<g:=(by have:=zK b3.out.box;omega);have m1:w3.heap.size<=g:=by have:=d7.out.size;omega
    have C2:=Kh (zA d7.out e5 (by simp));have F7:=Kh e5.size;have E6:wr.heap.size<=g:=by omega
    clear h0 e5 q8 hg d0 d1 d2 d3 t0 t1 t2 t3 a0 a1 a2 a3 u0 u1 u2 u3 chd cq
    go_loopg [11,12,49] k (fun gh a11 a12 i wr=>∃x:Nat,gh+x=k/\i=.int .i64 x/\Arr wr g 3 (nats (gK T p k q x))/\w7.grownBy wr (some g))
    case atStart=>exact⟨0,rfl,rfl,p4.out,zH _ _⟩
    case round =>
     obtain⟨x,H9,rfl,h0,h9⟩:=hrel;have d8:=Kh H9;have HA:=Kh h0;have o9:=Kh h9;have h3:=zA C2.out h9 (fun k e=>by have e:g=k:=Oj e;omega);have C4:=Kh h3;clear H9;by_cases hx:x<k
     ·have D7:(x:Int)<k:=by omega
      have cel:=s8.out wr h3 x hx;have x4:=mA H0.out hq hx;obtain⟨y,hy⟩:∃y,y=nx T q x:=⟨_,rfl⟩;rw[<-hy]at cel x4;have x3:(y:Int)<N:=(by omega);have cy:=(p5.out.kept h3 (by simp)).nat y (by omega);have c6:=mapTo_set (d:=T) (p:=p) (q:=q) hx;rw[<-hy]at c6;have o4:=Kh c6;have s5:=Kh (mD (d:=T) (p:=p) (q:=q) (k:=k) (x:=x) (by omega));have ck:=h0.nat x (by rw[s5.out];exact hx);have fk:=h0.frozen x;obtain⟨z,hz⟩:∃z,z=p.getD y 0:=⟨_,rfl⟩;rw[<-hz]at cy;have HZ:=Kh hz;clear c6 hz hy h0 h9 h3;go_wp2;go_roundg (k-(x+1))
      case measure=>have:=d8.out;omega
      case rel=>exact⟨x+1,by have:=d8.out;omega,by go_num,by rw[<-o4.out,<-HZ.out];exact HA.out.nat_set x (by rw[s5.out];exact hx) z,zD o9.out (zC wr ⟨g,x,none⟩ _)⟩
     ·have x5:x=k:=by have:=d8.out;omega
      subst x5;obtain⟨cur,rest,f8,_⟩:=p4.out;have z3:¬X g:=fun hx=>by have:=B8.out g hx;omega
      have H3:=i6.out.put h9 f8 z3 m1;have p2:=Kh H3;have t9:Hid (Arr wr g 3 (ints (vQ p (T.next.getD q [])))):=Kh (by rw[<-mapTo_full H0.out hq];exact h0);obtain⟨d0,d1,d2,d3⟩:=zF H3.box;have fz2:=zE H3.box 2;have d5:=zB d9.out h3 (by simp);obtain⟨t0,t1,t2,t3⟩:=zF d5;have cfin:=i5.out wr h3;have z5:=zK d5;have y3:=zK H3.box
      have x7:tfb<wr.heap.size:=by
       have:=(H7.out wr (zA H6.out h3 (by simp))).frow.1;exact this
      rw[j9.out]at d2;rw[o1.out]at d3;obtain⟨bf,m5⟩:∃bf,bf=T.final.getD q false:=⟨_,rfl⟩;rw[<-m5]at cfin;have C9:=Kh m5;have o5:Hid (∀W1:World,wr.grownBy W1 none->W1.ownsRow oQ 4 1 (.slice sf M cf) M (bls (tH T p q))/\oQ<=W1.heap.size):=Kh (fun W1 hg=>⟨by have:=zP p2.out.ownF hg;rwa [j9.out]at this,by have:=hg.size;omega⟩)
      have b9:Hid (∀(W1 w':World) (sf':Option Addr) (cf':Nat),w'.ownsRow oQ 4 1 (.slice sf' (M+1) cf') (M+1) (bls (tH T p q)++[.bool bf])->W1.grownBy w' (Value.slice sf M cf).ownBlock->wr.grownBy W1 none ->
        BX w3 (w'.setCell ⟨oQ,2,none⟩ (.slice sf' (M+1) cf')) oQ X x (tH T p q++[bf]) (sP T p q) hs sf' cf' sn cn/\Arr (w'.setCell ⟨oQ,2,none⟩ (.slice sf' (M+1) cf')) g 3 (ints (vQ p (T.next.getD q [])))/\w'.frozen? ⟨oQ,2,none⟩=false/\w'.cell? ⟨oQ,2,none⟩=some (.slice sf M cf)):=Kh (fun W1 w' sf' cf' ho hg h1=>by
       have n2:=p2.out.grow h1;have n8:=n2.ownF;have m6:=n2.box;rw[j9.out]at n8 m6;have b7:=zB m6 hg (zQ n8 m6 (by decide));have hp:=n2.pushF (b:=bf) j9.out ho hg rfl;have r6:=t9.out.kept h1 (by simp);obtain⟨cg,rg,y9,_⟩:=id r6
       exact⟨hp,(r6.kept hg (zQ n8 y9 (by decide))).kept (zC w' ⟨oQ,2,none⟩ _) (fun e=>by have e:oQ=g:=Oj e;omega),zE b7 2,(zF b7).2.2.1⟩)
      obtain⟨wo,rfl⟩:∃wo:World,wo=wr:=⟨_,rfl⟩;clear f8 H3 h0 h9 h3 d5 m5 p4;go_wp2_with fail
      go_region_law (first|(refine pT ?g1 (.tmp 63) (.tmp 69) 39 ?g2 xJ oQ (.slice sf M cf) M (bls (tH T p q)) ?g3 ?g4 (.bool bf) wo.heap.size (0,0) ?g5 ?g6 ?g7 ?g8 ?g9 ?g10 ?_;(case g1=>rfl);(case g2=>rfl);(case g3=>rfl);(case g4=>(refine(o5.out _ ?_).1;exact vC (o:=.cells #[.bool bf] 4) rfl rfl rfl rfl));(case g5=>rfl);(case g6=>exact heap_alloc_new (wo.drew) _);(case g7=>rfl);(case g8=>(unfold maxLen;omega));(case g9=>omega);(case g10=>(refine(o5.out _ ?_).2;exact vC (o:=.cells #[.bool bf] 4) rfl rfl rfl rfl));intro sf8 cf8 w8 b4 q9;have j0:=b9.out _ _ _ _ b4 q9 (vC (o:=.cells #[.bool bf] 4) rfl rfl rfl rfl);have m2:=j0.2.2.1;have m3:=j0.2.2.2;have j8:=Kh j0;clear j0 b4 q9)|fail)
      all_goals
       clear b9 o5 m2 m3 d0 d1 d2 d3 fz2 t0 t1 t2 t3 cfin p2 t9 i6 b3 s6 s8 i5;obtain⟨w9,p8⟩:∃W9,W9=w8.setCell ⟨oQ,2,none⟩ (.slice sf8 (M+1) cf8):=⟨_,rfl⟩;rw[<-p8]at j8⊢;have H4:=j8.out.1;have x0:=Kh j8.out.2.1;have j7:=Kh H4;have n6:=H4.ownN;obtain⟨d0,d1,d2,d3⟩:=zF H4.box;rw[o1.out]at d3 n6;have s4:=Kh n6;have y1:=zK H4.box;clear p8 j8 H4 n6;go_wp2_with (first|(at_builtin;refine qCZ rfl _ _ _ rfl vU oQ (.slice sn M cn) M hs rfl s4.out (.slice (some ⟨g,0,none⟩) x x) rfl rfl ?a1 ?a2 ?a3 ?_;(case a1=>(unfold maxLen;omega));(case a2=>omega);(case a3=>omega);intro sn6 cn6 w10 b5 l9 D3 l7;(have B6:=Kh b5);(have C3:=Kh l9);(have r5:=zB j7.out.box l9 (zQ s4.out j7.out.box (by decide)));(obtain⟨e0,e1',e2,e3⟩:=zF r5);(have fz6:=zE r5 3);clear b5 l9 l7)|fail);go_roundg (N-(q+1))
       case measure=>have:=e8.out;omega
       case rel =>
        have hp:=j7.out.pushN (Y:=fun j=>X j\/j=g) o1.out (fun j hj=>.inl hj) (fun j hj=>by
         rcases hj with hj|rfl
         ·exact j7.out.lt j hj
         ·exact x0.out.lt) B6.out C3.out (RowX.of_arr x0.out (by rw[yE,vQ,List.length_map,H0.out.row q hq]) (by unfold maxLen;omega) (.inr rfl)) rfl
        rw[C9.out,<-e1.out.1,<-e1.out.2]at hp;exact⟨q+1,_,_,_,_,_,_,by have:=e8.out;omega,by go_num,hp⟩
  ·have l4:q=N:=by have:=e8.out;omega
   have a7:(tH T p q).length=cls p:=by rw[bC c4.out (by omega),l4,<-e9,List.take_length]
   have h6:(sP T p q).length=cls p:=by rw[bB c4.out (by omega),l4,<-e9,List.take_length]
   have q5:(⟨(k:Int),0,tH T p q,sP T p q⟩:DfaV)=tA T p:=by
    have:=quot_full (d:=T) (p:=p) (q:=q) (by omega) (by
     have e:st0 T=0:=by rw[o2.out];rfl
     rw[e];exact norm_zero c4.out)
    rw[<-this,H0.out.hk]
   have j3:=(e6.built (a7.trans h6.symm)).dfa;rw[q5,a7,h6]at j3;obtain⟨M,hM⟩:∃M,M=cls p:=⟨_,rfl⟩;have F4:M<=N:=by rw[hM,<-e9];exact gC p
   have q4:VD (tA T p) M k:=(by rw[hM];exact qDG H0.out e9 c4.out);rw[<-hM]at j3;rw[a7,<-hM]at d2;rw[h6,<-hM]at d3;have B3:Hid (∀i,i<N->p.getD i 0<M):=Kh (fun i hi=>by rw[hM];exact qF c4.out (by omega));have i3:=Kh (qBL wr.heap.size wr _ (tA T p) M k (Nat.le_refl _) j3 q4 (by omega));have C0:Hid (w.grownBy wr none):=Kh (zA C5.out h9 (by simp));clear H9 e6 a7 h6 q5 j3 q4 hM l4 e8 t0 t1 t2 t3 a0 a1 a2 a3;go_wp2_with fail;refine i3.out.mono ?_;rintro e wt ⟨vt,Gt,rfl,⟨ot,y0,sft,cft,snt,cnt,rfl,D9,j5⟩,z8,b8,j1⟩;rw[<-o7.out]at j5⊢;obtain⟨R,hR⟩:∃R,R=minD T k:=⟨_,rfl⟩;rw[<-hR]at j5⊢;have n4:R.letters=k:=by rw[hR];exact(eK H0.out).hk
   have n3:R.start=0:=by rw[hR];rfl
   obtain⟨FL,n7⟩:∃FL,FL=R.final.length:=⟨_,rfl⟩;obtain⟨NL,n5⟩:∃NL,NL=R.next.length:=⟨_,rfl⟩;rw[n4,n3,<-n7,<-n5];obtain⟨ys,k3,D6⟩:∃ys:List Int,Arr wt Gt 3 (ints ys)/\ys.length=M:=⟨_,b8,vH _ _⟩;have s3:=Kh hR;have B1:=Kh n4;have B0:=Kh n3;have p1:=Kh n7;have o6:=Kh n5;have C8:=Kh j5;have A5:=Kh k3;have B9:=Kh (zA C0.out j1 (by simp));have o8:=Kh (zA d7.out j1 (by simp));obtain⟨T13,d6⟩:∃T13,T13=wt.heap.size:=⟨_,rfl⟩;obtain⟨w13,c5⟩:∃w13,w13=wt.alloc (.cells #[.int .i64 (k:Int),.int .i64 0,.slice sft FL cft,.slice snt NL cnt] 42):=⟨_,rfl⟩;have a5:=Ga wt (.cells #[.int .i64 (k:Int),.int .i64 0,.slice sft FL cft,.slice snt NL cnt] 42) none;have H5:=heap_alloc_new wt (.cells #[.int .i64 (k:Int),.int .i64 0,.slice sft FL cft,.slice snt NL cnt] 42);rw[<-c5]at a5 H5;rw[<-d6]at H5;have D1:=d7.out.size;have D0:=j1.size;have x2:=a5.size;have r7:=zK H5;have y7:=k3.lt;have i8:=Kh H5;have o0:=Kh c5;have o3:=Kh d6;have h8:=Kh a5;have z6:Q<T13:=(by omega);have r8:w3.heap.size<=T13:=by omega
   clear hR n4 n3 n7 n5 j5 b8 k3 j1 H5 c5 d6 a5 d0 d1 d2 d3 b3 i3;go_upto_region 18 with fail;rw[<-o0.out,<-o3.out];go_wp2_with (first|(at_make;refine kC rfl _ _ _ rfl yP rfl .i64 .i64 _ _ n rfl rfl rfl rfl ?b1 ?b2 ?_;(case b1=>omega);(case b2=>(unfold maxLen;omega));intro ws h0 q7 f6)|fail);obtain⟨Gs,r9⟩:∃Gs,Gs=w13.heap.size:=⟨_,rfl⟩;rw[<-r9]at h0 f6⊢;have s2:Hid (Arr ws Gs 3 (ints (List.replicate n 0))):=Kh (by simpa [pN] using h0);have A1:T13<Gs:=(by omega);have z9:Gt<Gs:=(by omega);have s7:=Kh q7;have A0:w13.heap.size<=Gs:=by omega
   clear h0 q7 r9 f6
   go_loopg [16,17,89] n (fun gh a16 a17 i wr=>∃(j:Nat) (vs:List Int),gh+j=n/\i=.int .i64 j/\vs.length=n/\Arr wr Gs 3 (ints vs)/\w13.grownBy wr none)
   case atStart=>exact⟨0,_,rfl,rfl,by simp,s2.out,s7.out⟩
   case round =>
    clear s2 s7;obtain⟨j,vs,H9,rfl,k7,h0,h2⟩:=hrel;have b0:=Kh H9;have HA:=Kh h0;have i4:=Kh h2;have H2:=zA (zA o8.out h8.out (by simp)) h2 (by simp);clear H9;by_cases hj:j<n
    ·have E3:(j:Int)<n:=by omega
     have cz:=(n9.out.kept H2 (by simp)).int j (by omega);have cs:=h0.int j (by omega);have fs:=h0.frozen j;have b6:=A4.out j hj;obtain⟨z,hz⟩:∃z,z=zs.getD j 0:=⟨_,rfl⟩;rw[<-hz]at cz b6;have x6:(ints vs).length=n:=by rw[yE,k7]
     rcases b6 with rfl|⟨i,hi,rfl⟩
     ·clear hz h0 h2 H2
      go_wp2;go_roundg (n-(j+1))
      case measure=>have:=b0.out;omega
      case rel=>exact⟨j+1,vs.set j (-1),by have:=b0.out;omega,by go_num,by rw[List.length_set,k7],HA.out.int_set j (by omega) (-1),zA i4.out (zC wr ⟨Gs,j,none⟩ _) (fun k e=>by have e:Gs=k:=Oj e;omega)⟩
     ·have E4:(i:Int)<N:=by omega
      have cp:=(p5.out.kept H2 (by simp)).nat i (by omega);have m4:=B3.out i hi;obtain⟨c,hc⟩:∃c,c=p.getD i 0:=⟨_,rfl⟩;rw[<-hc]at cp m4;have f9:(c:Int)<M:=(by omega);have cy:=((A5.out.kept h8.out (by simp)).kept h2 (by simp)).int c (by omega);obtain⟨y,hy⟩:∃y,y=ys.getD c 0:=⟨_,rfl⟩;rw[<-hy]at cy;have F8:=Kh (And.intro hi m4);clear hz hc hy h0 h2 H2;have y5:G6≠Gs:=(by omega);have y4:Gt≠Gs:=(by omega);go_wp2;go_roundg (n-(j+1))
      case measure=>have:=b0.out;omega
      case rel=>exact⟨j+1,(vs.set j (-1)).set j y,by have:=b0.out;omega,by go_num,by rw[List.length_set,List.length_set,k7],(HA.out.int_set j (by omega) (-1)).int_set j (by rw[List.length_set];omega) y,zA (zA i4.out (zC wr ⟨Gs,j,none⟩ _) (fun k e=>by have e:Gs=k:=Oj e;omega)) (zC (wr.setCell ⟨Gs,j,none⟩ (.int .i64 (-1))) ⟨Gs,j,none⟩ _) (fun k e=>by have e:Gs=k:=Oj e;omega)⟩
    ·obtain⟨e0,e1,e2,e3⟩:=zF (zB i8.out h2 (by simp))
     have d4:=zB p3.out H2 (by simp);obtain⟨q0,q1,q2,q3⟩:=zF d4;have f0:=zE d4 0;have f1:=zE d4 1;have f2:=zE d4 2;have f3:=zE d4 3;have t5:=Kh d4;clear d4;go_wp2;obtain⟨r4,c7⟩:=wF t5.out (.int .i64 (k:Int)) (.int .i64 0) (.slice sft FL cft) (.slice snt NL cnt);obtain⟨wz,p7⟩:∃wz,wz=(((wr.setCell ⟨Q,0,none⟩ (.int .i64 (k:Int))).setCell ⟨Q,1,none⟩ (.int .i64 0)).setCell ⟨Q,2,none⟩ (.slice sft FL cft)).setCell ⟨Q,3,none⟩ (.slice snt NL cnt):=⟨_,rfl⟩;rw[<-p7]at r4 c7⊢;clear p7;obtain⟨r0,r1,r2,r3⟩:=zF r4;clear e0 e1 e2 e3 q0 q1 q2 q3 f0 f1 f2 f3;refine bodyPost_ret (v:=.tuple #[.agg #[.int .i64 (k:Int),.int .i64 0,.slice sft FL cft,.slice snt NL cnt],.slice (some ⟨Gs,0,none⟩) n n]) (by simp[results,Try.results85,go_sem,r0,r1,r2,r3]) rfl ?_;have y8:w.grownBy wz none:=zA (zA (zA B9.out h8.out (by simp)) h2 (by simp)) c7 (fun k e=>by have h7:Q=k:=Oj e;omega);have z1:=((C8.out.grow h8.out).grow h2).far c7 t5.out (by omega);refine⟨_,_,rfl,⟨ot,y0,sft,cft,snt,cnt,?_,by omega,by rw[<-s3.out];exact z1⟩,y8⟩;rw[<-s3.out,B0.out,B1.out,p1.out,o6.out]
end Go.Proofs.Ytjfdomfendbhfaa
namespace Go.Proofs.Ytjfdomfendbhfaa
open Go.RowKit
def gJ (d:DfaV)(p:List Nat)(i:Nat):List Bool:=(tG p i).map fun q=>d.final.getD q false
def gI (d:DfaV)(p:List Nat)(i:Nat):List (List Int):=(tG p i).map fun q=>vQ p (d.next.getD q [])
theorem minFs_new {d:DfaV}{p:List Nat}{i:Nat}(h:p.getD i 0=cls (p.take i)):gJ d p (i+1)=gJ d p i++[d.final.getD i false]:=by simp only[gJ,vX h,List.map_append,List.map_cons,List.map_nil]
theorem minTs_new {d:DfaV}{p:List Nat}{i:Nat}(h:p.getD i 0=cls (p.take i)):gI d p (i+1)=gI d p i++[vQ p (d.next.getD i [])]:=by simp only[gI,vX h,List.map_append,List.map_cons,List.map_nil]
theorem minFs_old {d:DfaV}{p:List Nat}{i:Nat}(h:p.getD i 0≠cls (p.take i)):gJ d p (i+1)=gJ d p i:=by simp only[gJ,vW h]
theorem minTs_old {d:DfaV}{p:List Nat}{i:Nat}(h:p.getD i 0≠cls (p.take i)):gI d p (i+1)=gI d p i:=by simp only[gI,vW h]
theorem jE {d:DfaV}{n k:Nat}(hd:VD d n k){p:List Nat}{q:Nat}(hq:q<n):(vQ p (d.next.getD q [])).length=k:=by rw[vQ,List.length_map,hd.row q hq]
theorem mapRow_at {d:DfaV}{n k:Nat}(hd:VD d n k){p:List Nat}{q a:Nat}(hq:q<n)(ha:a<k):(vQ p (d.next.getD q [])).getD a 0=((p.getD (nx d q a) 0:Nat):Int):=by
 rw[iB (by rw[hd.row q hq];exact ha)];rfl
def qDT (w:World)(m:DfaV)(e:Ending)(w':World):Prop:=∃v,e=.returned v/\oE w w' v m/\w.grownBy w' none
theorem kB (B:Nat)(w:World)(v:Value)(d:DfaV)(n k:Nat)(hB:B<=w.heap.size)(h:tE B w v d)(hd:VD d n k):Calls Try.prog 54 #[v] w (qDT w (minD d k)):=by
 have b7:=h;obtain⟨fb,fo,fc,b,off,cap,RB,RO,RC,rfl,d5⟩:=h.at hd;have hn:=hd.hn;have p1:=hd.n1;have j4:=hd.nbig;have p4:=hd.k6;have p5:=hd.k1;have p9:=d5.fcap.1;have e6:=d5.fcap.2;have q0:=d5.cap.1;have e7:=d5.cap.2;have m1:fc<=9223372036854775807:=by unfold maxLen at e6;omega
 have m0:cap<=9223372036854775807:=by unfold maxLen at e7;omega
 obtain⟨S,hS⟩:∃S,S=st0 d:=⟨_,rfl⟩;have m8:S<n:=by rw[hS];exact pU hd
 have n5:=Kh hS;have j1:dAgg k (st0 d) fb fo fc b off cap n=.agg #[.int .i64 (k:Int),.int .i64 (S:Int),.slice (some ⟨fb,fo,none⟩) n fc,.slice (some ⟨b,off,none⟩) n cap]:=by rw[hS];rfl
 rw[j1]at b7⊢;obtain⟨e9,g2,e4,j0⟩:=sZ w #[.int .i64 (k:Int),.int .i64 (S:Int),.slice (some ⟨fb,fo,none⟩) n fc,.slice (some ⟨b,off,none⟩) n cap] #[.int .i64 0,.int .i64 0,.slice none 0 0,.slice none 0 0] 42;obtain⟨wA,i3⟩:∃wA,wA=(w.alloc (.cells #[.int .i64 (k:Int),.int .i64 (S:Int),.slice (some ⟨fb,fo,none⟩) n fc,.slice (some ⟨b,off,none⟩) n cap] 42)).alloc (.cells #[.int .i64 0,.int .i64 0,.slice none 0 0,.slice none 0 0] 42):=⟨_,rfl⟩;rw[<-i3]at e9 g2 e4 j0;obtain⟨c0,c1,c2,c3⟩:=zF e9;obtain⟨P,hP⟩:∃P,P=w.heap.size:=⟨_,rfl⟩;have g6:=Kh hP;rw[<-hP]at e9 g2 c0 c1 c2 c3 j0 hB;have i8:=Kh e9;have o3:=Kh g2;have o0:=Kh e4;have n2:=Kh i3;have o4:=Kh (d5.kept e4 (by simp));have HN:=Kh hn;have HD:=Kh hd;have l5:=Kh (classes_any B wA _ d n k (by omega) (b7.kept e4 (by simp)) hd);clear e9 g2 e4 i3 d5 hn hd h b7 j1 e6 e7 hS;go_enter Try.func54,Try.ntmps54;go_upto_region 1 with fail;rw[<-n2.out,<-g6.out];clear hP;go_wp2_with fail;refine l5.out.mono ?_;rintro e w1 ⟨G,rfl,m5,H2,g0⟩;have c9:(yW d k).length=n:=by rw[wV,HN.out]
 have f8:=sI d k;obtain⟨p,hp⟩:∃p,p=yW d k:=⟨_,rfl⟩;have HP:=Kh hp;rw[<-hp]at H2 c9 f8⊢;rw[c9];have b4:=mB f8;rw[c9]at b4;have l3:=Kh H2;have f4:=Kh g0;have g5:=Kh f8;have c5:=Kh c9;have n8:=Kh b4;have o6:=g0.size;have p7:=H2.1;obtain⟨d0,d1,d2,d3⟩:=zF (zB i8.out g0 (by simp));have cp:=H2.nat S (by rw[c9];exact m8);rw[Nat.zero_add]at cp;obtain⟨ps,g9⟩:∃ps,ps=p.getD S 0:=⟨_,rfl⟩;have n7:=Kh g9;rw[<-g9]at cp;have m7:(S:Int)<n:=by omega
 have j6:=World.new_ne w1 _ d0;have e0:=World.new_ne w1 _ d1;have j5:=World.new_ne w1 _ cp;have i0:=World.block_lt_of_cell? w1 _ d0;simp only at j6 e0 j5 i0;have m9:P<w1.heap.size:=i0;clear hp H2 g0 c9 f8 b4 l5 c0 c1 c2 c3 d2 d3 g9;go_upto_region 2 with fail
 go_region_held3 (fun w'=>w'.cell? ⟨P,0,none⟩=some (.int .i64 (k:Int))/\w'.cell? ⟨P,1,none⟩=some (.int .i64 (S:Int))/\w'.cell? ⟨G,S,none⟩=some (.int .i64 (ps:Int))) (first|go_keep|fail) (fail)
 obtain⟨w4,rfl⟩:∃w4:World,w4=w1:=⟨_,rfl⟩;obtain⟨O,hO⟩:∃O,O=w4.heap.size:=⟨_,rfl⟩;obtain⟨w6,f7⟩:∃w6,w6=(w4.alloc (.cells #[.int .i64 (k:Int),.int .i64 (ps:Int),.slice none 0 0,.slice none 0 0] 42)).drew:=⟨_,rfl⟩;rw[<-f7,<-hO];have b6:w4.grownBy w6 none:=by rw[f7];exact zD (Ga w4 _ none) (zO _ _)
 have k5:w6.heap[O]?=some (.cells #[.int .i64 (k:Int),.int .i64 (ps:Int),.slice none 0 0,.slice none 0 0] 42 (0,0)):=by rw[f7,hO];exact heap_alloc_new w4 _
 have l2:Built O w6 O k ps [] [] [] none 0 none 0:=⟨k5,World.ownsRow_nil _ _ _ _,World.ownsRow_nil _ _ _ _,wK.nil,rfl⟩;have l6:=Kh l2;have f3:=Kh b6;have f0:=Kh hO;have q4:G<O:=by omega
 have q2:P+1<O:=by omega
 have l7:=b6.size;clear k5 l2 b6 f7 hO j6 e0 j5 i0 m9 d0 d1 cp;go_wp2
 go_loopg [5,6,7,23] n (fun gh v5 a6 a7 i wr=>∃(i':Nat) (hs:List Value) (sf:Option Addr) (cf:Nat) (sn:Option Addr) (cn:Nat),gh+i'=n/\i=.int .i64 i'/\v5=.int .i64 (cls (p.take i'):Nat)/\Built O wr O k ps (gJ d p i') (gI d p i') hs sf cf sn cn/\w4.grownBy wr (some O))
 case atStart=>exact⟨0,[],none,0,none,0,rfl,rfl,rfl,l6.out,xM f3.out⟩
 case round =>
  clear l6 f3;obtain⟨i,hs,sf,cf,sn,cn,hg,rfl,rfl,h7,h4⟩:=hrel;have f2:=Kh hg;have a1:=Kh h7;have f1:=Kh h4;have o5:=h4.size;clear hg;by_cases hi:i<n
  ·have p6:(i:Int)<n:=by omega
   have b8:O≠P:=(by omega);have l0:O≠G:=(by omega);have k3:=(l3.out.kept h4 (fun e=>l0 (Oj e))).nat i (by rw[c5.out];exact hi);rw[Nat.zero_add]at k3;obtain⟨H7,H4,H3⟩:=jD g5.out (q:=i) (by rw[c5.out];exact hi);have k2:=gC (p.take i);rw[List.length_take]at k2;obtain⟨c,hc⟩:∃c,c=cls (p.take i):=⟨_,rfl⟩;rw[<-hc]at H7 H4 H3 k2⊢;obtain⟨x,hx⟩:∃x,x=p.getD i 0:=⟨_,rfl⟩;rw[<-hx]at k3 H7 H4 H3;by_cases hxc:x=c
   ·have c7:=Kh (minFs_new (d:=d) (hx.symm.trans (hxc.trans hc)));have d6:=Kh (minTs_new (d:=d) (hx.symm.trans (hxc.trans hc)))
    have f5:Hid (cls (p.take (i+1))=c+1):=Kh (H4 hxc);have e1:((x:Int) != (c:Int))=false:=by rw[hxc];simp
    have d4:(gJ d p i).length=c:=by simp only[gJ,List.length_map];rw[uE g5.out i (by rw[c5.out];omega),hc]
    have b3:(gI d p i).length=c:=by simp only[gI,List.length_map];rw[uE g5.out i (by rw[c5.out];omega),hc]
    have hA:=(o4.out.kept f4.out (by simp)).kept h4 (fun k e=>by have:=Oj e;omega);have ch:=hA.hd i hi;obtain⟨d0,d1,d2,d3⟩:=zF (zB (zB i8.out f4.out (by simp)) h4 (fun e=>b8 (Oj e)));obtain⟨wo,rfl⟩:∃wo:World,wo=wr:=⟨_,rfl⟩;have i9:=Kh hA;clear hA h7 h4 H7 H4 H3 hx hxc hc;go_wp2
    go_loopg [8,39] k (fun gh ov i' wr=>∃(a:Nat) (sr:Option Addr) (cr:Nat),gh+a=k/\i'=.int .i64 a/\ov=.slice sr a cr/\wr.ownsRow wo.heap.size 3 1 (.slice sr a cr) a (ints ((vQ p (d.next.getD i [])).take a))/\wo.grownBy wr none)
    case atStart=>exact⟨0,none,0,rfl,rfl,rfl,by simpa [ints] using World.ownsRow_nil _ _ _ _,zH _ _⟩
    case round =>
     obtain⟨a,sr,cr,hg,rfl,rfl,d9,h4⟩:=hrel;have l4:=Kh hg;have a0:=Kh d9;have i5:=Kh h4;clear hg d9 d0 d1 d2 d3;by_cases ha:a<k
     ·have q1:(a:Int)<k:=by omega
      have hA:=i9.out.kept h4 (by simp);have ce:=hA.el i a hi ha;have o9:=(hA.rcap i hi).1;have j3:=mA HD.out hi ha;have cp:=((l3.out.kept f1.out (fun e=>l0 (Oj e))).kept h4 (by simp)).nat (nx d i a) (by rw[c5.out];exact j3);rw[Nat.zero_add]at cp
      have i4:Hid ((vQ p (d.next.getD i [])).take (a+1)=(vQ p (d.next.getD i [])).take a++[((p.getD (nx d i a) 0:Nat):Int)]):=Kh (by
       rw[zT (d:=0) (by rw[jE HD.out hi];exact ha),mapRow_at HD.out hi ha])
      obtain⟨s,hs⟩:∃s,s=nx d i a:=⟨_,rfl⟩;rw[<-hs]at ce j3 cp i4;obtain⟨y,hy⟩:∃y,y=p.getD s 0:=⟨_,rfl⟩;rw[<-hy]at cp i4;have m4:=h4.size;have l9:(s:Int)<n:=(by omega);clear hA hs hy h4;go_wp2_with (first|(at_builtin;refine app1 rfl _ _ _ rfl yP wo.heap.size _ a (ints ((vQ p (d.next.getD i [])).take a)) rfl a0.out _ rfl rfl ?c1 ?c2 ?c3 ?_)|fail)
      case c1=>unfold maxLen;omega
      case c2=>omega
      case c3=>exact m4
      intro sa' sc' w6 a3 k0 m3;have n9:=Kh a3;have o1:=Kh k0;clear a3 k0;go_wp2;go_roundg (k-(a+1))
      case measure=>have:=l4.out;omega
      case rel =>
       refine⟨a+1,sa',sc',by omega,by go_num,rfl,?_,zA i5.out o1.out (fun q e=>(a0.out.lt q e).1)⟩;rw[i4.out,qCH];exact n9.out
     ·have k8:a=k:=by have:=l4.out;omega
      have j2:(vQ p (d.next.getD i [])).take a=vQ p (d.next.getD i []):=by rw[k8,<-jE HD.out (p:=p) hi];exact List.take_length
      rw[j2]at a0;obtain⟨w5,g8⟩:∃w5,w5=wr.drew:=⟨_,rfl⟩;have n3:=Kh g8;have b5:wr.grownBy w5 none:=(by rw[g8];exact zO wr none);have a2:=Kh ((a1.out.grow h4).grow b5);have c4:Hid (RowT w5.heap.size 3 w5 (.slice sr a cr) (ints (vQ p (d.next.getD i [])))):=Kh (RowT.of_owns (zY a0.out b5 (by simp)));have i6:=Kh (zD f1.out (xM (zD h4 b5) (row:=some O)));have l1:=a2.out.box;have H0:=Kh l1;have g7:=Kh a2.out.notbox;have c8:O<=w5.heap.size:=by have:=h4.size;have:=b5.size;have:=f0.out;omega
      have cq:=(((i9.out.kept h4 (by simp)).kept b5 (by simp))).fin hi;obtain⟨_,_,d2,_⟩:=zF (zB (zB (zB (zB i8.out f4.out (by simp)) f1.out (fun e=>b8 (Oj e))) h4 (by simp)) b5 (by simp));have p8:=i9.out.flt;have m6:O≠fb:=(by omega);obtain⟨bq,k4⟩:∃bq,bq=d.final.getD i false:=⟨_,rfl⟩;rw[<-k4]at cq c7;obtain⟨fsl,e5⟩:∃x,x=gJ d p i:=⟨_,rfl⟩;obtain⟨tsl,d8⟩:∃x,x=gI d p i:=⟨_,rfl⟩;rw[<-e5]at a2 H0 c7 d4;rw[<-d8]at a2 H0 d6 b3;obtain⟨m,hm⟩:∃m,m=c:=⟨_,rfl⟩;rw[<-hm]at d4 b3;have b9:=Kh b3;have k9:=a2.out.many
      have hM:Many w5 (FB sf sn) w5 [⟨O,34,.slice sn m cn,m,hs,1⟩,⟨O,4,.slice sf m cf,m,bls fsl,1⟩] [] []:=by
       have h1:=k9;simp only[rN,rF,d4,b3]at h1;exact h1
      have d7:Hid (∀W:World,(W.cell? ⟨P,2,none⟩=some (.slice (some ⟨fb,fo,none⟩) n fc)/\W.cell? ⟨fb,fo+i,none⟩=some (.bool bq))->∀(c:Nat) (X:Value),(W.setCell ⟨O,c,none⟩ X).cell? ⟨P,2,none⟩=some (.slice (some ⟨fb,fo,none⟩) n fc)/\(W.setCell ⟨O,c,none⟩ X).cell? ⟨fb,fo+i,none⟩=some (.bool bq)):=Kh (fun W h c X =>
       ⟨by rw[World.cell?_setCell_far W ⟨O,c,none⟩ ⟨P,2,none⟩ X b8];exact h.1,by rw[World.cell?_setCell_far W ⟨O,c,none⟩ ⟨fb,fo+i,none⟩ X m6];exact h.2⟩)
      have h0:Hid (∀W rs ls,Many w5 (FB sf sn) W rs ls []->(W.cell? ⟨P,2,none⟩=some (.slice (some ⟨fb,fo,none⟩) n fc)/\W.cell? ⟨fb,fo+i,none⟩=some (.bool bq))/\(W.cell? ⟨O,3,none⟩=some (.slice sn m cn)/\W.cell? ⟨O,2,none⟩=some (.slice sf m cf))):=Kh (fun W rs ls h=>by
       have j8:=a2.out.ge;have hb:=h.but.heap H0.out g7.out;rw[d4,b3]at hb;obtain⟨_,_,e2,e3⟩:=zF hb
       exact⟨⟨h.but.cell d2 (fun hf=>by have:=j8 _ hf;simp only at this;omega),h.but.cell cq (fun hf=>by have:=j8 _ hf;simp only at this;omega)⟩,e3,e2⟩)
      rw[d4,b3]at H0;have p2:Hid (m=c):=Kh hm;have p3:m<=4194304:=by omega
      clear k9 l1 j2 k8 g8 b5 h4 k4 e5 d8 hm d4 b3 ch d2 cq;go_upto_region 15 with fail;refine wp_region_noPanic ?_;refine yY (G:=uI 15 (fun W=>W.cell? ⟨P,2,none⟩=some (.slice (some ⟨fb,fo,none⟩) n fc)/\W.cell? ⟨fb,fo+i,none⟩=some (.bool bq)) (fun W=>W.cell? ⟨O,3,none⟩=some (.slice sn m cn)/\W.cell? ⟨O,2,none⟩=some (.slice sf m cf))) (by kernel_rfl) ?_;rw[<-n3.out];refine zV 0 ⟨(h0.out _ _ _ hM).1,fun _=>(h0.out _ _ _ hM).2⟩ ?_;refine uA 1 ⟨(h0.out _ _ _ hM).1,fun _=>(h0.out _ _ _ hM).2⟩ ?_;refine zV 2 ⟨(h0.out _ _ _ hM).1,fun _=>(h0.out _ _ _ hM).2⟩ ?_;refine zV 5 ⟨(h0.out _ _ _ hM).1,fun _=>(h0.out _ _ _ hM).2⟩ ?_;refine uA 6 ⟨(h0.out _ _ _ hM).1,fun _=>(h0.out _ _ _ hM).2⟩ ?_;refine zV 7 ⟨(h0.out _ _ _ hM).1,fun _=>(h0.out _ _ _ hM).2⟩ ?_;refine zV 8 ⟨(h0.out _ _ _ hM).1,fun _=>(h0.out _ _ _ hM).2⟩ ?_;refine zV 9 ⟨(h0.out _ _ _ hM).1,fun _=>(h0.out _ _ _ hM).2⟩ ?_;refine zV 10 ⟨(h0.out _ _ _ hM).1,fun _=>(h0.out _ _ _ hM).2⟩ ?_;refine zV 11 ⟨(h0.out _ _ _ hM).1,fun _=>(h0.out _ _ _ hM).2⟩ ?_;refine twoG (i:=3) (j:=12) (by kernel_rfl) rfl rfl (fun K hK=>?_) (fun K hK=>?_)
      ·skip
       go_simp;refine hK.out _ _ ⟨(h0.out _ _ _ (hM.alloc _)).1,fun _=>(h0.out _ _ _ (hM.alloc _)).2⟩ ?_;clear hK K
       try simp only[Act.put,sPa,sPb,sPc]
       refine twoG (i:=4) (j:=12) (by kernel_rfl) rfl rfl (fun K hK=>?_) (fun K hK=>?_)
       ·skip
        refine uK rfl (.tmp 52) (.tmp 54) 40 rfl vU 0 _ _ rfl ⟨_,_,_,_,_,(hM.alloc _),_,rfl,rfl,rfl,rfl,?g3,?g4,c8,_,_,_,List.Mem.head _,(by first|rfl|simp),rfl,?_⟩
        case g3=>(simp only[];unfold maxLen;omega)
        case g4=>(simp only[];omega)
        intro sa1 sc1 w1x H9;have H5:=H9.litcell (List.Mem.head _)
        try simp only[zL]at H5
        refine hK.out _ _ ⟨(h0.out _ _ _ H9).1,fun _=>(h0.out _ _ _ H9).2⟩ ?_;clear hK K
        try simp only[Act.put,sPa,sPb,sPc]
        refine zV 14 ⟨(h0.out _ _ _ H9).1,fun _=>(h0.out _ _ _ H9).2⟩ ?_;refine oneG (i:=12) (by kernel_rfl) rfl (fun K hK=>?_);go_simp;refine hK.out _ _ ⟨(h0.out _ _ _ (H9.alloc _)).1,fun _=>(h0.out _ _ _ (H9.alloc _)).2⟩ ?_;clear hK K
        try simp only[Act.put,sPa,sPb,sPc]
        refine oneG (i:=13) (by kernel_rfl) rfl (fun K hK=>?_);refine uK rfl (.tmp 57) (.tmp 63) 39 rfl xJ 1 _ _ rfl ⟨_,_,_,_,_,(H9.alloc _),_,rfl,rfl,rfl,rfl,?g3,?g4,c8,_,_,_,List.Mem.head _,(by first|rfl|simp),rfl,?_⟩
        case g3=>(simp only[];unfold maxLen;omega)
        case g4=>(simp only[];omega)
        intro sa2 sc2 w2x b2;have H5:=b2.litcell (List.Mem.head _)
        try simp only[zL]at H5
        have H8:=b2.litcell (List.Mem.tail _ (List.Mem.head _))
        try simp only[zL]at H8
        refine hK.out _ _ ⟨(h0.out _ _ _ b2).1,fun _=>(h0.out _ _ _ b2).2⟩ ?_;clear hK K
        try simp only[Act.put,sPa,sPb,sPc]
        refine oneG (i:=15) (by kernel_rfl) rfl (fun K hK=>?_);have h5:=b2.but.heap H0.out g7.out;have cb3:=zI h5 3 (by simp);have cb2:=zI h5 2 (by simp);have fb3:=zE h5 3;have fb2:=zE h5 2;simp only[List.getElem_toArray,List.getElem_cons_zero,List.getElem_cons_succ]at cb3 cb2;go_simp;have h3:=heap_setCell_same _ O 3 _ _ (.slice sa1 (m+1) sc1) h5;have cb22:=zI h3 2 (by simp);have fb22:=zE h3 2;simp at cb22;have H1:=d7.out _ (h0.out _ _ _ b2).1 3 (.slice sa1 (m+1) sc1);refine hK.out _ _ ⟨H1,fun h=>by simp at h⟩ ?_;clear hK K
        try simp only[Act.put,sPa,sPb,sPc]
        refine zV 16 ⟨H1,fun h=>by simp at h⟩ ?_;refine oneG (i:=17) (by kernel_rfl) rfl (fun K hK=>?_);go_simp;have h6:=d7.out _ H1 2 (.slice sa2 (m+1) sc2);refine hK.out _ _ ⟨h6,fun h=>by simp at h⟩ ?_;clear hK K
        try simp only[Act.put,sPa,sPb,sPc]
        refine rP (by kernel_rfl) ?_ _;refine NoPanic.normal ?_;obtain⟨h7,a5⟩:=a2.out.push (b:=bq) (row:=vQ p (d.next.getD i [])) b9.out b2 c4.out rfl;have H6:=Kh h7;have c6:=Kh (a5 w4 i6.out (by have:=f0.out;omega));clear h7 a5 cb3 cb2 fb3 fb2 h5 h3 cb22 fb22 H1 h6 b2
        (try clear H9)
        go_wp2;go_roundg (n-(i+1))
        case measure=>have:=f2.out;omega
        case rel=>exact⟨i+1,_,_,_,_,_,by omega,by go_num,by rw[f5.out];rfl,H6.out.congr c7.out d6.out,c6.out⟩
       ·skip
        go_simp;refine hK.out _ _ ⟨(h0.out _ _ _ ((hM.alloc _).alloc _)).1,fun _=>(h0.out _ _ _ ((hM.alloc _).alloc _)).2⟩ ?_;clear hK K
        try simp only[Act.put,sPa,sPb,sPc]
        refine oneG (i:=4) (by kernel_rfl) rfl (fun K hK=>?_);refine uK rfl (.tmp 52) (.tmp 54) 40 rfl vU 0 _ _ rfl ⟨_,_,_,_,_,((hM.alloc _).alloc _),_,rfl,rfl,rfl,rfl,?g3,?g4,c8,_,_,_,List.Mem.tail _ (List.Mem.head _),(by first|rfl|simp),rfl,?_⟩
        case g3=>(simp only[];unfold maxLen;omega)
        case g4=>(simp only[];omega)
        intro sa3 sc3 w3x b1;have H5:=b1.litcell (List.Mem.head _)
        try simp only[zL]at H5
        have H8:=b1.litcell (List.Mem.tail _ (List.Mem.head _))
        try simp only[zL]at H8
        refine hK.out _ _ ⟨(h0.out _ _ _ b1).1,fun _=>(h0.out _ _ _ b1).2⟩ ?_;clear hK K
        try simp only[Act.put,sPa,sPb,sPc]
        refine zV 14 ⟨(h0.out _ _ _ b1).1,fun _=>(h0.out _ _ _ b1).2⟩ ?_;refine oneG (i:=13) (by kernel_rfl) rfl (fun K hK=>?_);refine uK rfl (.tmp 57) (.tmp 63) 39 rfl xJ 1 _ _ rfl ⟨_,_,_,_,_,b1,_,rfl,rfl,rfl,rfl,?g3,?g4,c8,_,_,_,List.Mem.head _,(by first|rfl|simp),rfl,?_⟩
        case g3=>(simp only[];unfold maxLen;omega)
        case g4=>(simp only[];omega)
        intro sa4 sc4 w4x b0;have H5:=b0.litcell (List.Mem.head _)
        try simp only[zL]at H5
        have H8:=b0.litcell (List.Mem.tail _ (List.Mem.head _))
        try simp only[zL]at H8
        refine hK.out _ _ ⟨(h0.out _ _ _ b0).1,fun _=>(h0.out _ _ _ b0).2⟩ ?_;clear hK K
        try simp only[Act.put,sPa,sPb,sPc]
        refine oneG (i:=15) (by kernel_rfl) rfl (fun K hK=>?_);have h5:=b0.but.heap H0.out g7.out;have cb3:=zI h5 3 (by simp);have cb2:=zI h5 2 (by simp);have fb3:=zE h5 3;have fb2:=zE h5 2;simp only[List.getElem_toArray,List.getElem_cons_zero,List.getElem_cons_succ]at cb3 cb2;go_simp;have h3:=heap_setCell_same _ O 3 _ _ (.slice sa3 (m+1) sc3) h5;have cb22:=zI h3 2 (by simp);have fb22:=zE h3 2;simp at cb22;have H1:=d7.out _ (h0.out _ _ _ b0).1 3 (.slice sa3 (m+1) sc3);refine hK.out _ _ ⟨H1,fun h=>by simp at h⟩ ?_;clear hK K
        try simp only[Act.put,sPa,sPb,sPc]
        refine zV 16 ⟨H1,fun h=>by simp at h⟩ ?_;refine oneG (i:=17) (by kernel_rfl) rfl (fun K hK=>?_);go_simp;have h6:=d7.out _ H1 2 (.slice sa4 (m+1) sc4);refine hK.out _ _ ⟨h6,fun h=>by simp at h⟩ ?_;clear hK K
        try simp only[Act.put,sPa,sPb,sPc]
        refine rP (by kernel_rfl) ?_ _;refine NoPanic.normal ?_;obtain⟨h7,a5⟩:=a2.out.push (b:=bq) (row:=vQ p (d.next.getD i [])) b9.out b0 c4.out rfl;have H6:=Kh h7;have c6:=Kh (a5 w4 i6.out (by have:=f0.out;omega));clear h7 a5 cb3 cb2 fb3 fb2 h5 h3 cb22 fb22 H1 h6 b0
        (try clear b1)
        go_wp2;go_roundg (n-(i+1))
        case measure=>have:=f2.out;omega
        case rel=>exact⟨i+1,_,_,_,_,_,by omega,by go_num,by rw[f5.out];rfl,H6.out.congr c7.out d6.out,c6.out⟩
      ·skip
       go_simp;refine hK.out _ _ ⟨(h0.out _ _ _ (hM.alloc _)).1,fun _=>(h0.out _ _ _ (hM.alloc _)).2⟩ ?_;clear hK K
       try simp only[Act.put,sPa,sPb,sPc]
       refine oneG (i:=3) (by kernel_rfl) rfl (fun K hK=>?_);go_simp;refine hK.out _ _ ⟨(h0.out _ _ _ ((hM.alloc _).alloc _)).1,fun _=>(h0.out _ _ _ ((hM.alloc _).alloc _)).2⟩ ?_;clear hK K
       try simp only[Act.put,sPa,sPb,sPc]
       refine oneG (i:=4) (by kernel_rfl) rfl (fun K hK=>?_);refine uK rfl (.tmp 52) (.tmp 54) 40 rfl vU 0 _ _ rfl ⟨_,_,_,_,_,((hM.alloc _).alloc _),_,rfl,rfl,rfl,rfl,?g3,?g4,c8,_,_,_,List.Mem.head _,(by first|rfl|simp),rfl,?_⟩
       case g3=>(simp only[];unfold maxLen;omega)
       case g4=>(simp only[];omega)
       intro sa5 sc5 w5x a9;have H5:=a9.litcell (List.Mem.head _)
       try simp only[zL]at H5
       have H8:=a9.litcell (List.Mem.tail _ (List.Mem.head _))
       try simp only[zL]at H8
       refine hK.out _ _ ⟨(h0.out _ _ _ a9).1,fun _=>(h0.out _ _ _ a9).2⟩ ?_;clear hK K
       try simp only[Act.put,sPa,sPb,sPc]
       refine zV 14 ⟨(h0.out _ _ _ a9).1,fun _=>(h0.out _ _ _ a9).2⟩ ?_;refine oneG (i:=13) (by kernel_rfl) rfl (fun K hK=>?_);refine uK rfl (.tmp 57) (.tmp 63) 39 rfl xJ 1 _ _ rfl ⟨_,_,_,_,_,a9,_,rfl,rfl,rfl,rfl,?g3,?g4,c8,_,_,_,List.Mem.tail _ (List.Mem.head _),(by first|rfl|simp),rfl,?_⟩
       case g3=>(simp only[];unfold maxLen;omega)
       case g4=>(simp only[];omega)
       intro sa6 sc6 w6x a8;have H5:=a8.litcell (List.Mem.head _)
       try simp only[zL]at H5
       have H8:=a8.litcell (List.Mem.tail _ (List.Mem.head _))
       try simp only[zL]at H8
       refine hK.out _ _ ⟨(h0.out _ _ _ a8).1,fun _=>(h0.out _ _ _ a8).2⟩ ?_;clear hK K
       try simp only[Act.put,sPa,sPb,sPc]
       refine oneG (i:=15) (by kernel_rfl) rfl (fun K hK=>?_);have h5:=a8.but.heap H0.out g7.out;have cb3:=zI h5 3 (by simp);have cb2:=zI h5 2 (by simp);have fb3:=zE h5 3;have fb2:=zE h5 2;simp only[List.getElem_toArray,List.getElem_cons_zero,List.getElem_cons_succ]at cb3 cb2;go_simp;have h3:=heap_setCell_same _ O 3 _ _ (.slice sa5 (m+1) sc5) h5;have cb22:=zI h3 2 (by simp);have fb22:=zE h3 2;simp at cb22;have H1:=d7.out _ (h0.out _ _ _ a8).1 3 (.slice sa5 (m+1) sc5);refine hK.out _ _ ⟨H1,fun h=>by simp at h⟩ ?_;clear hK K
       try simp only[Act.put,sPa,sPb,sPc]
       refine zV 16 ⟨H1,fun h=>by simp at h⟩ ?_;refine oneG (i:=17) (by kernel_rfl) rfl (fun K hK=>?_);go_simp;have h6:=d7.out _ H1 2 (.slice sa6 (m+1) sc6);refine hK.out _ _ ⟨h6,fun h=>by simp at h⟩ ?_;clear hK K
       try simp only[Act.put,sPa,sPb,sPc]
       refine rP (by kernel_rfl) ?_ _;refine NoPanic.normal ?_;obtain⟨h7,a5⟩:=a2.out.push (b:=bq) (row:=vQ p (d.next.getD i [])) b9.out a8 c4.out rfl;have H6:=Kh h7;have c6:=Kh (a5 w4 i6.out (by have:=f0.out;omega));clear h7 a5 cb3 cb2 fb3 fb2 h5 h3 cb22 fb22 H1 h6 a8
       (try clear a9)
       go_wp2;go_roundg (n-(i+1))
       case measure=>have:=f2.out;omega
       case rel=>exact⟨i+1,_,_,_,_,_,by omega,by go_num,by rw[f5.out];rfl,H6.out.congr c7.out d6.out,c6.out⟩
   ·have c7:=Kh (minFs_old (d:=d) (fun e=>hxc (hx.trans (e.trans hc.symm))));have d6:=Kh (minTs_old (d:=d) (fun e=>hxc (hx.trans (e.trans hc.symm))))
    have f5:Hid (cls (p.take (i+1))=c):=Kh (H3 hxc);have e1:((x:Int) != (c:Int))=true:=by rw[bne_iff_ne];omega
    clear h7 h4 H7 H4 H3 hx hc hxc;go_wp2;go_roundg (n-(i+1))
    case measure=>have:=f2.out;omega
    case rel=>exact⟨i+1,hs,sf,cf,sn,cn,by omega,by go_num,by rw[f5.out],a1.out.congr c7.out d6.out,f1.out⟩
  ·have j7:i=n:=by have:=f2.out;omega
   have hE:(⟨(k:Int),(ps:Int),gJ d p i,gI d p i⟩:DfaV)=tA d p:=by
    have h1:=HD.out.hk;have h2:reps p=tG p i:=by rw[reps,c5.out,j7]
    simp only[tA,gJ,gI,h1,h2,n7.out,n5.out]
   have n6:=Kh (qDG HD.out c5.out g5.out);have i2:=h7.dfa;rw[hE]at i2;have n4:=Kh (trim_any wr.heap.size wr _ (tA d p) (cls p) k (Nat.le_refl _) i2 n6.out);obtain⟨d0,d1,d2,d3⟩:=zF h7.box;have b8:O≠P+1:=(by omega);have n0:P+1≠O:=(by omega);clear hE i2 h7 j7;go_wp2_with fail;refine n4.out.mono ?_;rintro e w7 ⟨v7,pv7,rfl,a4,f9⟩;have m2:xY (tA d p) k=minD d k:=by rw[HP.out];rfl
   rw[m2]at a4;obtain⟨o7,l8,sf7,cf7,sn7,cn7,rfl,p0,k7⟩:=a4;have h9:=zB a1.out.box f9 (by simp);have h8:=zB (zB (zB o3.out f4.out (by simp)) h4 (fun e=>b8 (Oj e))) f9 (by simp);have f6:=Kh h9;have i7:=Kh h8;have o2:=Kh k7;have c6:=Kh f9;obtain⟨x0,x1,x2,x3⟩:=zF h9;obtain⟨y0,y1,y2,y3⟩:=zF h8;have fx0:=zE h9 0;have fx1:=zE h9 1;have fx2:=zE h9 2;have fx3:=zE h9 3;have fy0:=zE h8 0;have fy1:=zE h8 1;have fy2:=zE h8 2;have fy3:=zE h8 3;clear h9 h8 k7 f9 h4 d0 d1 d2 d3;go_wp2;refine bodyPost_ret (v:=.agg #[.int .i64 (minD d k).letters,.int .i64 (minD d k).start,.slice sf7 (minD d k).final.length cf7,.slice sn7 (minD d k).next.length cn7]) (by simp[results,Try.results54,go_sem,y0,y1,y2,y3,b8,n0]) rfl ?_;obtain⟨o8,i1⟩:=wF f6.out (.int .i64 (minD d k).letters) (.int .i64 (minD d k).start) (.slice sf7 (minD d k).final.length cf7) (.slice sn7 (minD d k).next.length cn7);have e8:=zB i7.out i1 (fun e=>b8 (Oj e));obtain⟨hsR,j9⟩:=wF e8 (.int .i64 (minD d k).letters) (.int .i64 (minD d k).start) (.slice sf7 (minD d k).final.length cf7) (.slice sn7 (minD d k).next.length cn7);have q3:O<wr.heap.size:=zK a1.out.box;refine⟨_,rfl,⟨o7,l8,sf7,cf7,sn7,cn7,rfl,by have:=g6.out;omega,(o2.out.far i1 f6.out (by omega)).far j9 e8 (by omega)⟩,?_⟩;have g1:w.grownBy wr none:=zD o0.out (zD f4.out (zA (zH _ _) f1.out (fun x e=>by have:=Oj e;have:=f0.out;omega)));refine zA (zA (zD g1 c6.out) i1 (fun x e=>by have:=Oj e;have:=g6.out;omega)) j9 (fun x e=>by have:=Oj e;have:=g6.out;omega)
theorem qEN (B:Nat)(w:World)(v:Value)(d:DfaV)(n k:Nat)(hB:B<=w.heap.size)(h:tE B w v d)(hd:VD d n k)(h5:n<=512):Calls Try.prog 58 #[v] w (qDT w (minD d k)):=by
 have h0:=h;obtain⟨fb,fo,fc,b,off,cap,RB,RO,RC,rfl,b6⟩:=h.at hd;obtain⟨S,hS⟩:∃S,S=st0 d:=⟨_,rfl⟩;have a7:dAgg k (st0 d) fb fo fc b off cap n=.agg #[.int .i64 (k:Int),.int .i64 (S:Int),.slice (some ⟨fb,fo,none⟩) n fc,.slice (some ⟨b,off,none⟩) n cap]:=by rw[hS];rfl
 rw[a7]at h0⊢;obtain⟨h4,H1,h6,a5⟩:=sZ w #[.int .i64 (k:Int),.int .i64 (S:Int),.slice (some ⟨fb,fo,none⟩) n fc,.slice (some ⟨b,off,none⟩) n cap] #[.int .i64 0,.int .i64 0,.slice none 0 0,.slice none 0 0] 42;obtain⟨wA,H4⟩:∃wA,wA=(w.alloc (.cells #[.int .i64 (k:Int),.int .i64 (S:Int),.slice (some ⟨fb,fo,none⟩) n fc,.slice (some ⟨b,off,none⟩) n cap] 42)).alloc (.cells #[.int .i64 0,.int .i64 0,.slice none 0 0,.slice none 0 0] 42):=⟨_,rfl⟩;rw[<-H4]at h4 H1 h6 a5;obtain⟨c0,c1,c2,c3⟩:=zF h4;obtain⟨P,hP⟩:∃P,P=w.heap.size:=⟨_,rfl⟩;obtain⟨Q,hQ⟩:∃Q,Q=w.heap.size+1:=⟨_,rfl⟩;have c9:=Kh hP;have c8:Hid (Q=P+1):=Kh (by omega);have f4:P<Q:=by omega
 have e7:Q<wA.heap.size:=by omega
 have e9:w.heap.size<=P:=by omega
 have b7:B<=wA.heap.size:=by omega
 rw[<-hQ]at H1;rw[<-hP]at h4 c0 c1 c2 c3 hB;have d9:=Kh h4;have d8:=Kh H1;have d4:=Kh h6;have b8:=Kh H4;have HD:=Kh hd;have a2:=Kh (h0.kept h6 (by simp));have a9:=Kh (rR B wA _ d b7 a2.out);have c4:=Kh (gZ hd h5);clear h4 H1 h6 H4 b6 hd h h0 a7 hS a5 hP hQ;go_enter Try.func58,Try.ntmps58;go_upto_region 1 with fail;rw[<-b8.out,<-c9.out,<-c8.out];go_wp2_with fail;refine a9.out.mono ?_;rintro e w1 ⟨rfl,h2⟩;rw[c4.out];have e6:=h2.size;have d6:=Kh h2;have a4:=Kh (zB d9.out h2 (by simp));have a3:=Kh (zB d8.out h2 (by simp));have b1:=Kh (pminimal_any B w1 _ d n k (by omega) (a2.out.kept h2 (by simp)) HD.out h5);obtain⟨d0,d1,d2,d3⟩:=zF a4.out;clear h2 a9 c0 c1 c2 c3;go_wp2_with fail;refine b1.out.mono ?_;rintro e w2 ⟨v2,sv,rfl,⟨o,hs,sf,cf,sn,cn,rfl,ho,h9⟩,h8⟩;rw[min_trim HD.out]at h9⊢;obtain⟨R,hR⟩:∃R,R=minD d k:=⟨_,rfl⟩;rw[<-hR]at h9⊢;have H7:R.letters=k:=by rw[hR];exact(eK HD.out).hk
 have H6:R.start=0:=by rw[hR];rfl
 obtain⟨FL,H9⟩:∃FL,FL=R.final.length:=⟨_,rfl⟩;obtain⟨NL,H8⟩:∃NL,NL=R.next.length:=⟨_,rfl⟩;rw[H7,H6,<-H9,<-H8];have b0:=Kh hR;have c7:=Kh H7;have c6:=Kh H6;have a1:=Kh H9;have a0:=Kh H8;have d7:=Kh h9;have d5:=Kh h8;obtain⟨T3,H5⟩:∃T3,T3=w2.heap.size:=⟨_,rfl⟩;obtain⟨w3,H2⟩:∃w3,w3=w2.alloc (.cells #[.int .i64 (k:Int),.int .i64 0,.slice sf FL cf,.slice sn NL cn] 42):=⟨_,rfl⟩;have h3:=Ga w2 (.cells #[.int .i64 (k:Int),.int .i64 0,.slice sf FL cf,.slice sn NL cn] 42) none;have H0:=heap_alloc_new w2 (.cells #[.int .i64 (k:Int),.int .i64 0,.slice sf FL cf,.slice sn NL cn] 42);rw[<-H2]at h3 H0;rw[<-H5]at H0;have e5:=h8.size;have e4:=h3.size;have b9:=Kh H2;have c5:=Kh H5;have b2:=Kh h3;have h1:=zB (zB a3.out h8 (by simp)) h3 (by simp);have b3:=Kh h1;obtain⟨e0,e1,e2,e3⟩:=zF H0;obtain⟨q0,q1,q2,q3⟩:=zF h1;have f0:=zE h1 0;have f1:=zE h1 1;have f2:=zE h1 2;have f3:=zE h1 3;have e8:Q<T3:=by omega
 clear hR H7 H6 H9 H8 h9 h8 H2 H5 h3 H0 h1 d0 d1 d2 d3 b1 a2;go_upto_region 4 with fail;rw[<-b9.out,<-c5.out];go_wp2;obtain⟨a8,H3⟩:=wF b3.out (.int .i64 (k:Int)) (.int .i64 0) (.slice sf FL cf) (.slice sn NL cn);obtain⟨wz,a6⟩:∃wz,wz=(((w3.setCell ⟨Q,0,none⟩ (.int .i64 (k:Int))).setCell ⟨Q,1,none⟩ (.int .i64 0)).setCell ⟨Q,2,none⟩ (.slice sf FL cf)).setCell ⟨Q,3,none⟩ (.slice sn NL cn):=⟨_,rfl⟩;rw[<-a6]at a8 H3⊢;clear a6;obtain⟨r0,r1,r2,r3⟩:=zF a8;clear e0 e1 e2 e3 q0 q1 q2 q3 f0 f1 f2 f3;refine bodyPost_ret (v:=.agg #[.int .i64 (k:Int),.int .i64 0,.slice sf FL cf,.slice sn NL cn]) (by simp[results,Try.results58,go_sem,r0,r1,r2,r3]) rfl ?_;have b4:w.grownBy wz none:=zA (zA (zA (zA d4.out d6.out (by simp)) d5.out (by simp)) b2.out (by simp)) H3 (fun k e=>by have h7:Q=k:=Oj e;omega);have b5:=(d7.out.grow b2.out).far H3 b3.out (by omega);refine⟨_,rfl,⟨o,hs,sf,cf,sn,cn,?_,by omega,by rw[<-b0.out];exact b5⟩,b4⟩;rw[<-b0.out,c6.out,c7.out,a1.out,a0.out]
theorem mk_bool (n:Nat)(h:n<=4096):∀w:World,(Instr.makeSlice 39 (.int .i64 (n:Int)) (.int .i64 (n:Int))).run Try.prog w=.ok (.slice (some ⟨w.heap.size,0,none⟩) n n) (w.alloc (.cells (madeCells #[.bool false] n) 4)) :=
 fun w=>run_make_row' 39 4 (.bool false) 1 Try.underlying39 (by kernel_rfl) rfl .i64 .i64 n (by omega) (by omega) w
theorem qCB (n:Nat):(madeCells #[.bool false] n).toList=bls (List.replicate n false):=by
 have:=mE (z:=.bool false) rfl n;rw[Nat.mul_one]at this;rw[show bls (List.replicate n false)=List.replicate n (.bool false) by simp[bls]];exact this
def jV:DfaV:=⟨0,0,[],[]⟩
theorem tW {x:Int}(h:-9223372036854775808<=x/\x<=9223372036854775807):IntKind.i64.wrap x=x:=by
 unfold IntKind.wrap;simp[IntKind.bits,IntKind.signed];omega
open Go.Maps
def kb (l:List Nat):List Nat:=l.flatMap fun q=>[q / 256,q % 256]
def kbR (l:List Nat):List Nat:=l.flatMap fun q=>[q % 256,q / 256]
theorem kb_length (l:List Nat):(kb l).length=2*l.length:=by
 induction l with
 | nil=>rfl
 | cons x l ih=>simp only[kb,List.flatMap_cons,List.length_append,List.length_cons,List.length_nil]at ih⊢;omega
theorem bX (l:List Nat):(kbR l).length=2*l.length:=by
 induction l with
 | nil=>rfl
 | cons x l ih=>simp only[kbR,List.flatMap_cons,List.length_append,List.length_cons,List.length_nil]at ih⊢;omega
theorem kb_snoc (l:List Nat)(x:Nat):kb (l++[x])=kb l++[x / 256,x % 256]:=by simp[kb]
theorem kbR_snoc (l:List Nat)(x:Nat):kbR (l++[x])=kbR l++[x % 256,x / 256]:=by simp[kbR]
theorem qIX:∀ {l m:List Nat},kb l=kb m->l=m
 | [],[],_=>rfl
 | [],y::m,h=>by simp[kb]at h
 | x::l,[],h=>by simp[kb]at h
 | x::l,y::m,h=>by
  simp only[kb,List.flatMap_cons,List.cons_append,List.nil_append,List.cons.injEq]at h
  obtain⟨h1,h2,h3⟩:=h
  rw[qIX (l:=l) (m:=m) h3,show x=y by omega]
theorem qHF:∀ {l m:List Nat},kbR l=kbR m->l=m
 | [],[],_=>rfl
 | [],y::m,h=>by simp[kbR]at h
 | x::l,[],h=>by simp[kbR]at h
 | x::l,y::m,h=>by
  simp only[kbR,List.flatMap_cons,List.cons_append,List.nil_append,List.cons.injEq]at h
  obtain⟨h1,h2,h3⟩:=h
  rw[qHF (l:=l) (m:=m) h3,show x=y by omega]
def qM (n:Nat)(l:List Nat):Prop:=l.length=n/\∀x∈l,x<512
theorem qFC {n:Nat}{l:List Nat}(h:qM n l):∀x∈kb l,x<256:=by
 intro x hx;simp only[kb,List.mem_flatMap,List.mem_cons,List.not_mem_nil,or_false]at hx;obtain⟨q,hq,hx⟩:=hx;have:=h.2 q hq;omega
theorem qCG {n:Nat}{l:List Nat}(h:qM n l):∀x∈kbR l,x<256:=by
 intro x hx;simp only[kbR,List.mem_flatMap,List.mem_cons,List.not_mem_nil,or_false]at hx;obtain⟨q,hq,hx⟩:=hx;have:=h.2 q hq;omega
theorem pR (l:List Nat):(txtT l).size=l.length:=by
 have:(txtT l).size=(txtT l).data.toList.length:=by rw[Array.length_toList];rfl
 rw[this];unfold txtT;rw[strOfNums_data];simp[zb]
theorem key_kb {n:Nat}(h:n<=400):KeyK 129 9 (qM n) (fun l=>.string (txtT (kb l))) where
 key:=lA
 und:=pA
 of:=fun a ha=>by rw[Go.WideMaps.keyOf_string_mk nP (by rw[pR,kb_length,ha.1];unfold maxLen;omega)];rfl
 inj:=fun a b ha hb e=>qIX (qDU (qFC ha) (qFC hb) (by simpa using e))
theorem key_kbR {n:Nat}(h:n<=400):KeyK 129 9 (qM n) (fun l=>.string (txtT (kbR l))) where
 key:=lA
 und:=pA
 of:=fun a ha=>by rw[Go.WideMaps.keyOf_string_mk nP (by rw[pR,bX,ha.1];unfold maxLen;omega)];rfl
 inj:=fun a b ha hb e=>qHF (qDU (qCG ha) (qCG hb) (by simpa using e))
theorem u8s_append (l m:List Nat):u8s (l++m)=u8s l++u8s m:=by simp[u8s,zb]
theorem rowLit {w:World}{b e n:Nat}{cs:Array Value}{m:Nat×Nat}(h:w.heap[b]?=some (.cells cs e m))(hn:cs.size=n)(hm:n<=maxLen):Row (b+1) w (.slice (some ⟨b,0,none⟩) n n) cs.toList :=
 .inr ⟨b,0,n,by simp[hn],by omega,by simp[hn],hm,zK h,fun i hi=>by
  rw[Nat.zero_add,cell_of_row w b i _ _ _ h]
  have:i<cs.size:=by simpa using hi
  simp[this]⟩
theorem qFR (B:Nat)(w:World)(v:Value)(l:List Nat)(n:Nat)(hB:B<=w.heap.size)(h:Row B w v (nats l))(hs:qM n l)(hn:n<=400):Calls Try.prog 84 #[v] w fun e w'=>e=.returned (.string (txtT (kb l)))/\w.grownBy w' none:=by
 obtain⟨a,c,rfl⟩:=h.shape;have H7:=h.len_le;rw[zW,hs.1]at H7⊢;have H:=Kh h;have HS:=Kh hs;clear h hs;go_enter Try.func84,Try.ntmps84;go_wp2_with (first|(at_make;refine make0 rfl _ _ _ rfl qDM .i64 .i64 _ (2*n) rfl rfl ?m1 ?m2 ?m3 ?_)|fail)
 case m1=>omega
 case m2=>omega
 case m3=>unfold maxLen;omega
 intro w1 h1 H0;have H1:=Kh h1;have H3:=Kh H0;clear h1 H0;go_wp2
 go_loopg [3,5,12] n (fun gh v3 a5 i wr=>∃(k:Nat) (sa:Option Addr) (sc:Nat),gh+k=n/\i=.int .i64 k/\v3=.slice sa (2*k) sc/\wr.ownsRow w.heap.size 5 1 (.slice sa (2*k) sc) (2*k) (u8s (kb (l.take k)))/\w.grownBy wr none)
 case atStart=>exact⟨0,_,_,rfl,rfl,rfl,H1.out,H3.out⟩
 case round =>
  clear H1 H3;obtain⟨k,sa,sc,hg,rfl,rfl,h2,h3⟩:=hrel;have HG:=Kh hg;have HO:=Kh h2;have H2:=Kh h3;clear hg h2;by_cases hk:k<n
  ·have H5:(k:Int)<n:=by omega
   obtain⟨kb_,ko,kc,e,_,h8,h7,h5⟩:=(H.out.kept h3 (by simp)).some_ (by rw[zW,HS.out.1];omega);rw[zW,HS.out.1]at e h8;simp only[Value.slice.injEq]at e;obtain⟨rfl,_,rfl⟩:=e;have a7:c<=9223372036854775807:=by unfold maxLen at h7;omega
   have c1:=h5.nat k (by rw[HS.out.1];exact hk)
   have h4:Hid (u8s (kb (l.take (k+1)))=u8s (kb (l.take k))++[.int .u8 ((l.getD k 0 / 256:Nat):Int),.int .u8 ((l.getD k 0 % 256:Nat):Int)]):=Kh (by
    rw[zT (d:=0) (by rw[HS.out.1];exact hk),kb_snoc,u8s_append];rfl)
   have H4:l.getD k 0<512:=HS.out.2 _ (by rw[zG (by rw[HS.out.1];exact hk)];exact List.getElem_mem _);obtain⟨x,hx⟩:∃x,x=l.getD k 0:=⟨_,rfl⟩;rw[<-hx]at c1 h4 H4;obtain⟨y,hy⟩:∃y,y=x / 256:=⟨_,rfl⟩;obtain⟨z,hz⟩:∃z,z=x % 256:=⟨_,rfl⟩;rw[<-hy,<-hz]at h4;have e1:(x:Int) / 2 ^ 8=(y:Int):=by rw[hy];omega
   have e2:(x:Int) / 256=(y:Int):=by rw[hy];omega
   have e3:IntKind.u8.wrap (y:Int)=y:=IntWalk.u8_in _ (by omega)
   have e4:IntKind.u8.wrap (x:Int)=z:=by
    have:IntKind.u8.wrap (x:Int)=(x:Int) % 256:=by simp[IntKind.wrap,IntKind.bits,IntKind.signed]
    rw[this,hz];omega
   have a6:=h3.size;have H8:Hid (∀W:World,wr.grownBy W none->W.ownsRow w.heap.size 5 1 (.slice sa (2*k) sc) (2*k) (u8s (kb (l.take k)))):=Kh (fun W hW=>zP HO.out hW);clear h5 h8 h7 h3 hx hy hz;go_wp2_with (first|(at_builtin;refine appR rfl _ _ _ rfl qDM w.heap.size (.slice sa (2*k) sc) (2*k) _ rfl (H8.out _ (Ga wr _ none)) (.slice (some ⟨wr.heap.size,0,none⟩) 2 2) [.int .u8 (y:Int),.int .u8 (z:Int)] rfl ⟨wr.heap.size+1,?r0⟩ ?r1 (2*(k+1)) ?a1 ?a2 ?a3 ?a4 ?_)|fail)
   case r0=>exact rowLit (heap_alloc_new wr _) rfl (by unfold maxLen;omega)
   case r1=>intro u hu;simp at hu;rcases hu with rfl|rfl<;>rfl
   case a1=>simp;omega
   case a2=>unfold maxLen;omega
   case a3=>omega
   case a4=>rw[zL];omega
   intro sa' sc' w8 h0 h9;have H9:Hid (w8.ownsRow w.heap.size 5 1 (.slice sa' (2*(k+1)) sc') (2*(k+1)) (u8s (kb (l.take (k+1))))):=Kh (by rw[h4.out];exact h0);have a0:Hid (w.grownBy w8 none):=Kh (zA (zA H2.out (Ga wr _ none) (by simp)) h9 (fun x e=>(HO.out.lt x e).1));clear h0 h9;go_wp2;go_roundg (n-(k+1))
   case measure=>have:=HG.out;omega
   case rel=>exact⟨k+1,sa',sc',by have:=HG.out;omega,by go_num,rfl,H9.out,a0.out⟩
  ·have h6:k=n:=by have:=HG.out;omega
   have H5:¬(k:Int)<n:=(by omega);have HE:Hid (l.take k=l):=Kh (by rw[h6,<-HS.out.1];exact List.take_length);rw[HE.out]at HO;have H6:=oK 106 5 Try.underlying106 Try.underlying5 9 Try.underlying9 HO.out;obtain⟨X,hX⟩:∃X,X=txtT (kb l):=⟨_,rfl⟩;rw[show strOfNums (zb (kb l))=X from hX.symm]at H6;have HX:=Kh hX;clear h6 h3 hX;go_wp2;go_ret;exact⟨by rw[HX.out];rfl,H2.out⟩
theorem fE (l m:List Nat):txtT (l++m)=txtT l++txtT m:=by
 unfold txtT;rw[show zb (l++m)=zb l++zb m by simp[zb]];unfold strOfNums;apply ByteArray.ext;simp
theorem bA (B:Nat)(w:World)(v:Value)(l:List Nat)(n:Nat)(hB:B<=w.heap.size)(h:Row B w v (nats l))(hs:qM n l)(hn:n<=400):Calls Try.prog 80 #[v] w fun e w'=>e=.returned (.string (txtT (kbR l)))/\w.grownBy w' none:=by
 obtain⟨a,c,rfl⟩:=h.shape;have H1:=h.len_le;rw[zW,hs.1]at H1⊢;have H:=Kh h;have HS:=Kh hs;clear h hs;go_enter Try.func80,Try.ntmps80;go_wp2
 go_loopg [3,5,8] n (fun gh v3 a5 i wr=>∃(k:Nat),gh+k=n/\i=.int .i64 k/\v3=.string (txtT (kbR (l.take k)))/\w.grownBy wr none)
 case atStart=>exact⟨0,rfl,rfl,rfl,zH _ _⟩
 case round =>
  obtain⟨k,hg,rfl,rfl,h1⟩:=hrel;have HG:=Kh hg;have h6:=Kh h1;clear hg;by_cases hk:k<n
  ·have h9:(k:Int)<n:=by omega
   obtain⟨kb_,ko,kc,e,_,h5,h4,h2⟩:=(H.out.kept h1 (by simp)).some_ (by rw[zW,HS.out.1];omega);rw[zW,HS.out.1]at e h5;simp only[Value.slice.injEq]at e;obtain⟨rfl,_,rfl⟩:=e;have H5:c<=9223372036854775807:=by unfold maxLen at h4;omega
   have c1:=h2.nat k (by rw[HS.out.1];exact hk);have h7:l.getD k 0<512:=HS.out.2 _ (by rw[zG (by rw[HS.out.1];exact hk)];exact List.getElem_mem _)
   have h0:Hid (txtT (kbR (l.take (k+1)))=txtT (kbR (l.take k))++txtT [l.getD k 0 % 256,l.getD k 0 / 256]):=Kh (by
    rw[zT (d:=0) (by rw[HS.out.1];exact hk),kbR_snoc,fE])
   have H3:(txtT (kbR (l.take k))).size=2*k:=by rw[pR,bX,List.length_take,HS.out.1];omega
   obtain⟨x,hx⟩:∃x,x=l.getD k 0:=⟨_,rfl⟩;rw[<-hx]at c1 h0 h7;obtain⟨y,hy⟩:∃y,y=x / 256:=⟨_,rfl⟩;obtain⟨z,hz⟩:∃z,z=x % 256:=⟨_,rfl⟩;rw[<-hy,<-hz]at h0;have H2:(txtT [z,y]).size=2:=by rw[pR];rfl
   obtain⟨S,hS⟩:∃S,S=txtT (kbR (l.take k)):=⟨_,rfl⟩;obtain⟨T,hT⟩:∃T,T=txtT [z,y]:=⟨_,rfl⟩;rw[<-hS]at H3 h0⊢;rw[<-hT]at H2 h0;have e1:(x:Int) / 2 ^ 8=(y:Int):=by rw[hy];omega
   have e2:(x:Int) / 256=(y:Int):=by rw[hy];omega
   have e3:IntKind.u8.wrap (y:Int)=y:=IntWalk.u8_in _ (by omega)
   have e4:IntKind.u8.wrap (x:Int)=z:=by
    have:IntKind.u8.wrap (x:Int)=(x:Int) % 256:=by simp[IntKind.wrap,IntKind.bits,IntKind.signed]
    rw[this,hz];omega
   have H4:Hid (Arr (wr.alloc (.cells #[.int .u8 (z:Int),.int .u8 (y:Int)] 5)) wr.heap.size 5 (([z,y].map fun(x:Nat)=>(x:Int)).map (Value.int .u8))):=Kh (Arr.new wr 5 #[.int .u8 (z:Int),.int .u8 (y:Int)]);have H0:=oL 106 5 Try.underlying106 Try.underlying5 9 Try.underlying9 2 2 rfl H4.out;rw[show strOfNums ([z,y].map fun(x:Nat)=>(x:Int))=T from hT.symm]at H0;have h8:¬(9223372036854775807<S.size+T.size):=(by omega);clear h2 h5 h4 h1 hx hy hz hS hT;go_wp2;go_roundg (n-(k+1))
   case measure=>have:=HG.out;omega
   case rel=>exact⟨k+1,by have:=HG.out;omega,by go_num,by rw[h0.out],zA h6.out (Ga wr _ none) (by simp)⟩
  ·have h3:k=n:=by have:=HG.out;omega
   have h9:¬(k:Int)<n:=(by omega);have HE:Hid (l.take k=l):=Kh (by rw[h3,<-HS.out.1];exact List.take_length);clear h3 h1;go_wp2;go_ret;exact⟨by rw[HE.out];rfl,h6.out⟩
end Go.Proofs.Ytjfdomfendbhfaa
namespace Go.Proofs.Ytjfdomfendbhfaa
section
variable {α:Type} (nxt:α->Nat->α) (k:Nat) (s0:α)
def sM (x:α)(w:List Nat):α:=w.foldl nxt x
structure BfsI (l:List α)(i a:Nat):Prop where
 nd:l.Nodup
 hd:l[0]?=some s0
 le:i<=l.length
 cl:∀j x,j<i->l[j]?=some x->∀b,b<k->nxt x b∈l
 row:∀x,l[i]?=some x->∀b,b<a->b<k->nxt x b∈l
 re:∀x∈l,∃w,yO k w/\sM nxt s0 w=x
variable {nxt k s0}
theorem BfsI.start:BfsI nxt k s0 [s0] 0 0 :=
 ⟨by simp,rfl,by simp,fun j x h=>by omega,fun x _ b hb=>by omega,fun x hx=>⟨[],fun a ha=>by simp at ha,by simp at hx;exact hx.symm⟩⟩
theorem BfsI.old {l:List α}{i a:Nat}(h:BfsI nxt k s0 l i a){x:α}(hx:l[i]?=some x)(hm:nxt x a∈l):BfsI nxt k s0 l i (a+1) :=
 ⟨h.nd,h.hd,h.le,h.cl,fun y hy b hb hbk=>by
  rcases Nat.lt_succ_iff_lt_or_eq.1 hb with hb|rfl
  ·exact h.row y hy b hb hbk
  ·rw[hx]at hy;rw[<-Oj hy];exact hm,h.re⟩
theorem BfsI.new {l:List α}{i a:Nat}(h:BfsI nxt k s0 l i a)(ha:a<k){x:α}(hx:l[i]?=some x)(hm:nxt x a ∉ l):BfsI nxt k s0 (l++[nxt x a]) i (a+1):=by
 have hi:i<l.length:=(List.getElem?_eq_some_iff.1 hx).1;have h0:∀j,j<l.length->(l++[nxt x a])[j]?=l[j]?:=fun j hj=>List.getElem?_append_left hj;refine⟨?_,?_,by simp;omega,fun j y hj hy b hb=>?_,fun y hy b hb hbk=>?_,fun y hy=>?_⟩
 ·rw[List.nodup_append]
  exact⟨h.nd,by simp,fun y hy z hz e=>by simp at hz;subst hz;subst e;exact hm hy⟩
 ·rw[h0 0 (by omega)];exact h.hd
 ·rw[h0 j (by omega)]at hy
  exact List.mem_append_left _ (h.cl j y hj hy b hb)
 ·rw[h0 i hi]at hy
  rcases Nat.lt_succ_iff_lt_or_eq.1 hb with hb|rfl
  ·exact List.mem_append_left _ (h.row y hy b hb hbk)
  ·rw[hx]at hy;rw[<-Oj hy];simp
 ·rcases List.mem_append.1 hy with hy|hy
  ·exact h.re y hy
  ·simp at hy
   subst hy;obtain⟨w,hw,e⟩:=h.re x (List.mem_of_getElem? hx);refine⟨w++[a],fun b hb=>?_,?_⟩
   ·rcases List.mem_append.1 hb with hb|hb
    ·exact hw b hb
    ·simp at hb;omega
   ·simp[sM]at e⊢;rw[e]
theorem BfsI.next {l:List α}{i:Nat}(h:BfsI nxt k s0 l i k)(hi:i<l.length):BfsI nxt k s0 l (i+1) 0 :=
 ⟨h.nd,h.hd,hi,fun j x hj hx b hb=>by
  rcases Nat.lt_succ_iff_lt_or_eq.1 hj with hj|rfl
  ·exact h.cl j x hj hx b hb
  ·exact h.row x hx b hb hb,fun x _ b hb=>by omega,h.re⟩
structure BfsD (nxt:α->Nat->α)(k:Nat)(s0:α)(l:List α):Prop where
 nd:l.Nodup
 hd:l[0]?=some s0
 cl:∀x∈l,∀b,b<k->nxt x b∈l
 re:∀x∈l,∃w,yO k w/\sM nxt s0 w=x
theorem BfsI.done {l:List α}{i:Nat}(h:BfsI nxt k s0 l i 0)(hi:¬i<l.length):BfsD nxt k s0 l :=
 ⟨h.nd,h.hd,fun x hx b hb=>by
  obtain⟨j,hj,e⟩:=List.getElem_of_mem hx
  exact h.cl j x (by omega) (by rw[List.getElem?_eq_getElem hj,e]) b hb,h.re⟩
theorem BfsD.all {l:List α}(h:BfsD nxt k s0 l):∀(w:List Nat) {x:α},x∈l->yO k w->sM nxt x w∈l
 | [],x,hx,_=>hx
 | a::w,x,hx,hw=>BfsD.all h w (h.cl x hx a (hw a (by simp))) (fun b hb=>hw b (List.mem_cons_of_mem _ hb))
theorem BfsD.mem0 {l:List α}(h:BfsD nxt k s0 l):s0∈l:=List.mem_of_getElem? h.hd
theorem BfsD.sub {l:List α}(h:BfsD nxt k s0 l){m:List α}(hm:m.Nodup)(hr:∀x∈m,∃w,yO k w/\sM nxt s0 w=x):m.length<=l.length :=
 hm.length_le_of_subset fun x hx=>by
  obtain⟨w,hw,rfl⟩:=hr x hx
  exact h.all w h.mem0 hw
def sL {α:Type}[BEq α](nxt:α->Nat->α)(k:Nat)(l:List α)(x:α):List Int:=(List.range k).map fun a=>((l.idxOf (nxt x a):Nat):Int)
def bfsA {α:Type}[BEq α](nxt:α->Nat->α)(k:Nat)(fin:α->Bool)(l:List α):DfaV:=⟨k,0,l.map fin,l.map (sL nxt k l)⟩
theorem bfsRow_more [BEq α][LawfulBEq α]{l m:List α}{x:α}(h:∀b,b<k->nxt x b∈l):sL nxt k (l++m) x=sL nxt k l x:=by
 refine List.map_congr_left fun a ha=>?_;rw[List.idxOf_append,if_pos (h a (List.mem_range.1 ha))]
variable {fin:α->Bool}
theorem jR [BEq α]{l:List α}{i:Nat}(hi:i<l.length):(bfsA nxt k fin l).next.getD i []=sL nxt k l l[i]:=by
 show (l.map (sL nxt k l)).getD i []=_;rw[zG (by simpa using hi)];simp
theorem bfsA_nx [BEq α]{l:List α}{i a:Nat}(hi:i<l.length)(ha:a<k):nx (bfsA nxt k fin l) i a=l.idxOf (nxt l[i] a):=by
 unfold nx entN ent;rw[jR hi,sL,zG (by simpa using ha)];simp
theorem BfsD.vd [BEq α][LawfulBEq α]{l:List α}(h:BfsD nxt k s0 l)(h1:1<=k)(h6:k<=6)(hl:l.length<=4194304):VD (bfsA nxt k fin l) l.length k:=by
 have h0:0<l.length:=(List.getElem?_eq_some_iff.1 h.hd).1;have hr:∀q,q<l.length->((bfsA nxt k fin l).next.getD q []).length=k:=fun q hq=>by rw[jR hq];simp[sL]
 refine⟨rfl,h1,h6,by simp[bfsA],h0,hl,by simp[bfsA],by show (0:Int)<=0;omega,by show (0:Int)<_;omega,hr,fun q a hq ha=>?_,fun q a hq ha=>?_⟩
 ·unfold ent
  rw[jR hq,sL,zG (by simpa using ha)];simp
 ·unfold ent
  rw[jR hq,sL,zG (by simpa using ha)];simp only[List.getElem_map,List.getElem_range];have:=List.idxOf_lt_length_of_mem (h.cl l[q] (List.getElem_mem hq) a ha);omega
theorem BfsD.run [BEq α][LawfulBEq α]{l:List α}(h:BfsD nxt k s0 l):∀(w:List Nat) {i:Nat} (hi:i<l.length),yO k w->Go.Proofs.Ytjfdomfendbhfaa.run (bfsA nxt k fin l) i w=l.idxOf (sM nxt l[i] w)
 | [],i,hi,_=>by
  show i=l.idxOf l[i]
  exact(h.nd.idxOf_getElem i hi).symm
 | a::w,i,hi,hw=>by
  have ha:=hw a (by simp)
  have hm:=h.cl l[i] (List.getElem_mem hi) a ha
  have hj:=List.idxOf_lt_length_of_mem hm
  show Go.Proofs.Ytjfdomfendbhfaa.run (bfsA nxt k fin l) (nx (bfsA nxt k fin l) i a) w=_
  rw[bfsA_nx hi ha,BfsD.run h w hj (fun b hb=>hw b (List.mem_cons_of_mem _ hb)),List.getElem_idxOf]
  rfl
theorem BfsD.acc [BEq α][LawfulBEq α]{l:List α}(h:BfsD nxt k s0 l){w:List Nat}(hw:yO k w):Go.Proofs.Ytjfdomfendbhfaa.acc (bfsA nxt k fin l) (st0 (bfsA nxt k fin l)) w=fin (sM nxt s0 w):=by
 obtain⟨h0,e⟩:=List.getElem?_eq_some_iff.1 h.hd;show (l.map fin).getD (Go.Proofs.Ytjfdomfendbhfaa.run (bfsA nxt k fin l) 0 w) false=_;rw[h.run w h0 hw,e];have hm:=h.all w h.mem0 hw;have hj:=List.idxOf_lt_length_of_mem hm;rw[zG (by simpa using hj)];simp[List.getElem_map]
end
theorem jO:∀(n:Nat) (l:List (List Bool)),l.Nodup->(∀x∈l,x.length=n)->l.length<=2 ^ n
 | 0,l,hn,hl=>by
  have:l ⊆ [[]]:=fun x hx=>by simp[List.eq_nil_of_length_eq_zero (hl x hx)]
  simpa using hn.length_le_of_subset this
 | n+1,l,hn,hl=>by
  have key:∀b:Bool,(l.filter fun x=>x.headD false == b).length<=2 ^ n:=fun b=>by
   have h0:∀x∈l.filter (fun x=>x.headD false == b),x=b::x.tail/\x.length=n+1:=fun x hx=>by
    obtain⟨h1,h2⟩:=List.mem_filter.1 hx
    have h3:=hl x h1
    cases x with
    | nil=>simp at h3
    | cons c x=>simp at h2;exact⟨by rw[h2];rfl,h3⟩
   have h1:=jO n ((l.filter fun x=>x.headD false == b).map List.tail) (by
    rw[List.Nodup,List.pairwise_map]
    refine List.Pairwise.imp_of_mem ?_ (hn.filter _)
    intro x y hx hy hne e
    exact hne (by rw[(h0 x hx).1,(h0 y hy).1,e])) (fun x hx=>by
    obtain⟨y,hy,rfl⟩:=List.mem_map.1 hx
    rw[List.length_tail,(h0 y hy).2];omega)
   rwa [List.length_map]at h1
  have h1:=key true
  have h2:=key false
  have h3:∀l:List (List Bool),l.length=(l.filter fun x=>x.headD false == true).length+(l.filter fun x=>x.headD false == false).length:=fun l=>by
   induction l with
   | nil=>rfl
   | cons x l ih =>
    rw[List.filter_cons,List.filter_cons]
    generalize x.headD false=b
    cases b
    ·rw[if_neg (by decide),if_pos (by decide),List.length_cons,List.length_cons];omega
    ·rw[if_pos (by decide),if_neg (by decide),List.length_cons,List.length_cons];omega
  have:=h3 l
  rw[Nat.pow_succ];omega
def nxtT (ds:List DfaV)(x:List Nat)(a:Nat):List Nat:=(List.range ds.length).map fun i=>nx (ds.getD i ⟨0,0,[],[]⟩) (x.getD i 0) a
def st0T (ds:List DfaV):List Nat:=ds.map st0
def dN:DfaV:=⟨0,0,[],[]⟩
theorem oT (ds:List DfaV)(x:List Nat)(a:Nat):(nxtT ds x a).length=ds.length:=by simp[nxtT]
theorem sR (ds:List DfaV):(st0T ds).length=ds.length:=by simp[st0T]
theorem gR {ds:List DfaV}{x:List Nat}{a i:Nat}(hi:i<ds.length):(nxtT ds x a).getD i 0=nx (ds.getD i dN) (x.getD i 0) a:=by
 rw[zG (by rw[oT];exact hi)];simp[nxtT,dN]
theorem gM {ds:List DfaV}{i:Nat}(hi:i<ds.length):(st0T ds).getD i 0=st0 (ds.getD i dN):=by
 rw[zG (by rw[sR];exact hi),zG hi];simp[st0T]
theorem qAY {ds:List DfaV}{i:Nat}(hi:i<ds.length):∀(w:List Nat) (x:List Nat),(sM (nxtT ds) x w).getD i 0=run (ds.getD i dN) (x.getD i 0) w
 | [],x=>rfl
 | a::w,x=>by
  show (sM (nxtT ds) (nxtT ds x a) w).getD i 0=run (ds.getD i dN) (nx (ds.getD i dN) (x.getD i 0) a) w
  rw[qAY hi w,gR hi]
def accT (ds:List DfaV)(x:List Nat)(i:Nat):Bool:=(ds.getD i dN).final.getD (x.getD i 0) false
theorem uM {ds:List DfaV}{i:Nat}(hi:i<ds.length)(w:List Nat):accT ds (sM (nxtT ds) (st0T ds) w) i=acc (ds.getD i dN) (st0 (ds.getD i dN)) w:=by
 unfold accT acc;rw[qAY hi,gM hi]
def OkT (ds:List DfaV)(k:Nat):Prop:=∀i,i<ds.length->∃n,VD (ds.getD i dN) n k/\n<=512
def InT (ds:List DfaV)(x:List Nat):Prop:=x.length=ds.length/\∀i,i<ds.length->x.getD i 0<(ds.getD i dN).final.length
theorem OkT.in0 {ds:List DfaV}{k:Nat}(h:OkT ds k):InT ds (st0T ds):=⟨sR ds,fun i hi=>by
 obtain⟨n,hv,_⟩:=h i hi
 rw[gM hi,hv.hn];exact pU hv⟩
theorem OkT.next {ds:List DfaV}{k:Nat}(h:OkT ds k){x:List Nat}(hx:InT ds x){a:Nat}(ha:a<k):InT ds (nxtT ds x a):=⟨oT ds x a,fun i hi=>by
 obtain⟨n,hv,_⟩:=h i hi
 have h1:=hx.2 i hi
 rw[hv.hn]at h1⊢
 rw[gR hi];exact mA hv h1 ha⟩
theorem OkT.small {ds:List DfaV}{k:Nat}(h:OkT ds k){x:List Nat}(hx:InT ds x):∀i,i<ds.length->x.getD i 0<512:=fun i hi=>by
 obtain⟨n,hv,h5⟩:=h i hi
 have h1:=hx.2 i hi
 rw[hv.hn]at h1;omega
theorem OkT.walk {ds:List DfaV}{k:Nat}(h:OkT ds k):∀(w:List Nat) {x:List Nat},InT ds x->yO k w->InT ds (sM (nxtT ds) x w)
 | [],x,hx,_=>hx
 | a::w,x,hx,hw=>OkT.walk h w (h.next hx (hw a (by simp))) (fun b hb=>hw b (List.mem_cons_of_mem _ hb))
def qIK (ds:List DfaV)(k:Nat):Prop:=∃l,BfsD (nxtT ds) k (st0T ds) l/\l.length<=4000
def Over (ds:List DfaV)(k:Nat):Prop:=∃l:List (List Nat),l.Nodup/\(∀x∈l,∃w,yO k w/\sM (nxtT ds) (st0T ds) w=x)/\4000<l.length
theorem rX {ds:List DfaV}{k:Nat}(h:qIK ds k)(h':Over ds k):False:=by
 obtain⟨l,hl,h1⟩:=h;obtain⟨m,hm,hr,h2⟩:=h';have:=hl.sub hm hr;omega
theorem BfsI.over {ds:List DfaV}{k i a:Nat}{l:List (List Nat)}(h:BfsI (nxtT ds) k (st0T ds) l i a)(hl:l.length=4000)(ha:a<k){x:List Nat}(hx:l[i]?=some x)(hm:nxtT ds x a ∉ l):Over ds k:=by
 have:=h.new ha hx hm;exact⟨_,this.nd,this.re,by simp;omega⟩
def Conf (ds:List DfaV)(np k:Nat):Prop:=∃u v,yO k u/\yO k v/\(∀i,i<np->acc (ds.getD i dN) (st0 (ds.getD i dN)) u=acc (ds.getD i dN) (st0 (ds.getD i dN)) v)/\acc (ds.getD np dN) (st0 (ds.getD np dN)) u=true/\acc (ds.getD np dN) (st0 (ds.getD np dN)) v=false
def mtsT (ds:List DfaV)(np:Nat)(x:List Nat):List Bool:=(List.range np).map fun i=>accT ds x i
theorem qG (ds:List DfaV)(np:Nat)(x:List Nat):(mtsT ds np x).length=np:=by simp[mtsT]
theorem gS {ds:List DfaV}{np i:Nat}{x:List Nat}(hi:i<np):(mtsT ds np x).getD i false=accT ds x i:=by
 rw[zG (by rw[qG];exact hi)];simp[mtsT]
theorem qHB {ds:List DfaV}{np:Nat}{x y:List Nat}:mtsT ds np x=mtsT ds np y↔∀i,i<np->accT ds x i=accT ds y i:=by
 constructor
 ·intro h i hi
  rw[<-gS hi,h,gS hi]
 ·intro h
  exact List.map_congr_left fun i hi=>h i (List.mem_range.1 hi)
theorem lE {ds:List DfaV}{np k:Nat}(hn:np<ds.length){l:List (List Nat)}(h:BfsD (nxtT ds) k (st0T ds) l):Conf ds np k↔∃x y,x∈l/\y∈l/\mtsT ds np x=mtsT ds np y/\accT ds x np=true/\accT ds y np=false:=by
 constructor
 ·rintro ⟨u,v,hu,hv,h1,h2,h3⟩
  refine⟨_,_,h.all u h.mem0 hu,h.all v h.mem0 hv,qHB.2 fun i hi=>?_,?_,?_⟩
  ·rw[uM (by omega),uM (by omega)];exact h1 i hi
  ·rw[uM hn];exact h2
  ·rw[uM hn];exact h3
 ·rintro ⟨x,y,hx,hy,h1,h2,h3⟩
  obtain⟨u,hu,rfl⟩:=h.re x hx;obtain⟨v,hv,rfl⟩:=h.re y hy;refine⟨u,v,hu,hv,fun i hi=>?_,?_,?_⟩
  ·have:=qHB.1 h1 i hi
   rwa [uM (by omega),uM (by omega)]at this
  ·rwa [uM hn]at h2
  ·rwa [uM hn]at h3
open Go.Maps Go.RowKit
theorem eH {els:List (List Nat)}{f:List Nat}(h:f∈els):numE els f=some (els.idxOf f):=if_pos h
theorem qEV {els:List (List Nat)}{f:List Nat}(h:f ∉ els):numE els f=none:=if_neg h
inductive ProdS (w0:World)(B o mb k np:Nat)(pv:Value)(L:List (List Nat))(nxl fr bl:List Nat)(m q:Nat)(tl:List RowS)(w:World):Prop
 | mk (X:Nat->Prop) (hs:List Value) (sS sN sF sB:Option Addr) (cS cN cF cB u c:Nat)
  (hB:BoxS B X o 111 w0 w (⟨B,34,.slice sS m cS,m,hs,1⟩::⟨B,3,.slice sN q cN,q,nats nxl,1⟩::⟨B,3,.slice sF m cF,m,nats fr,1⟩::⟨B,3,.slice sB m cB,m,nats bl,1⟩::tl) #[.int .i64 (k:Int),pv,.slice sS m cS,.slice sN q cN,.slice sF m cF,.slice sB m cB] w)
  (hE:uP X 3 nats w hs L) (hM:MapK 9 (qM np) (fun l=>.string (txtT (kb l))) w mb u c (numE L)) (hmx:¬X mb) (hmb:w0.heap.size<=mb) (hu:u<=m)
  (hl:L.length=m/\nxl.length=q/\fr.length=m/\bl.length=m) (hhs:hs.length=m)
section
variable {w0 w w':World} {B o mb k np m q:Nat} {pv:Value} {L:List (List Nat)} {nxl fr bl:List Nat} {tl:List RowS}
theorem ProdS.grow (h:ProdS w0 B o mb k np pv L nxl fr bl m q tl w)(hg:w.grownBy w' none):ProdS w0 B o mb k np pv L nxl fr bl m q tl w':=by
 obtain⟨X,hs,sS,sN,sF,sB,cS,cN,cF,cB,u,c,hB,hE,hM,h0,h1,hu,hl,h3⟩:=h;have h2:=hB.mem.keep hg;exact⟨X,hs,sS,sN,sF,sB,cS,cN,cF,cB,u,c,(hB.grow hg).rebase,hE.kept h2 hg.size,hM.kept hg (by simp),h0,h1,hu,hl,h3⟩
theorem ProdS.facts (h:ProdS w0 B o mb k np pv L nxl fr bl m q tl w):w0.grownBy w none/\B<=w.heap.size/\w0.heap.size<=B/\w0.heap.size<=o/\o<w.heap.size/\L.length=m/\nxl.length=q:=by
 obtain⟨X,hs,sS,sN,sF,sB,cS,cN,cF,cB,u,c,hB,hE,hM,h0,h1,hu,hl,h2⟩:=h;exact⟨hB.grown,Nat.le_trans hB.base hB.wk,hB.size,hB.old,zK hB.box,hl.1,hl.2.1⟩
theorem ProdS.cells (h:ProdS w0 B o mb k np pv L nxl fr bl m q tl w):∃sS cS sN cN sF cF sB cB,w.heap[o]?=some (.cells #[.int .i64 (k:Int),pv,.slice sS m cS,.slice sN q cN,.slice sF m cF,.slice sB m cB] 111 (0,0))/\(0<m->∃sb,sS=some ⟨sb,0,none⟩/\m<=cS/\cS<=maxLen/\∀i,i<m->L.getD i []≠[]->∃g off cap,w.cell? ⟨sb,i,none⟩=some (.slice (some ⟨g,off,none⟩) (L.getD i []).length cap)/\(L.getD i []).length<=cap/\cap<=maxLen/\∀j,j<(L.getD i []).length->w.cell? ⟨g,off+j,none⟩=some (.int .i64 (((L.getD i []).getD j 0:Nat):Int))):=by
 obtain⟨X,hs,sS,sN,sF,sB,cS,cN,cF,cB,u,c,hB,hE,hM,h9,H0,hu,hl,H1⟩:=h;refine⟨sS,cS,sN,cN,sF,cF,sB,cB,hB.box,fun h0=>?_⟩;have ho:=hB.own (r:=⟨B,34,.slice sS m cS,m,hs,1⟩) (by simp);simp only at ho;obtain⟨sb,rfl,h1,h2,ha⟩:=yG ho h0;refine⟨sb,rfl,h1,h2,fun i hi hne=>?_⟩;have h4:i<hs.length:=by omega
 have hr:=hE.2 i h4 (by omega);have h6:L.getD i []=L[i]'(by omega):=zG (by omega)
 have h3:0<(nats (L[i]'(by omega))).length:=by
  rw[zW,<-h6];exact List.length_pos_iff.2 hne
 rw[h6];obtain⟨g,off,cap,e,H2,h5,h8,h7⟩:=hr.1.row.some_ h3;rw[zW]at e h5;refine⟨g,off,cap,?_,h5,h8,fun j hj=>h7.nat j hj⟩;rw[ha.cell i h4,e]
theorem ProdS.map (h:ProdS w0 B o mb k np pv L nxl fr bl m q tl w):∃u c,u<=m/\MapK 9 (qM np) (fun l=>.string (txtT (kb l))) w mb u c (numE L):=by
 obtain⟨X,hs,sS,sN,sF,sB,cS,cN,cF,cB,u,c,hB,hE,hM,h0,h1,hu,hl,h2⟩:=h;exact⟨u,c,hu,hM⟩
theorem ProdS.addRow (h:ProdS w0 B o mb k np pv L nxl fr bl m q [] w)(hg:w.grownBy w' none){e sz n:Nat}{v:Value}{xs:List Value}(ho:w'.ownsRow w.heap.size e sz v n xs)(he:e≠111):ProdS w0 B o mb k np pv L nxl fr bl m q (⟨B,e,v,n,xs,sz⟩::[]) w':=by
 obtain⟨X,hs,sS,sN,sF,sB,cS,cN,cF,cB,u,c,hB,hE,hM,h0,h1,hu,hl,h3⟩:=h;have h2:=hB.mem.keep hg;exact⟨X,hs,sS,sN,sF,sB,cS,cN,cF,cB,u,c,(hB.add hg ho he).rebase,hE.kept h2 hg.size,hM.kept hg (by simp),h0,h1,hu,hl,h3⟩
theorem ProdS.arr {e rb n cap:Nat}{xs:List Value}(h:ProdS w0 B o mb k np pv L nxl fr bl m q (⟨B,e,.slice (some ⟨rb,0,none⟩) n cap,n,xs,1⟩::[]) w):Arr w rb e xs:=by
 obtain⟨X,hs,sS,sN,sF,sB,cS,cN,cF,cB,u,c,hB,hE,hM,h0,h1,hu,hl,h2⟩:=h;exact Arr.of_owns (hB.own (r:=⟨B,e,.slice (some ⟨rb,0,none⟩) n cap,n,xs,1⟩) (by simp))
theorem ProdS.put {e rb n cap i:Nat}{xs:List Value}(h:ProdS w0 B o mb k np pv L nxl fr bl m q (⟨B,e,.slice (some ⟨rb,0,none⟩) n cap,n,xs,1⟩::[]) w)(hi:i<n)(y:Value):ProdS w0 B o mb k np pv L nxl fr bl m q (⟨B,e,.slice (some ⟨rb,0,none⟩) n cap,n,xs.set i y,1⟩::[]) (w.setCell ⟨rb,i,none⟩ y):=by
 obtain⟨X,hs,sS,sN,sF,sB,cS,cN,cF,cB,u,c,hB,hE,hM,h2,h3,hu,hl,h5⟩:=h;have hP:=hB.put (j:=4) rfl hi y;have h4:=hP.kept;have h0:=hP.wk
 have h1:rb≠mb:=fun e1=>by
  subst e1;exact yL (es:=#[]) (clock:=0) (hB.own (r:=⟨B,e,.slice (some ⟨rb,0,none⟩) n cap,n,xs,1⟩) (by simp)) hM.obj rfl
 exact⟨X,hs,sS,sN,sF,sB,cS,cN,cF,cB,u,c,hP.rebase,hE.kept h4 h0,hM.kept (zC w ⟨rb,i,none⟩ y) (fun e=>h1 (Oj e)),h2,h3,hu,hl,h5⟩
end
end Go.Proofs.Ytjfdomfendbhfaa
namespace Go.Proofs.Ytjfdomfendbhfaa
open Go.RowKit
theorem Mat.of_rowT {w:World}{B e:Nat}{v:Value}{hs:List Value}{t:List (List Int)}(h:RowT B e w v hs)(hr:wK B 3 ints w hs t)(hB:B<=w.heap.size):Mat w.heap.size w v t:=by
 have h0:=hr.1;rcases h with ⟨rfl,rfl⟩|⟨b,off,cap,cur,m,rfl,hb,hc1,hc2,hg,hcell⟩
 ·exact .inl ⟨_,_,rfl,List.eq_nil_of_length_eq_zero (by simpa using h0.symm)⟩
 ·have h3:∀x,∃a c,x<t.length->hs.getD x (.int .i64 0)=.slice a (t.getD x []).length c:=by
   intro x;by_cases hx:x<t.length
   ·have h1:=hr.2 x (by omega) hx
    obtain⟨a,c,e⟩:=h1.shape;refine⟨a,c,fun _=>?_⟩;rw[zG (by omega),e,yE,zG hx]
   ·exact⟨none,0,fun h=>absurd h hx⟩
  obtain⟨A,hA⟩:=Classical.axiomOfChoice h3;obtain⟨C,hC⟩:=Classical.axiomOfChoice hA;refine .inr ⟨b,off,cap,A,C,by rw[h0],by omega,hc2,zK hg,zK hg,fun x hx=>?_,fun x hx=>?_⟩
  ·rw[cell_of_row w b (off+x) _ _ _ hg,hcell x (by omega),<-hC x hx,zG (show x<hs.length by omega)]
  ·have h1:=hr.2 x (by omega) hx
   have h2:=hC x hx;rw[zG (show x<hs.length by omega)]at h2;rw[<-h2,zG hx];exact h1.row.mono hB
def DfaT (w:World)(f nx:Value)(d:DfaV):Prop:=∃hs,RowT w.heap.size 4 w f (bls d.final)/\RowT w.heap.size 34 w nx hs/\wK w.heap.size 3 ints w hs d.next
section
variable {w w':World} {f nx:Value} {d:DfaV}
theorem DfaT.kept {row:Option Nat}(h:DfaT w f nx d)(hg:w.grownBy w' row)(h1:∀k,row=some k->zX w 4 k/\zX w 34 k/\zX w 3 k):DfaT w' f nx d:=by
 obtain⟨hs,a,b,c⟩:=h;exact⟨hs,(a.kept hg (fun k hk=>.inr (h1 k hk).1)).mono hg.size,(b.kept hg (fun k hk=>.inr (h1 k hk).2.1)).mono hg.size,(c.kept hg (fun k hk=>.inr (h1 k hk).2.2)).mono hg.size⟩
theorem DfaT.grow (h:DfaT w f nx d)(hg:w.grownBy w' none):DfaT w' f nx d:=h.kept hg (by simp)
theorem DfaT.zero (w:World):DfaT w (.slice none 0 0) (.slice none 0 0) jV:=⟨[],.inl ⟨rfl,rfl⟩,.inl ⟨rfl,rfl⟩,wK.nil⟩
theorem DfaT.ok (h:DfaT w f nx d):tE w.heap.size w (.agg #[.int .i64 d.letters,.int .i64 d.start,f,nx]) d:=by
 obtain⟨hs,a,b,c⟩:=h;exact⟨_,_,rfl,a.row,Mat.of_rowT b c (Nat.le_refl _)⟩
end
theorem oE.t {w w':World}{v:Value}{m:DfaV}(h:oE w w' v m):∃f nx,v=.agg #[.int .i64 m.letters,.int .i64 m.start,f,nx]/\DfaT w' f nx m:=by
 obtain⟨o,hs,sf,cf,sn,cn,rfl,_,hb⟩:=h;exact⟨_,_,rfl,hs,RowT.of_owns hb.ownF,RowT.of_owns hb.ownN,hb.rows⟩
def dZ (w:World)(E:Int)(m:DfaV)(e:Ending)(w':World):Prop:=∃f nx,e=.returned (.tuple #[.agg #[.int .i64 m.letters,.int .i64 m.start,f,nx],.int .i64 E])/\DfaT w' f nx m/\w.grownBy w' none
def sQ (bs:List ByteArray):Nat:=(bs.map (·.size)).sum
def tB (n:Nat)(letters:Int)(i:Nat)(u:ByteArray):Bool:=zU u letters && !(decide (0<i/\i+1<n) && u.toList.isEmpty)
def vK (n:Nat)(letters:Int):Nat->List ByteArray->Bool
 | _,[]=>true
 | i,u::us=>tB n letters i u && vK n letters (i+1) us
def yT (bs:List ByteArray)(letters:Int):Int :=
 if letters<1\/6<letters then 1 else if 8<bs.length then 3 else if 64<sQ bs then 3
 else if bs.length=0 then 22 else if vK bs.length letters 0 bs then 0 else 22
theorem cU (bs:List ByteArray)(k:Nat)(hk:k<bs.length):sQ (bs.take (k+1))=sQ (bs.take k)+bs[k].size:=by
 rw[List.take_succ_eq_append_getElem hk];simp only[sQ,List.map_append,List.sum_append];simp
theorem eB (bs:List ByteArray)(letters:Int)(j:Nat)(hj:j<bs.length):vK bs.length letters j (bs.drop j)=(tB bs.length letters j bs[j] && vK bs.length letters (j+1) (bs.drop (j+1))):=by
 rw[List.drop_eq_getElem_cons hj];rfl
theorem fZ {bs:List ByteArray}{letters:Int}{j:Nat}(hj:j<bs.length)(hb:tB bs.length letters j bs[j]=true)(h:vK bs.length letters j (bs.drop j)=vK bs.length letters 0 bs):vK bs.length letters (j+1) (bs.drop (j+1))=vK bs.length letters 0 bs:=by
 rw[<-h,eB bs letters j hj,hb,Bool.true_and]
theorem bN {bs:List ByteArray}{letters:Int}{j:Nat}(hj:j<bs.length)(hb:tB bs.length letters j bs[j]=false)(h:vK bs.length letters j (bs.drop j)=vK bs.length letters 0 bs):vK bs.length letters 0 bs=false:=by
 rw[<-h,eB bs letters j hj,hb,Bool.false_and]
theorem eC {n j:Nat}{letters:Int}{u:ByteArray}(h1:zU u letters=true)(h2:(j=0\/¬(j:Int)<n-1)\/u.toList.isEmpty=false):tB n letters j u=true:=by
 unfold tB;rcases h2 with h2|h2
 ·have:decide (0<j/\j+1<n)=false:=by simp;omega
  simp[h1,this]
 ·simp[h1,h2]
theorem eE {n j:Nat}{letters:Int}{u:ByteArray}(h1:¬zU u letters=true):tB n letters j u=false:=by
 simp[tB,h1]
theorem eD {n j:Nat}{letters:Int}{u:ByteArray}(h:0<j)(h1:(j:Int)<n-1)(h2:u.toList.isEmpty=true):tB n letters j u=false:=by
 have:decide (0<j/\j+1<n)=true:=by simp;omega
 simp[tB,this,h2]
theorem lR {bs:List ByteArray}{letters:Int}(h1:¬letters<1)(h2:¬6<letters)(h3:¬8<bs.length)(h4:¬64<sQ bs)(h5:¬bs.length=0):
  yT bs letters=if vK bs.length letters 0 bs then 0 else 22:=by
 unfold yT;rw[if_neg (by omega),if_neg h3,if_neg h4,if_neg h5]
end Go.Proofs.Ytjfdomfendbhfaa
