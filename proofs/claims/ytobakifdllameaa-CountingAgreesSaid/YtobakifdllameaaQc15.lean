/- Part 15 of the proof. -/
import Derived.Test.YtobakifdllameaaQc14
import Derived.Deep.OwnRows
set_option linter.unusedVariables false
set_option linter.unusedSimpArgs false
set_option maxRecDepth 100000
set_option maxHeartbeats 16000000
namespace Go.Proofs.Ytobakifdllameaa
open Go.Maps Go.RowKit
def qTO (w:World)(m:DfaV)(e:Ending)(w':World):Prop:=∃v sv,e=.returned (.tuple #[v,sv])/\sC w w' v m/\w.grownBy w' none
def fE (d:DfaV)(p:List Nat)(k q x:Nat):List Nat:=(List.range x).map (fun a=>p.getD (nx d q a) 0)++List.replicate (k-x) 0
theorem mY {d:DfaV}{p:List Nat}{k q x:Nat}(h:x<=k):(fE d p k q x).length=k:=by simp[fE];omega
theorem qKZ {d:DfaV}{p:List Nat}{k q x:Nat}(h:x<k):(fE d p k q x).set x (p.getD (nx d q x) 0)=fE d p k q (x+1):=by
 unfold fE;rw[List.set_append_right _ _ (by simp),List.range_succ,List.map_append,show k-x=(k-(x+1))+1 by omega,List.replicate_succ];simp
theorem qHR {d:DfaV}{n k q:Nat}{p:List Nat}(hd:VD d n k)(hq:q<n):nats (fE d p k q k)=ints (uD p (d.next.getD q [])):=by
 have e:(fE d p k q k).map (fun(x:Nat)=>(x:Int))=uD p (d.next.getD q []):=by
  refine List.ext_getElem (by rw[List.length_map,mY (Nat.le_refl k),uD,List.length_map,hd.row q hq]) fun i h1 h2=>?_;have hi:i<k:=by rw[List.length_map,mY (Nat.le_refl k)]at h1;exact h1
  rw[<-zK (d:=0) h2,gF (by rw[hd.row q hq];exact hi)];simp[fE,hi,nx,entN,ent]
 rw[<-e];simp[nats,ints]
theorem qBW (B:Nat)(w:World)(v:Value)(d:DfaV)(n k:Nat)(hB:B<=w.heap.size)(h:sK B w v d)(hd:VD d n k)(h5:n<=512):Calls Try.prog 47 #[v] w (qTO w (minD (wN d k) k)):=by
 have c8:=h;obtain⟨fb,fo,fc,b,off,cap,RB,RO,RC,rfl,z2⟩:=h.at hd;have E0:=hd.n1;have E1:=hd.k6;have E2:=hd.k1;have i2:=mO hd;have z7:=(xV hd).2;obtain⟨T,hT⟩:=Nm (wN d k);obtain⟨N,hN⟩:=Nm ((yH d k).length);rw[<-hT,<-hN]at i2;rw[<-hN]at z7;rw[<-hT];have F2:=i2.n1;obtain⟨H0,o2,B7⟩:=K3 i2 hT hN;obtain⟨p,hp⟩:=Nm (yF T k);have e9:p.length=N:=by rw[hp,vD,i2.hn]
 have q6:Norm p:=by rw[hp];exact uE T k
 have f5:minD T k=wN (wQ T p) k:=by rw[hp];rfl
 obtain⟨HP,c4,o7⟩:=K3 hp q6 f5;obtain⟨S,hS⟩:=Nm (st0 d);have p9:dAgg k (st0 d) fb fo fc b off cap n=.agg #[.int .i64 (k:Int),.int .i64 (S:Int),.slice (some ⟨fb,fo,none⟩) n fc,.slice (some ⟨b,off,none⟩) n cap]:=by rw[hS];rfl
 rw[p9]at c8⊢;obtain⟨b7,j6,j2,p6⟩:=oS w #[.int .i64 (k:Int),.int .i64 (S:Int),.slice (some ⟨fb,fo,none⟩) n fc,.slice (some ⟨b,off,none⟩) n cap] #[.int .i64 0,.int .i64 0,.slice none 0 0,.slice none 0 0] 37;obtain⟨wA,m7⟩:=Nm ((w.alloc (.cells #[.int .i64 (k:Int),.int .i64 (S:Int),.slice (some ⟨fb,fo,none⟩) n fc,.slice (some ⟨b,off,none⟩) n cap] 37)).alloc (.cells #[.int .i64 0,.int .i64 0,.slice none 0 0,.slice none 0 0] 37));rw[<-m7]at b7 j6 j2 p6;obtain⟨c0,c1,c2,c3⟩:=zM b7;obtain⟨P,hP⟩:=Nm w.heap.size;obtain⟨Q,hQ⟩:=Nm (w.heap.size+1);have B4:=Kh hP;have B2:Hid (Q=P+1):=Kh (by omega);have F1:P<Q:=by omega
 have E8:Q<wA.heap.size:=by omega
 have F0:w.heap.size<=P:=by omega
 have A3:B<=wA.heap.size:=by omega
 rw[<-hQ]at j6;rw[<-hP]at b7 c0 c1 c2 c3 hB;obtain⟨t8,t7,C1,A6⟩:=K4 b7 j6 j2 m7;have i3:=Kh (qBS B wA _ d n k A3 (c8.kept j2 (by simp)) hd h5);clear b7 j6 j2 m7 z2 hd h c8 p9 hS p6 hP hQ hT hN hp q6 f5 i2;go_enter Try.func47,Try.ntmps47;go_upto_region 1 with fail;rw[<-A6.out,<-B4.out,<-B2.out];go_wp2_with fail;refine i3.out.mono ?_;rintro e w1 ⟨v1,G,rfl,⟨o,hs,sf,cf,sn,cn,rfl,ho,c9⟩,F5,s0,f7⟩;rw[<-o2.out]at c9⊢;have h6:T.letters=k:=H0.out.hk;have i1:T.start=0:=by rw[o2.out];rfl
 have m9:T.final.length=N:=H0.out.hn;have m8:T.next.length=N:=H0.out.nl
 have j4:sK w1.heap.size w1 (.agg #[.int .i64 (k:Int),.int .i64 0,.slice sf N cf,.slice sn N cn]) T:=by
  have:=c9.dfa;rw[h6,i1,m9,m8]at this;have e:(⟨(k:Int),0,T.final,T.next⟩:DfaV)=T:=by rw[<-h6,<-i1]
  rwa [e]at this
 rw[h6,i1,m9,m8];obtain⟨tfb,tfo,tfc,tb,toff,tcap,TRB,TRO,TRC,ev,a6⟩:=j4.at H0.out;have k8:(st0 T:Int)=0:=by rw[aL H0.out];exact i1
 rw[dAgg,k8,Value.agg.injEq]at ev;have ev:=congrArg Array.toList ev;simp only[List.cons.injEq,Value.slice.injEq,true_and,and_true]at ev;obtain⟨⟨rfl,rfl⟩,rfl,rfl⟩:=ev;have x8:=a6.fcap;have x9:=a6.cap;unfold maxLen at x8 x9;have H7:Hid (∀W:World,w1.grownBy W none->DAt w1.heap.size W T N k tfb tfo cf tb toff cn TRB TRO TRC):=Kh (fun W hg=>a6.kept hg (by simp));clear a6
 obtain⟨zs,k0,k2⟩:∃zs:List Int,Arr w1 G 3 (ints zs)/\zs.length=n/\∀q,q<n->zs.getD q 0 = -1\/∃i:Nat,i<N/\zs.getD q 0=(i:Int):=⟨_,s0,uB _ _,fun q hq=>by
  rw[bE hq,qR]
  split
  ·rename_i hm
   exact .inr ⟨_,by rw[B7.out];exact List.idxOf_lt_length_of_mem hm,rfl⟩
  exact .inl rfl⟩
 have A4:=Kh k2.2;have D2:=k2.1;obtain⟨T4,n0⟩:=Nm w1.heap.size;obtain⟨w2,k5⟩:=Nm (w1.alloc (.cells #[.int .i64 (k:Int),.int .i64 0,.slice (some ⟨tfb,tfo,none⟩) N cf,.slice (some ⟨tb,toff,none⟩) N cn] 37));have H8:=Ga w1 (.cells #[.int .i64 (k:Int),.int .i64 0,.slice (some ⟨tfb,tfo,none⟩) N cf,.slice (some ⟨tb,toff,none⟩) N cn] 37) none;have e7:=heap_alloc_new w1 (.cells #[.int .i64 (k:Int),.int .i64 0,.slice (some ⟨tfb,tfo,none⟩) N cf,.slice (some ⟨tb,toff,none⟩) N cn] 37);rw[<-k5]at H8 e7;rw[<-n0]at e7;have D5:=f7.size;have x1:=H8.size;have z4:=zQ e7;have E9:Q<T4:=by omega
 obtain⟨d0,d1,d2,d3⟩:=zM e7;have e4:=Kh (zB (zB t8.out f7) H8);have i7:=Kh (zB (zB t7.out f7) H8);obtain⟨t6,A8,A9⟩:=K3 e7 k5 n0;have s1:=Kh (k0.kept H8 (by simp));have E5:=k0.lt;have s9:=Kh (j4.kept H8 (by simp));have C6:=Kh (zC (zC C1.out f7) H8);have p0:=Kh H8;have t4:=Kh (qBZ w1.heap.size w2 _ T N k x1 (j4.kept H8 (by simp)) H0.out (by omega));clear c9 s0 h6 i1 m9 m8 j4 k0 k2 e7 k5 H8 f7 i3 t8 t7 c0 c1 c2 c3 n0;obtain⟨a0,a1,a2,a3⟩:=zM e4.out;go_upto_region 2 with fail;rw[<-A8.out,<-A9.out];go_wp2_with fail;refine t4.out.mono ?_;rintro e w3 ⟨G6,rfl,F6,h4,a4⟩;rw[<-HP.out]at h4⊢;rw[e9];have D4:=a4.size;have i9:=Kh (zB e4.out a4);have p3:=Kh (zB i7.out a4);have d9:=Kh (zB t6.out a4);have n9:=Kh (s1.out.kept a4 (by simp));have C7:=Kh (s9.out.kept a4 (by simp));have C5:=Kh (zC C6.out a4);have H6:=Kh (zC p0.out a4);have p5:=Kh h4;have A2:=h4.lt;clear t4 h4 a4 d0 d1 d2 d3 a0 a1 a2 a3 e4 i7 t6 s1 s9;obtain⟨a0,a1,a2,a3⟩:=zM i9.out;obtain⟨oQ,l5⟩:=Nm w3.heap.size;obtain⟨w5,k4⟩:=Nm (w3.alloc (.cells #[.int .i64 (k:Int),.int .i64 0,.slice none 0 0,.slice none 0 0] 37));have m0:=Ga w3 (.cells #[.int .i64 (k:Int),.int .i64 0,.slice none 0 0,.slice none 0 0] 37) none;have g0:=heap_alloc_new w3 (.cells #[.int .i64 (k:Int),.int .i64 0,.slice none 0 0,.slice none 0 0] 37);rw[<-k4]at m0 g0;rw[<-l5]at g0;have A7:=Kh k4;have B5:=Kh l5;have b3:Hid (BX w3 w5 oQ (fun _=>False) k (tY T p 0) (rS T p 0) [] none 0 none 0):=Kh (BX.start g0 (by omega) m0);have y2:=zQ g0;clear k4 l5 m0 g0;go_upto_region 4 with fail;rw[<-A7.out,<-B5.out];go_wp2_with fail
 go_loopg [8,9,10,11,12,30] N (fun gh a8 a9 a10 a11 a12 i wr=>∃(q:Nat) (X:Nat->Prop) (hs:List Value) (sf:Option Addr) (cf:Nat) (sn:Option Addr) (cn:Nat),gh+q=N/\i=.int .i64 q/\BX w3 wr oQ X k (tY T p q) (rS T p q) hs sf cf sn cn)
 case atStart=>exact⟨0,_,_,_,_,_,_,rfl,rfl,b3.out⟩
 clear b3;obtain⟨q,X,hs,sf,cf,sn,cn,H9,rfl,e6⟩:=hrel;have e8:=Kh H9;have b3:=Kh e6;have h9:=e6.grown;have d7:=Kh h9;obtain⟨d0,d1,d2,d3⟩:=zM e6.box;obtain⟨t0,t1,t2,t3⟩:=zM (zB d9.out h9);obtain⟨a0,a1,a2,a3⟩:=zM (zB i9.out h9);by_cases hq:q<N
 ·have D8:(q:Int)<N:=by omega
  have cq:=(p5.out.kept h9 (by simp)).nat q (by omega);obtain⟨f4,l6,y6⟩:=lZ c4.out (q:=q) (by omega);have a7:=bB (d:=T) c4.out (show q<=p.length by omega);have h6:=cZ (d:=T) c4.out (show q<=p.length by omega);obtain⟨M,hM⟩:=Nm (cls (p.take q));obtain⟨c,hc⟩:=Nm (p.getD q 0);have F3:M<=q:=by rw[hM];have:=cls_le (p.take q);rw[List.length_take]at this;omega
  rw[<-hM]at a7 h6 f4 l6;rw[<-hc]at cq f4 l6;obtain⟨HM,HC,j9,o1⟩:=K4 hM hc a7 h6;rw[a7]at d2;rw[h6]at d3;clear H9 e6 h9 l6 y6 hM hc a7 h6;by_cases m4:c<M
  ·have f9:(c:Int)<M:=by omega
   have e1:Hid (tY T p (q+1)=tY T p q/\rS T p (q+1)=rS T p q):=Kh (by
    have:p.getD q 0≠cls (p.take q):=by rw[<-HC.out,<-HM.out];omega
    exact⟨qHC this,qHA this⟩)
   go_wp2;go_roundg (N-(q+1))
   case measure=>have:=e8.out;omega
   exact⟨q+1,X,hs,sf,cf,sn,cn,by have:=e8.out;omega,by go_num,by rw[e1.out.1,e1.out.2];exact b3.out⟩
  have z0:c=M:=by omega
  have f9:¬(c:Int)<M:=by omega
  have e1:Hid (tY T p (q+1)=tY T p q++[T.final.getD q false]/\rS T p (q+1)=rS T p q++[uD p (T.next.getD q [])]):=Kh (by
   have:p.getD q 0=cls (p.take q):=by rw[<-HC.out,<-HM.out];exact z0
   exact⟨qHD this,qHB this⟩)
  have i0:=H7.out wr (zC H6.out d7.out);have H1:=i0.rcap q hq;have l1:=H1.1;have l0:TRC q<=9223372036854775807:=by have:=H1.2;unfold maxLen at this;omega
  obtain⟨rb,l3⟩:=Nm (TRB q);obtain⟨ro,k9⟩:=Nm (TRO q);obtain⟨rc,l2⟩:=Nm (TRC q);have s6:Hid (∀W:World,w3.grownBy W none->W.cell? ⟨tb,toff+q,none⟩=some (.slice (some ⟨rb,ro,none⟩) k rc)):=Kh (fun W hg=>by rw[l3,k9,l2];exact(H7.out W (zC H6.out hg)).hd q hq);have s8:Hid (∀W:World,w3.grownBy W none->∀a,a<k->W.cell? ⟨rb,ro+a,none⟩=some (.int .i64 ((nx T q a:Nat):Int))):=Kh (fun W hg a ha=>by rw[l3,k9];exact(H7.out W (zC H6.out hg)).el q a hq ha);have i5:Hid (∀W:World,w3.grownBy W none->W.cell? ⟨tfb,tfo+q,none⟩=some (.bool (T.final.getD q false))):=Kh (fun W hg=>(H7.out W (zC H6.out hg)).fin hq);rw[<-l2]at l1 l0;clear i0 H1 l3 k9 l2;go_wp2_with (first|(at_make;refine qV rfl _ _ _ rfl yJ rfl .i64 .i64 _ _ k rfl rfl rfl rfl ?b1 ?b2 ?_;(case b1=>omega);(case b2=>(unfold maxLen;omega));intro w7 h0 e5 l8;(obtain⟨u0,u1,u2,u3⟩:=zM (zB (zB d9.out d7.out) e5));(have chd:=s6.out _ (zC d7.out e5)))|fail);obtain⟨g,hg⟩:=Nm wr.heap.size;rw[<-hg]at h0 l8⊢
  have p4:Hid (Arr w7 g 3 (nats (fE T p k q 0))):=Kh (by
   rw[show fE T p k q 0=List.replicate k 0 by simp[fE],yS];exact h0)
  have i6:=Kh (b3.out.grow e5);have q8:∀j,X j->j<g:=fun j hj=>by have:=b3.out.lt j hj;omega
  have B8:=Kh q8;have E7:oQ<g:=(by have:=zQ b3.out.box;omega);have m1:w3.heap.size<=g:=by have:=d7.out.size;omega
  have C2:=Kh (zC d7.out e5);have F7:=Kh e5.size;have E6:wr.heap.size<=g:=by omega
  clear h0 e5 q8 hg d0 d1 d2 d3 t0 t1 t2 t3 a0 a1 a2 a3 u0 u1 u2 u3 chd cq
  go_loopg [11,12,49] k (fun gh a11 a12 i wr=>∃x:Nat,gh+x=k/\i=.int .i64 x/\Arr wr g 3 (nats (fE T p k q x))/\w7.grownBy wr (some g))
  case atStart=>exact⟨0,rfl,rfl,p4.out,zV _ _⟩
  obtain⟨x,H9,rfl,h0,h9⟩:=hrel;obtain⟨d8,HA,o9⟩:=K3 H9 h0 h9;have h3:=yM C2.out h9 (by show _<=g;omega);have C4:=Kh h3;clear H9;by_cases hx:x<k
  ·have D7:(x:Int)<k:=by omega
   have cel:=s8.out wr h3 x hx;have x4:=pI H0.out hq hx;obtain⟨y,hy⟩:=Nm (nx T q x);rw[<-hy]at cel x4;have x3:(y:Int)<N:=(by omega);have cy:=(p5.out.kept h3 (by simp)).nat y (by omega);have c6:=qKZ (d:=T) (p:=p) (q:=q) hx;rw[<-hy]at c6;have o4:=Kh c6;have s5:=Kh (mY (d:=T) (p:=p) (q:=q) (k:=k) (x:=x) (by omega));have ck:=h0.nat x (by rw[s5.out];exact hx);have fk:=h0.frozen x;obtain⟨z,hz⟩:=Nm (p.getD y 0);rw[<-hz]at cy;have HZ:=Kh hz;clear c6 hz hy h0 h9 h3;go_wp2;go_roundg (k-(x+1))
   case measure=>have:=d8.out;omega
   exact⟨x+1,by have:=d8.out;omega,by go_num,by rw[<-o4.out,<-HZ.out];exact HA.out.nat_set x (by rw[s5.out];exact hx) z,zH o9.out (zF wr ⟨g,x,none⟩ _)⟩
  have x5:x=k:=by have:=d8.out;omega
  subst x5;obtain⟨cur,rest,f8,_⟩:=p4.out;have z3:¬X g:=fun hx=>by have:=B8.out g hx;omega
  have H3:=i6.out.put h9 f8 z3 m1;have p2:=Kh H3;have t9:Hid (Arr wr g 3 (ints (uD p (T.next.getD q [])))):=Kh (by rw[<-qHR H0.out hq];exact h0);obtain⟨d0,d1,d2,d3⟩:=zM H3.box;have fz2:=zA H3.box 2;have d5:=zB d9.out h3;obtain⟨t0,t1,t2,t3⟩:=zM d5;have cfin:=i5.out wr h3;have z5:=zQ d5;have y3:=zQ H3.box
  have x7:tfb<wr.heap.size:=by
   have:=(H7.out wr (zC H6.out h3)).frow.1;exact this
  rw[j9.out]at d2;rw[o1.out]at d3;obtain⟨bf,m5⟩:=Nm (T.final.getD q false);rw[<-m5]at cfin;have C9:=Kh m5;have o5:Hid (∀W1:World,wr.grownBy W1 none->W1.ownsRow oQ 4 1 (.slice sf M cf) M (bls (tY T p q))/\oQ<=W1.heap.size):=Kh (fun W1 hg=>⟨by have:=zZ p2.out.ownF hg;rwa [j9.out]at this,by have:=hg.size;omega⟩)
  have b9:Hid (∀(W1 w':World) (sf':Option Addr) (cf':Nat),w'.ownsRow oQ 4 1 (.slice sf' (M+1) cf') (M+1) (bls (tY T p q)++[.bool bf])->W1.grownBy w' (Value.slice sf M cf).ownBlock->wr.grownBy W1 none ->
    BX w3 (w'.setCell ⟨oQ,2,none⟩ (.slice sf' (M+1) cf')) oQ X x (tY T p q++[bf]) (rS T p q) hs sf' cf' sn cn/\Arr (w'.setCell ⟨oQ,2,none⟩ (.slice sf' (M+1) cf')) g 3 (ints (uD p (T.next.getD q [])))/\w'.frozen? ⟨oQ,2,none⟩=false/\w'.cell? ⟨oQ,2,none⟩=some (.slice sf M cf)):=Kh (fun W1 w' sf' cf' ho hg h1=>by
   have n2:=p2.out.grow h1;have n8:=n2.ownF;have m6:=n2.box;rw[j9.out]at n8 m6;have b7:=zB m6 hg (zS n8 m6 (by decide));have hp:=n2.pushF (b:=bf) j9.out ho hg rfl;have r6:=t9.out.kept h1 (by simp);obtain⟨cg,rg,y9,_⟩:=id r6
   exact⟨hp,(r6.kept hg (zS n8 y9 (by decide))).kept (zF w' ⟨oQ,2,none⟩ _) (fun e=>by have e:oQ=g:=Oj e;omega),zA b7 2,(zM b7).2.2.1⟩)
  obtain⟨wo,rfl⟩:=Nm (wr:World);clear f8 H3 h0 h9 h3 d5 m5 p4;go_wp2_with fail
  go_region_law (first|(refine qBK ?g1 (.tmp 63) (.tmp 69) 26 ?g2 wX oQ (.slice sf M cf) M (bls (tY T p q)) ?g3 ?g4 (.bool bf) wo.heap.size (0,0) ?g5 ?g6 ?g7 ?g8 ?g9 ?g10 ?_;(case g1=>rfl);(case g2=>rfl);(case g3=>rfl);(case g4=>(refine(o5.out _ ?_).1;exact pD (o:=.cells #[.bool bf] 4) rfl rfl rfl rfl));(case g5=>rfl);(case g6=>exact heap_alloc_new (wo.drew) _);(case g7=>rfl);(case g8=>(unfold maxLen;omega));(case g9=>omega);(case g10=>(refine(o5.out _ ?_).2;exact pD (o:=.cells #[.bool bf] 4) rfl rfl rfl rfl));intro sf8 cf8 w8 b4 q9;have j0:=b9.out _ _ _ _ b4 q9 (pD (o:=.cells #[.bool bf] 4) rfl rfl rfl rfl);have m2:=j0.2.2.1;have m3:=j0.2.2.2;have j8:=Kh j0;clear j0 b4 q9)|fail)
  all_goals
   clear b9 o5 m2 m3 d0 d1 d2 d3 fz2 t0 t1 t2 t3 cfin p2 t9 i6 b3 s6 s8 i5;obtain⟨w9,p8⟩:=Nm (w8.setCell ⟨oQ,2,none⟩ (.slice sf8 (M+1) cf8));rw[<-p8]at j8⊢;have H4:=j8.out.1;have x0:=Kh j8.out.2.1;have j7:=Kh H4;have n6:=H4.ownN;obtain⟨d0,d1,d2,d3⟩:=zM H4.box;rw[o1.out]at d3 n6;have s4:=Kh n6;have y1:=zQ H4.box;clear p8 j8 H4 n6;go_wp2_with (first|(at_builtin;refine iM rfl _ _ _ rfl wP oQ (.slice sn M cn) M hs rfl s4.out (.slice (some ⟨g,0,none⟩) x x) rfl rfl ?a1 ?a2 ?a3 ?_;(case a1=>(unfold maxLen;omega));(case a2=>omega);(case a3=>omega);intro sn6 cn6 w10 b5 l9 D3 l7;(have B6:=Kh b5);(have C3:=Kh l9);(have r5:=zB j7.out.box l9 (zS s4.out j7.out.box (by decide)));(obtain⟨e0,e1',e2,e3⟩:=zM r5);(have fz6:=zA r5 3);clear b5 l9 l7)|fail);go_roundg (N-(q+1))
   case measure=>have:=e8.out;omega
   have hp:=j7.out.pushN (Y:=fun j=>X j\/j=g) o1.out (fun j hj=>.inl hj) (fun j hj=>by
    rcases hj with hj|rfl
    ·exact j7.out.lt j hj
    exact x0.out.lt) B6.out C3.out (RowX.of_arr x0.out (by rw[zN,uD,List.length_map,H0.out.row q hq]) (by unfold maxLen;omega) (.inr rfl)) rfl
   rw[C9.out,<-e1.out.1,<-e1.out.2]at hp;exact⟨q+1,_,_,_,_,_,_,by have:=e8.out;omega,by go_num,hp⟩
 have l4:q=N:=by have:=e8.out;omega
 have a7:(tY T p q).length=cls p:=by rw[bB c4.out (by omega),l4,<-e9,List.take_length]
 have h6:(rS T p q).length=cls p:=by rw[cZ c4.out (by omega),l4,<-e9,List.take_length]
 have q5:(⟨(k:Int),0,tY T p q,rS T p q⟩:DfaV)=wQ T p:=by
  have:=qJQ (d:=T) (p:=p) (q:=q) (by omega) (by
   have e:st0 T=0:=by rw[o2.out];rfl
   rw[e];exact qKI c4.out)
  rw[<-this,H0.out.hk]
 have j3:=(e6.built (a7.trans h6.symm)).dfa;rw[q5,a7,h6]at j3;obtain⟨M,hM⟩:=Nm (cls p);have F4:M<=N:=by rw[hM,<-e9];exact cls_le p
 have q4:VD (wQ T p) M k:=(by rw[hM];exact aU H0.out e9 c4.out);rw[<-hM]at j3;rw[a7,<-hM]at d2;rw[h6,<-hM]at d3;have B3:Hid (∀i,i<N->p.getD i 0<M):=Kh (fun i hi=>by rw[hM];exact sH c4.out (by omega));have i3:=Kh (qBS wr.heap.size wr _ (wQ T p) M k (Nat.le_refl _) j3 q4 (by omega));have C0:Hid (w.grownBy wr none):=Kh (zC C5.out h9);clear H9 e6 a7 h6 q5 j3 q4 hM l4 e8 t0 t1 t2 t3 a0 a1 a2 a3;go_wp2_with fail;refine i3.out.mono ?_;rintro e wt ⟨vt,Gt,rfl,⟨ot,y0,sft,cft,snt,cnt,rfl,D9,j5⟩,z8,b8,j1⟩;rw[<-o7.out]at j5⊢;obtain⟨R,hR⟩:=Nm (minD T k);rw[<-hR]at j5⊢;have n4:R.letters=k:=by rw[hR];exact(kV H0.out).hk
 have n3:R.start=0:=by rw[hR];rfl
 obtain⟨FL,n7⟩:=Nm R.final.length;obtain⟨NL,n5⟩:=Nm R.next.length;rw[n4,n3,<-n7,<-n5];obtain⟨ys,k3,D6⟩:∃ys:List Int,Arr wt Gt 3 (ints ys)/\ys.length=M:=⟨_,b8,uB _ _⟩;obtain⟨s3,B1,B0,p1,o6,C8⟩:=K6 hR n4 n3 n7 n5 j5;have A5:=Kh k3;have B9:=Kh (zC C0.out j1);have o8:=Kh (zC d7.out j1);obtain⟨T13,d6⟩:=Nm wt.heap.size;obtain⟨w13,c5⟩:=Nm (wt.alloc (.cells #[.int .i64 (k:Int),.int .i64 0,.slice sft FL cft,.slice snt NL cnt] 37));have a5:=Ga wt (.cells #[.int .i64 (k:Int),.int .i64 0,.slice sft FL cft,.slice snt NL cnt] 37) none;have H5:=heap_alloc_new wt (.cells #[.int .i64 (k:Int),.int .i64 0,.slice sft FL cft,.slice snt NL cnt] 37);rw[<-c5]at a5 H5;rw[<-d6]at H5;have D1:=d7.out.size;have D0:=j1.size;have x2:=a5.size;have r7:=zQ H5;have y7:=k3.lt;obtain⟨i8,o0,o3,h8⟩:=K4 H5 c5 d6 a5;have z6:Q<T13:=(by omega);have r8:w3.heap.size<=T13:=by omega
 clear hR n4 n3 n7 n5 j5 b8 k3 j1 H5 c5 d6 a5 d0 d1 d2 d3 b3 i3;go_upto_region 18 with fail;rw[<-o0.out,<-o3.out];go_wp2_with (first|(at_make;refine qV rfl _ _ _ rfl yJ rfl .i64 .i64 _ _ n rfl rfl rfl rfl ?b1 ?b2 ?_;(case b1=>omega);(case b2=>(unfold maxLen;omega));intro ws h0 q7 f6)|fail);obtain⟨Gs,r9⟩:=Nm w13.heap.size;rw[<-r9]at h0 f6⊢;have s2:Hid (Arr ws Gs 3 (ints (List.replicate n 0))):=Kh (by simpa [qG] using h0);have A1:T13<Gs:=(by omega);have z9:Gt<Gs:=(by omega);have s7:=Kh q7;have A0:w13.heap.size<=Gs:=by omega
 clear h0 q7 r9 f6
 go_loopg [16,17,89] n (fun gh a16 a17 i wr=>∃(j:Nat) (vs:List Int),gh+j=n/\i=.int .i64 j/\vs.length=n/\Arr wr Gs 3 (ints vs)/\w13.grownBy wr none)
 case atStart=>exact⟨0,_,rfl,rfl,by simp,s2.out,s7.out⟩
 clear s2 s7;obtain⟨j,vs,H9,rfl,k7,h0,h2⟩:=hrel;obtain⟨b0,HA,i4⟩:=K3 H9 h0 h2;have H2:=zC (zC o8.out h8.out) h2;clear H9;by_cases hj:j<n
 ·have E3:(j:Int)<n:=by omega
  have cz:=(n9.out.kept H2 (by simp)).int j (by omega);have cs:=h0.int j (by omega);have fs:=h0.frozen j;have b6:=A4.out j hj;obtain⟨z,hz⟩:=Nm (zs.getD j 0);rw[<-hz]at cz b6;have x6:(ints vs).length=n:=by rw[zN,k7]
  rcases b6 with rfl|⟨i,hi,rfl⟩
  ·clear hz h0 h2 H2
   go_wp2;go_roundg (n-(j+1))
   case measure=>have:=b0.out;omega
   exact⟨j+1,vs.set j (-1),by have:=b0.out;omega,by go_num,by rw[List.length_set,k7],HA.out.int_set j (by omega) (-1),yM i4.out (zF wr ⟨Gs,j,none⟩ _) (by show _<=Gs;omega)⟩
  have E4:(i:Int)<N:=by omega
  have cp:=(p5.out.kept H2 (by simp)).nat i (by omega);have m4:=B3.out i hi;obtain⟨c,hc⟩:=Nm (p.getD i 0);rw[<-hc]at cp m4;have f9:(c:Int)<M:=(by omega);have cy:=((A5.out.kept h8.out (by simp)).kept h2 (by simp)).int c (by omega);obtain⟨y,hy⟩:=Nm (ys.getD c 0);rw[<-hy]at cy;have F8:=Kh (And.intro hi m4);clear hz hc hy h0 h2 H2;have y5:G6≠Gs:=(by omega);have y4:Gt≠Gs:=(by omega);go_wp2;go_roundg (n-(j+1))
  case measure=>have:=b0.out;omega
  exact⟨j+1,(vs.set j (-1)).set j y,by have:=b0.out;omega,by go_num,by rw[List.length_set,List.length_set,k7],(HA.out.int_set j (by omega) (-1)).int_set j (by rw[List.length_set];omega) y,yM (yM i4.out (zF wr ⟨Gs,j,none⟩ _) (by show _<=Gs;omega)) (zF (wr.setCell ⟨Gs,j,none⟩ (.int .i64 (-1))) ⟨Gs,j,none⟩ _) (by show _<=Gs;omega)⟩
 obtain⟨e0,e1,e2,e3⟩:=zM (zB i8.out h2);have d4:=zB p3.out H2;obtain⟨q0,q1,q2,q3⟩:=zM d4;have f0:=zA d4 0;have f1:=zA d4 1;have f2:=zA d4 2;have f3:=zA d4 3;have t5:=Kh d4;clear d4;go_wp2;obtain⟨r4,c7⟩:=tG t5.out (.int .i64 (k:Int)) (.int .i64 0) (.slice sft FL cft) (.slice snt NL cnt);obtain⟨wz,p7⟩:=Nm ((((wr.setCell ⟨Q,0,none⟩ (.int .i64 (k:Int))).setCell ⟨Q,1,none⟩ (.int .i64 0)).setCell ⟨Q,2,none⟩ (.slice sft FL cft)).setCell ⟨Q,3,none⟩ (.slice snt NL cnt));rw[<-p7]at r4 c7⊢;clear p7;obtain⟨r0,r1,r2,r3⟩:=zM r4;clear e0 e1 e2 e3 q0 q1 q2 q3 f0 f1 f2 f3;refine bodyPost_ret (v:=.tuple #[.agg #[.int .i64 (k:Int),.int .i64 0,.slice sft FL cft,.slice snt NL cnt],.slice (some ⟨Gs,0,none⟩) n n]) (by simp[results,Try.results47,go_sem,r0,r1,r2,r3]) rfl ?_;have y8:w.grownBy wz none:=zC (zC (zC B9.out h8.out) h2) c7 (fun k e=>by have h7:Q=k:=Oj e;omega);have z1:=((C8.out.grow h8.out).grow h2).far c7 t5.out (by omega);refine⟨_,_,rfl,⟨ot,y0,sft,cft,snt,cnt,?_,by omega,by rw[<-s3.out];exact z1⟩,y8⟩;rw[<-s3.out,B0.out,B1.out,p1.out,o6.out]
end Go.Proofs.Ytobakifdllameaa
namespace Go.Proofs.Ytobakifdllameaa
open Go.RowKit
theorem qFV (B:Nat)(w:World)(v:Value)(d:DfaV)(n k:Nat)(hB:B<=w.heap.size)(h:sK B w v d)(hd:VD d n k)(h5:n<=512):Calls Try.prog 30 #[v] w (qTQ w (minD d k)):=by
 have h0:=h;obtain⟨fb,fo,fc,b,off,cap,RB,RO,RC,rfl,b6⟩:=h.at hd;obtain⟨S,hS⟩:=Nm (st0 d);have a7:dAgg k (st0 d) fb fo fc b off cap n=.agg #[.int .i64 (k:Int),.int .i64 (S:Int),.slice (some ⟨fb,fo,none⟩) n fc,.slice (some ⟨b,off,none⟩) n cap]:=by rw[hS];rfl
 rw[a7]at h0⊢;obtain⟨h4,H1,h6,a5⟩:=oS w #[.int .i64 (k:Int),.int .i64 (S:Int),.slice (some ⟨fb,fo,none⟩) n fc,.slice (some ⟨b,off,none⟩) n cap] #[.int .i64 0,.int .i64 0,.slice none 0 0,.slice none 0 0] 37;obtain⟨wA,H4⟩:=Nm ((w.alloc (.cells #[.int .i64 (k:Int),.int .i64 (S:Int),.slice (some ⟨fb,fo,none⟩) n fc,.slice (some ⟨b,off,none⟩) n cap] 37)).alloc (.cells #[.int .i64 0,.int .i64 0,.slice none 0 0,.slice none 0 0] 37));rw[<-H4]at h4 H1 h6 a5;obtain⟨c0,c1,c2,c3⟩:=zM h4;obtain⟨P,hP⟩:=Nm w.heap.size;obtain⟨Q,hQ⟩:=Nm (w.heap.size+1);have c9:=Kh hP;have c8:Hid (Q=P+1):=Kh (by omega);have f4:P<Q:=by omega
 have e7:Q<wA.heap.size:=by omega
 have e9:w.heap.size<=P:=by omega
 have b7:B<=wA.heap.size:=by omega
 rw[<-hQ]at H1;rw[<-hP]at h4 c0 c1 c2 c3 hB;obtain⟨d9,d8,d4,b8,HD⟩:=K5 h4 H1 h6 H4 hd;have a2:=Kh (h0.kept h6 (by simp));have a9:=Kh (rG B wA _ d b7 a2.out);have c4:=Kh (mM hd h5);clear h4 H1 h6 H4 b6 hd h h0 a7 hS a5 hP hQ;go_enter Try.func30,Try.ntmps30;go_upto_region 1 with fail;rw[<-b8.out,<-c9.out,<-c8.out];go_wp2_with fail;refine a9.out.mono ?_;rintro e w1 ⟨rfl,h2⟩;rw[c4.out];have e6:=h2.size;have d6:=Kh h2;have a4:=Kh (zB d9.out h2);have a3:=Kh (zB d8.out h2);have b1:=Kh (qBW B w1 _ d n k (by omega) (a2.out.kept h2 (by simp)) HD.out h5);obtain⟨d0,d1,d2,d3⟩:=zM a4.out;clear h2 a9 c0 c1 c2 c3;go_wp2_with fail;refine b1.out.mono ?_;rintro e w2 ⟨v2,sv,rfl,⟨o,hs,sf,cf,sn,cn,rfl,ho,h9⟩,h8⟩;rw[qOA HD.out]at h9⊢;obtain⟨R,hR⟩:=Nm (minD d k);rw[<-hR]at h9⊢;have H7:R.letters=k:=by rw[hR];exact(kV HD.out).hk
 have H6:R.start=0:=by rw[hR];rfl
 obtain⟨FL,H9⟩:=Nm R.final.length;obtain⟨NL,H8⟩:=Nm R.next.length;rw[H7,H6,<-H9,<-H8];obtain⟨b0,c7,c6,a1,a0,d7⟩:=K6 hR H7 H6 H9 H8 h9;have d5:=Kh h8;obtain⟨T3,H5⟩:=Nm w2.heap.size;obtain⟨w3,H2⟩:=Nm (w2.alloc (.cells #[.int .i64 (k:Int),.int .i64 0,.slice sf FL cf,.slice sn NL cn] 37));have h3:=Ga w2 (.cells #[.int .i64 (k:Int),.int .i64 0,.slice sf FL cf,.slice sn NL cn] 37) none;have H0:=heap_alloc_new w2 (.cells #[.int .i64 (k:Int),.int .i64 0,.slice sf FL cf,.slice sn NL cn] 37);rw[<-H2]at h3 H0;rw[<-H5]at H0;have e5:=h8.size;have e4:=h3.size;obtain⟨b9,c5,b2⟩:=K3 H2 H5 h3;have h1:=zB (zB a3.out h8) h3;have b3:=Kh h1;obtain⟨e0,e1,e2,e3⟩:=zM H0;obtain⟨q0,q1,q2,q3⟩:=zM h1;have f0:=zA h1 0;have f1:=zA h1 1;have f2:=zA h1 2;have f3:=zA h1 3;have e8:Q<T3:=by omega
 clear hR H7 H6 H9 H8 h9 h8 H2 H5 h3 H0 h1 d0 d1 d2 d3 b1 a2;go_upto_region 4 with fail;rw[<-b9.out,<-c5.out];go_wp2;obtain⟨a8,H3⟩:=tG b3.out (.int .i64 (k:Int)) (.int .i64 0) (.slice sf FL cf) (.slice sn NL cn);obtain⟨wz,a6⟩:=Nm ((((w3.setCell ⟨Q,0,none⟩ (.int .i64 (k:Int))).setCell ⟨Q,1,none⟩ (.int .i64 0)).setCell ⟨Q,2,none⟩ (.slice sf FL cf)).setCell ⟨Q,3,none⟩ (.slice sn NL cn));rw[<-a6]at a8 H3⊢;clear a6;obtain⟨r0,r1,r2,r3⟩:=zM a8;clear e0 e1 e2 e3 q0 q1 q2 q3 f0 f1 f2 f3;refine bodyPost_ret (v:=.agg #[.int .i64 (k:Int),.int .i64 0,.slice sf FL cf,.slice sn NL cn]) (by simp[results,Try.results30,go_sem,r0,r1,r2,r3]) rfl ?_;have b4:w.grownBy wz none:=zC (zC (zC (zC d4.out d6.out) d5.out) b2.out) H3 (fun k e=>by have h7:Q=k:=Oj e;omega);have b5:=(d7.out.grow b2.out).far H3 b3.out (by omega);refine⟨_,rfl,⟨o,hs,sf,cf,sn,cn,?_,by omega,by rw[<-b0.out];exact b5⟩,b4⟩;rw[<-b0.out,c6.out,c7.out,a1.out,a0.out]
def qQI:DfaV:=⟨0,0,[],[]⟩
open Go.Maps
inductive SysG (w0 we:World)(B o gb k a q r:Nat)(done:List (List Nat))(cur:List Nat)(w:World):Prop
 | mk (X:Nat->Prop) (hsD:List Value) (sR:Option Addr) (cR:Nat) (hB:BoxS B X o 66 w0 w (⟨B,22,.slice (some ⟨gb,0,none⟩) k k,k,hsD++.slice sR q cR::List.replicate r (.slice none 0 0),1⟩::⟨B,3,.slice sR q cR,q,nats cur,1⟩::[]) #[.slice (some ⟨gb,0,none⟩) k k,.slice none 0 0,.int .i64 ((0:Nat):Int)] w) (hD:xW X 3 nats w hsD done) (hl:hsD.length=a/\done.length=a/\a+1+r=k/\cur.length=q) (hG:we.grownBy w (some o)) (hgb:we.heap.size<=gb) (hB0:we.heap.size<=B)
theorem qQQ {Q:Exit->Act->World->Prop}{v1 v2 v4 v5 v8 v9 i4 i5 i6 i7 i8 i9 g0 g1 g2 g3 g4 g5 g6 g7 g8 g9 f0 f2 f3 f4 f5 f6 f7 f8 f9 e0 e1 e2 e3 e4 e5 l6 l7 l8 l9 k0 k1 k2 k3 k4 k5 k6 k7 k8 k9 j0 j1 j2 j3 j4 j5 j6 j7 j8 j9 i0 i1 i2 i3 e6 e7 e8 e9 d0 d2 d6 d7 d8 d9 c0 c1 c2 c6 c7 c8 c9 b0 b1 b2 b3 b4 b5 b6 b7 b8 b9 a0 a1 a2 a3 a7 a8:Value}{w0 we w:World}{B o gb k a q r n mx nb no nc rb ro rc y:Nat}{done:List (List Nat)}{a9:List Nat}(h:SysG w0 we B o gb k a q r done a9 w)(l3:k<=6)(hq:q<n)(hn:n<=32)(l5:y<32)(c3:w.cell? ⟨mx,3,none⟩=some (.slice (some ⟨nb,no,none⟩) n nc))(c4:w.cell? ⟨nb,no+q,none⟩=some (.slice (some ⟨rb,ro,none⟩) k rc))(c5:w.cell? ⟨rb,ro+a,none⟩=some (.int .i64 (y:Int)))(a4:n<=nc/\nc<=maxLen)(a5:k<=rc/\rc<=maxLen)(l4:mx<we.heap.size/\nb<we.heap.size/\rb<we.heap.size)(a6:∀(z41 z42 z43 z44 z45 z46 z47 z48 z49 z50 z51 z52 z53 z54 z55 z56 z57 z58 z59 z60 z61 z62 z63 z64 z65 z66 z67 z68:Value) (w':World),SysG w0 we B o gb k a (q+1) r done (a9++[y]) w'->Q .normal ⟨((Value.pointer (some ⟨o,0,none⟩))::v1::v2::(Value.pointer (some ⟨mx,0,none⟩))::v4::v5::(Value.int .i64 (a:Int))::(Value.int .i64 (q:Int))::v8::v9::i4::i5::i6::i7::i8::i9::g0::g1::g2::g3::g4::g5::g6::g7::g8::g9::f0::f2::f3::f4::f5::f6::f7::f8::f9::e0::e1::e2::e3::e4::e5::z41::z42::z43::z44::z45::z46::z47::z48::z49::z50::z51::z52::z53::z54::z55::z56::z57::z58::z59::z60::z61::z62::z63::z64::z65::z66::z67::z68::e6::e7::e8::e9::d0::d2::d6::d7::d8::d9::c0::c1::c2::c6::c7::c8::c9::b0::b1::b2::b3::b4::b5::b6::b7::b8::b9::a0::a1::a2::a3::a7::a8::[]).toArray,[]⟩ w'):Code.wp Try.prog (reg Try.f29 12) Q ⟨((Value.pointer (some ⟨o,0,none⟩))::v1::v2::(Value.pointer (some ⟨mx,0,none⟩))::v4::v5::(Value.int .i64 (a:Int))::(Value.int .i64 (q:Int))::v8::v9::i4::i5::i6::i7::i8::i9::g0::g1::g2::g3::g4::g5::g6::g7::g8::g9::f0::f2::f3::f4::f5::f6::f7::f8::f9::e0::e1::e2::e3::e4::e5::l6::l7::l8::l9::k0::k1::k2::k3::k4::k5::k6::k7::k8::k9::j0::j1::j2::j3::j4::j5::j6::j7::j8::j9::i0::i1::i2::i3::e6::e7::e8::e9::d0::d2::d6::d7::d8::d9::c0::c1::c2::c6::c7::c8::c9::b0::b1::b2::b3::b4::b5::b6::b7::b8::b9::a0::a1::a2::a3::a7::a8::[]).toArray,[]⟩ w:=by
 obtain⟨X,h2,sR,cR,hB,hD,⟨H7,n2,n1,n0⟩,hG,n3,m3⟩:=h;have n5:a<k:=by omega
 have H5:=hB.own (r:=⟨B,22,.slice (some ⟨gb,0,none⟩) k k,k,h2++.slice sR q cR::List.replicate r (.slice none 0 0),1⟩) (by simp);simp only at H5;have H2:=Arr.of_owns H5;have h1:∀W:World,w.grownBy W none->W.cell? ⟨gb,a,none⟩=some (.slice sR q cR):=fun W hg=>zJ (pR H2 (by rw[List.getElem?_append_right (by omega),H7,Nat.sub_self];rfl)) hg
 have o3:gb≠o:=fun e=>by
  obtain⟨_,_,hb,_⟩:=H2;have:=hB.box;rw[<-e,hb]at this;simp at this
 obtain⟨HS,HD,HG,o0⟩:=K4 hB hD hG H2
 have m5:Hid (∀W:World,w.grownBy W none->W.cell? ⟨o,0,none⟩=some (.slice (some ⟨gb,0,none⟩) k k)/\W.cell? ⟨gb,a,none⟩=some (.slice sR q cR)/\W.cell? ⟨o,2,none⟩=some (.int .i64 ((0:Nat):Int))/\W.cell? ⟨mx,3,none⟩=some (.slice (some ⟨nb,no,none⟩) n nc)/\W.cell? ⟨nb,no+q,none⟩=some (.slice (some ⟨rb,ro,none⟩) k rc)/\W.cell? ⟨rb,ro+a,none⟩=some (.int .i64 (y:Int))):=Kh (fun W hg=>by
  have hb:=(HS.out.grow hg).box;have q0:=zG hb 0;have q2:=zG hb 2;simp only[List.getElem_toArray,List.getElem_cons_zero,List.getElem_cons_succ]at q0 q2
  exact⟨q0,h1 W hg,q2,zJ c3 hg,zJ c4 hg,zJ c5 hg⟩)
 have n4:(a:Int)<k:=by omega
 have o2:(q:Int)<n:=by omega
 have m9:=a4.1;have m7:=a5.1;have m8:nc<=9223372036854775807:=by have:=a4.2;unfold maxLen at this;omega
 have m6:rc<=9223372036854775807:=by have:=a5.2;unfold maxLen at this;omega
 clear hB hD hG H5 H2 h1 c3 c4 c5 a4 a5;have o1:IntKind.i64.wrap (y:Int)=y:=wG (by omega)
 conv=>arg 2;whnf
 obtain⟨w7,H3⟩:=Nm w.drew;have m2:w.grownBy w7 none:=by rw[H3];exact zU w none
 have n7:=Kh H3;have l0:=Kh m2;clear H3 m2;refine wp_region_noPanic ?_;refine yN (G:=wF 28 (fun _=>True) (fun W=>W.cell? ⟨o,0,none⟩=some (.slice (some ⟨gb,0,none⟩) k k)/\W.cell? ⟨gb,a,none⟩=some (.slice sR q cR)/\W.cell? ⟨o,2,none⟩=some (.int .i64 ((0:Nat):Int))/\W.cell? ⟨mx,3,none⟩=some (.slice (some ⟨nb,no,none⟩) n nc)/\W.cell? ⟨nb,no+q,none⟩=some (.slice (some ⟨rb,ro,none⟩) k rc)/\W.cell? ⟨rb,ro+a,none⟩=some (.int .i64 (y:Int)))) (by kernel_rfl) ?_;rw[<-n7.out];have m4:Hid (BoxS B X o 66 w0 w (⟨B,22,.slice (some ⟨gb,0,none⟩) k k,k,h2++.slice sR q cR::List.replicate r (.slice none 0 0),1⟩::⟨B,3,.slice sR q cR,q,nats a9,1⟩::[]) #[.slice (some ⟨gb,0,none⟩) k k,.slice none 0 0,.int .i64 ((0:Nat):Int)] w7):=Kh (HS.out.grow l0.out);have C:=Kh (m5.out w7 l0.out);refine zO 0 ⟨trivial,fun _=>C.out⟩ ?_;refine zO 1 ⟨trivial,fun _=>C.out⟩ ?_;refine zO 2 ⟨trivial,fun _=>C.out⟩ ?_;refine xD 3 ⟨trivial,fun _=>C.out⟩ ?_;refine zO 4 ⟨trivial,fun _=>C.out⟩ ?_;refine zO 5 ⟨trivial,fun _=>C.out⟩ ?_;refine zO 6 ⟨trivial,fun _=>C.out⟩ ?_;refine zO 7 ⟨trivial,fun _=>C.out⟩ ?_;refine xD 8 ⟨trivial,fun _=>C.out⟩ ?_;refine zO 9 ⟨trivial,fun _=>C.out⟩ ?_;refine zO 10 ⟨trivial,fun _=>C.out⟩ ?_;refine xD 11 ⟨trivial,fun _=>C.out⟩ ?_;refine zO 12 ⟨trivial,fun _=>C.out⟩ ?_;refine zO 13 ⟨trivial,fun _=>C.out⟩ ?_;refine zO 14 ⟨trivial,fun _=>C.out⟩ ?_;refine xD 15 ⟨trivial,fun _=>C.out⟩ ?_;refine zO 16 ⟨trivial,fun _=>C.out⟩ ?_;refine xD 17 ⟨trivial,fun _=>C.out⟩ ?_;refine zO 18 ⟨trivial,fun _=>C.out⟩ ?_;refine zO 19 ⟨trivial,fun _=>C.out⟩ ?_;refine xD 20 ⟨trivial,fun _=>C.out⟩ ?_;refine zO 21 ⟨trivial,fun _=>C.out⟩ ?_;refine zO 22 ⟨trivial,fun _=>C.out⟩ ?_;refine xD 23 ⟨trivial,fun _=>C.out⟩ ?_;refine zO 24 ⟨trivial,fun _=>C.out⟩ ?_;refine oneG (i:=25) (by kernel_rfl) rfl (fun K hK=>?_);go_simp;have H0:=heap_alloc_new w7 (.cells #[Value.int .i64 (y:Int)] 3);have H1:=Ga w7 (.cells #[Value.int .i64 (y:Int)] 3) none;obtain⟨gR,m1⟩:=Nm w7.heap.size;obtain⟨w9,l2⟩:=Nm (w7.alloc (.cells #[Value.int .i64 (y:Int)] 3));rw[<-m1]at H0⊢;rw[<-l2]at H0 H1⊢;have h7:Hid (BoxS B X o 66 w0 w (⟨B,22,.slice (some ⟨gb,0,none⟩) k k,k,h2++.slice sR q cR::List.replicate r (.slice none 0 0),1⟩::⟨B,3,.slice sR q cR,q,nats a9,1⟩::[]) #[.slice (some ⟨gb,0,none⟩) k k,.slice none 0 0,.int .i64 ((0:Nat):Int)] w9):=Kh (m4.out.grow H1);have H9:=Kh (zC l0.out H1);have C9:=Kh (m5.out w9 H9.out);refine hK.out _ _ ⟨trivial,fun _=>C9.out⟩ ?_;clear hK K C m1 l2 H1
 try simp only[Act.put,sPa,sPb,sPc]
 have h8:=h7.out.own (r:=⟨B,3,.slice sR q cR,q,nats a9,1⟩) (by simp);have l1:=Nat.le_trans h7.out.base h7.out.wk;have h3:=o0.out.kept H9.out (by simp);refine oneG (i:=26) (by kernel_rfl) rfl (fun K hK=>?_);refine qK rfl (.tmp 52) (.tmp 66) 22 rfl yJ.toN B (.slice sR q cR) q (nats a9) rfl h8 [.int .i64 (y:Int)] gR rfl (0,0) rfl H0 ?z1 ?z2 ?z3 l1 ?_
 case z1=>intro v hv;simp only[List.mem_cons,List.not_mem_nil,or_false]at hv;subst hv;rfl
 case z2=>unfold maxLen;omega
 case z3=>show (q+1)*8<=140737488355328;omega
 intro sN cN wM h5 h6 m0;have H8:Hid (BoxS B X o 66 w0 w (⟨B,22,.slice (some ⟨gb,0,none⟩) k k,k,h2++.slice sR q cR::List.replicate r (.slice none 0 0),1⟩::⟨B,3,.slice sN (q+1) cN,(q+1),nats a9++[.int .i64 (y:Int)],1⟩::[]) #[.slice (some ⟨gb,0,none⟩) k k,.slice none 0 0,.int .i64 ((0:Nat):Int)] wM):=Kh (h7.out.appAt (j:=1) rfl h5 h6 m0)
 have H6:(Value.slice sR q cR).ownBlock≠some gb:=fun e=>by
  obtain⟨_,_,hb,_⟩:=h3;exact zS h8 hb (by show (3:Nat)≠22;decide) e
 have h0:∀j,(Value.slice sR q cR).ownBlock=some j->we.heap.size<=j:=fun j hj=>Nat.le_trans m3 (h8.lt j hj).1;have n8:Hid (we.grownBy wM (some o)):=Kh (zC (zC HG.out H9.out) h6 h0);have n9:=Kh (h3.kept h6 (fun e=>H6 e))
 have CM:Hid (wM.cell? ⟨o,0,none⟩=some (.slice (some ⟨gb,0,none⟩) k k)/\wM.cell? ⟨gb,a,none⟩=some (.slice sR q cR)/\wM.cell? ⟨o,2,none⟩=some (.int .i64 ((0:Nat):Int))/\wM.cell? ⟨mx,3,none⟩=some (.slice (some ⟨nb,no,none⟩) n nc)/\wM.cell? ⟨nb,no+q,none⟩=some (.slice (some ⟨rb,ro,none⟩) k rc)/\wM.cell? ⟨rb,ro+a,none⟩=some (.int .i64 (y:Int))):=Kh (by
  have q0:=zG H8.out.box 0;have q2:=zG H8.out.box 2;simp only[List.getElem_toArray,List.getElem_cons_zero,List.getElem_cons_succ]at q0 q2;obtain⟨_,d1,_,d3,d4,d5⟩:=C9.out;have far:∀(b i:Nat) (u:Value),(∀j,(Value.slice sR q cR).ownBlock=some j->j≠b)->w9.cell? ⟨b,i,none⟩=some u->wM.cell? ⟨b,i,none⟩=some u:=fun b i u hb hc=>(World.cell?_of_block (h6.block b (World.block_lt_of_cell? _ _ hc) (fun e=>hb b e.symm rfl))).trans hc
  exact⟨q0,far gb a _ (fun j hj e=>H6 (e ▸ hj)) d1,q2,far mx 3 _ (fun j hj e=>by have:=h0 j hj;omega) d3,far nb (no+q) _ (fun j hj e=>by have:=h0 j hj;omega) d4,far rb (ro+a) _ (fun j hj e=>by have:=h0 j hj;omega) d5⟩)
 refine hK.out _ _ ⟨trivial,fun _=>CM.out⟩ ?_;clear hK K C9 h7 m4 h5 h6 m0 H0 h8 l1 H6 h0 h3
 try simp only[Act.put,sPa,sPb,sPc]
 refine zO 27 ⟨trivial,fun _=>CM.out⟩ ?_;refine oneG (i:=28) (by kernel_rfl) rfl (fun K hK=>?_);have q1:=CM.out.2.1;have f1:=n9.out.frozen a;go_simp;refine hK.out _ _ ⟨trivial,fun h=>by simp at h⟩ ?_;clear hK K q1 f1 CM
 try simp only[Act.put,sPa,sPb,sPc]
 refine rE (by kernel_rfl) ?_ _;refine NoPanic.normal ?_;have h4:=H8.out.put (j:=0) rfl n5 (.slice sN (q+1) cN);have n6:we.grownBy (wM.setCell ⟨gb,a,none⟩ (.slice sN (q+1) cN)) (some o):=yM n8.out (zF wM ⟨gb,a,none⟩ _) (by show _<=gb;omega)
 have H4:(h2++Value.slice sR q cR::List.replicate r (Value.slice none 0 0)).set a (.slice sN (q+1) cN)=h2++Value.slice sN (q+1) cN::List.replicate r (Value.slice none 0 0):=by
  rw[List.set_append_right _ _ (by omega),H7,Nat.sub_self];rfl
 refine a6 _ _ _ _ _ _ _ _ _ _ _ _ _ _ _ _ _ _ _ _ _ _ _ _ _ _ _ _  _ ⟨X,h2,sN,cN,?_,HD.out.kept h4.kept h4.wk,⟨H7,n2,n1,by simp[n0]⟩,n6,n3,m3⟩;have h9:=h4.rebase;simp only[List.set_cons_zero]at h9;rw[H4,show nats a9++[.int .i64 (y:Int)]=nats (a9++[y]) by simp[nats]]at h9;exact h9
theorem qLP:ElemN Try.prog 64 85 3 (.agg #[.int .i64 0,.slice none 0 0,.int .i64 0]) 40:=⟨by kernel_rfl,by kernel_rfl,by rfl,by decide⟩
inductive SysF (w0 we:World)(B o gb k:Nat)(gs:List (List Nat))(w:World):Prop
 | mk (X:Nat->Prop) (hsD:List Value) (hB:BoxS B X o 66 w0 w (⟨B,22,.slice (some ⟨gb,0,none⟩) k k,k,hsD,1⟩::[]) #[.slice (some ⟨gb,0,none⟩) k k,.slice none 0 0,.int .i64 ((0:Nat):Int)] w) (hD:xW X 3 nats w hsD gs) (hl:hsD.length=k) (hG:we.grownBy w (some o)) (hB0:we.heap.size<=B)
inductive SysP (w0 we:World)(B o gb k st:Nat)(fA:Option Addr)(fN fC:Nat)(gs:List (List Nat))(w:World):Prop
 | mk (X:Nat->Prop) (hsD:List Value) (sN:Option Addr) (cN:Nat) (hB:BoxS B X o 66 w0 w (⟨B,22,.slice (some ⟨gb,0,none⟩) k k,k,hsD,1⟩::⟨B,85,.slice sN 1 cN,1,[Value.int .i64 (st:Int),.slice fA fN fC,.int .i64 ((0:Nat):Int)],3⟩::[]) #[.slice (some ⟨gb,0,none⟩) k k,.slice sN 1 cN,.int .i64 ((0:Nat):Int)] w) (hD:xW X 3 nats w hsD gs) (hl:hsD.length=k) (hG:we.grownBy w (some o)) (hB0:we.heap.size<=B)
theorem qQR {Q:Exit->Act->World->Prop}{v1 v2 v4 v5 v6 v7 v8 v9 i7 i8 i9 g0 g1 g2 g3 g4 g5 g6 g7 g8 g9 f0 f2 f3 f4 f5 f6 f7 f8 f9 e0 e1 e2 e3 e4 e5 e6 e7 e8 e9 d0 d1 d2 d3 d4 d5 d6 d7 d8 d9 c0 c3 c4 c5 c6 c7 c8 c9 b0 b1 b2 b3 b4 b5 b6 b7 b8 b9 a0 k4 k5 k6 k7 k8 k9 j0 j1 j2 j3 j4 j5 j6 j7 j8 j9 i0 i1 i2 i3 i4 i5 i6 a1 a2 a3 a4 a5 a6 a8 a9:Value}{w0 we w:World}{B o gb k mx st fN fC:Nat}{fA:Option Addr}{gs:List (List Nat)}(h:SysF w0 we B o gb k gs w)(c1:w.cell? ⟨mx,1,none⟩=some (.int .i64 (st:Int)))(c2:w.cell? ⟨mx,2,none⟩=some (.slice fA fN fC))(k3:st<32)(k2:mx<we.heap.size)(a7:∀(z71 z72 z73 z74 z75 z76 z77 z78 z79 z80 z81 z82 z83 z84 z85 z86 z87 z88 z89 z90 z91 z92 z93:Value) (w':World),SysP w0 we B o gb k st fA fN fC gs w'->Q .normal ⟨((Value.pointer (some ⟨o,0,none⟩))::v1::v2::(Value.pointer (some ⟨mx,0,none⟩))::v4::v5::v6::v7::v8::v9::i7::i8::i9::g0::g1::g2::g3::g4::g5::g6::g7::g8::g9::f0::f2::f3::f4::f5::f6::f7::f8::f9::e0::e1::e2::e3::e4::e5::e6::e7::e8::e9::d0::d1::d2::d3::d4::d5::d6::d7::d8::d9::c0::c3::c4::c5::c6::c7::c8::c9::b0::b1::b2::b3::b4::b5::b6::b7::b8::b9::a0::z71::z72::z73::z74::z75::z76::z77::z78::z79::z80::z81::z82::z83::z84::z85::z86::z87::z88::z89::z90::z91::z92::z93::a1::a2::a3::a4::a5::a6::a8::a9::[]).toArray,[]⟩ w'):Code.wp Try.prog (reg Try.f29 15) Q ⟨((Value.pointer (some ⟨o,0,none⟩))::v1::v2::(Value.pointer (some ⟨mx,0,none⟩))::v4::v5::v6::v7::v8::v9::i7::i8::i9::g0::g1::g2::g3::g4::g5::g6::g7::g8::g9::f0::f2::f3::f4::f5::f6::f7::f8::f9::e0::e1::e2::e3::e4::e5::e6::e7::e8::e9::d0::d1::d2::d3::d4::d5::d6::d7::d8::d9::c0::c3::c4::c5::c6::c7::c8::c9::b0::b1::b2::b3::b4::b5::b6::b7::b8::b9::a0::k4::k5::k6::k7::k8::k9::j0::j1::j2::j3::j4::j5::j6::j7::j8::j9::i0::i1::i2::i3::i4::i5::i6::a1::a2::a3::a4::a5::a6::a8::a9::[]).toArray,[]⟩ w:=by
 obtain⟨X,h4,hB,hD,hl,hG,k0⟩:=h;have hS:=hB.nil (e:=85) (sz:=3) (by decide);simp only[List.cons_append,List.nil_append]at hS;obtain⟨HS,HD,HG⟩:=K3 hS hD hG
 have H8:Hid (∀W:World,w.grownBy W none->W.cell? ⟨o,1,none⟩=some (.slice none 0 0)/\W.cell? ⟨o,2,none⟩=some (.int .i64 ((0:Nat):Int))/\W.cell? ⟨mx,1,none⟩=some (.int .i64 (st:Int))/\W.cell? ⟨mx,2,none⟩=some (.slice fA fN fC)):=Kh (fun W hg=>by
  have hb:=(HS.out.grow hg).box;have q1:=zG hb 1;have q2:=zG hb 2;simp only[List.getElem_toArray,List.getElem_cons_zero,List.getElem_cons_succ]at q1 q2
  exact⟨q1,q2,zJ c1 hg,zJ c2 hg⟩)
 have l1:IntKind.i64.wrap (st:Int)=st:=wG (by omega);clear hB hD hG hS c1 c2
 conv=>arg 2;whnf
 obtain⟨w7,h8⟩:=Nm w.drew;have H5:w.grownBy w7 none:=by rw[h8];exact zU w none
 have k1:=Kh h8;have H0:=Kh H5;clear h8 H5;refine wp_region_noPanic ?_;refine yN (G:=wF 23 (fun _=>True) (fun W=>W.cell? ⟨o,1,none⟩=some (.slice none 0 0)/\W.cell? ⟨o,2,none⟩=some (.int .i64 ((0:Nat):Int))/\W.cell? ⟨mx,1,none⟩=some (.int .i64 (st:Int))/\W.cell? ⟨mx,2,none⟩=some (.slice fA fN fC))) (by kernel_rfl) ?_;rw[<-k1.out];have H6:Hid (BoxS B X o 66 w0 w (⟨B,22,.slice (some ⟨gb,0,none⟩) k k,k,h4,1⟩::⟨B,85,.slice none 0 0,0,[],3⟩::[]) #[.slice (some ⟨gb,0,none⟩) k k,.slice none 0 0,.int .i64 ((0:Nat):Int)] w7):=Kh (HS.out.grow H0.out);have C:=Kh (H8.out w7 H0.out);refine zO 0 ⟨trivial,fun _=>C.out⟩ ?_;refine zO 1 ⟨trivial,fun _=>C.out⟩ ?_;refine zO 2 ⟨trivial,fun _=>C.out⟩ ?_;refine zO 3 ⟨trivial,fun _=>C.out⟩ ?_;refine xD 4 ⟨trivial,fun _=>C.out⟩ ?_;refine zO 5 ⟨trivial,fun _=>C.out⟩ ?_;refine zO 6 ⟨trivial,fun _=>C.out⟩ ?_;refine zO 7 ⟨trivial,fun _=>C.out⟩ ?_;refine xD 8 ⟨trivial,fun _=>C.out⟩ ?_;refine zO 9 ⟨trivial,fun _=>C.out⟩ ?_;refine xD 10 ⟨trivial,fun _=>C.out⟩ ?_;refine zO 11 ⟨trivial,fun _=>C.out⟩ ?_;refine zO 12 ⟨trivial,fun _=>C.out⟩ ?_;refine xD 13 ⟨trivial,fun _=>C.out⟩ ?_;refine zO 14 ⟨trivial,fun _=>C.out⟩ ?_;refine zO 15 ⟨trivial,fun _=>C.out⟩ ?_;refine zO 16 ⟨trivial,fun _=>C.out⟩ ?_;refine xD 17 ⟨trivial,fun _=>C.out⟩ ?_;refine zO 18 ⟨trivial,fun _=>C.out⟩ ?_;refine oneG (i:=19) (by kernel_rfl) rfl (fun K hK=>?_);go_simp;have h5:=heap_alloc_new w7 (.cells #[Value.int .i64 (st:Int),.slice fA fN fC,.int .i64 ((0:Nat):Int)] 85);have h6:=Ga w7 (.cells #[Value.int .i64 (st:Int),.slice fA fN fC,.int .i64 ((0:Nat):Int)] 85) none;obtain⟨gR,H4⟩:=Nm w7.heap.size;obtain⟨w9,h3⟩:=Nm (w7.alloc (.cells #[Value.int .i64 (st:Int),.slice fA fN fC,.int .i64 ((0:Nat):Int)] 85));rw[<-H4]at h5⊢;rw[<-h3]at h5 h6
 try rw[<-h3]
 try rw[show w7.alloc (.cells #[Value.int .i64 (st:Int),.slice fA fN fC,.int .i64 0] 85)=w9 from h3.symm]
 have h2:Hid (BoxS B X o 66 w0 w (⟨B,22,.slice (some ⟨gb,0,none⟩) k k,k,h4,1⟩::⟨B,85,.slice none 0 0,0,[],3⟩::[]) #[.slice (some ⟨gb,0,none⟩) k k,.slice none 0 0,.int .i64 ((0:Nat):Int)] w9):=Kh (H6.out.grow h6);have H7:=Kh (zC H0.out h6);have C9:=Kh (H8.out w9 H7.out);refine hK.out _ _ ⟨trivial,fun _=>C9.out⟩ ?_;clear hK K C H4 h3 h6
 try simp only[Act.put,sPa,sPb,sPc]
 have H2:=h2.out.own (r:=⟨B,85,.slice none 0 0,0,[],3⟩) (by simp);have H1:=Nat.le_trans h2.out.base h2.out.wk;refine oneG (i:=20) (by kernel_rfl) rfl (fun K hK=>?_);refine qK rfl (.tmp 75) (.tmp 90) 64 rfl qLP B (.slice none 0 0) 0 [] rfl H2 [Value.int .i64 (st:Int),.slice fA fN fC,.int .i64 ((0:Nat):Int)] gR rfl (0,0) rfl h5 ?z1 ?z2 ?z3 H1 ?_
 case z1=>intro v hv;simp only[List.mem_cons,List.not_mem_nil,or_false]at hv;rcases hv with rfl|rfl|rfl<;>rfl
 case z2=>unfold maxLen;omega
 case z3=>decide
 intro sN cN wM h1 h9 H3;have h7:Hid (BoxS B X o 66 w0 w (⟨B,22,.slice (some ⟨gb,0,none⟩) k k,k,h4,1⟩::⟨B,85,.slice sN 1 cN,1,[Value.int .i64 (st:Int),.slice fA fN fC,.int .i64 ((0:Nat):Int)],3⟩::[]) #[.slice (some ⟨gb,0,none⟩) k k,.slice none 0 0,.int .i64 ((0:Nat):Int)] wM):=Kh (h2.out.appAt (j:=1) rfl h1 h9 H3);have h0:w9.grownBy wM none:=h9;have l0:Hid (we.grownBy wM (some o)):=Kh (zC (zC HG.out H7.out) h0)
 have CM:Hid (wM.cell? ⟨o,1,none⟩=some (.slice none 0 0)/\wM.cell? ⟨o,2,none⟩=some (.int .i64 ((0:Nat):Int))/\wM.cell? ⟨mx,1,none⟩=some (.int .i64 (st:Int))/\wM.cell? ⟨mx,2,none⟩=some (.slice fA fN fC)):=Kh (by
  have q1:=zG h7.out.box 1;have q2:=zG h7.out.box 2;simp only[List.getElem_toArray,List.getElem_cons_zero,List.getElem_cons_succ]at q1 q2
  exact⟨q1,q2,zJ C9.out.2.2.1 h0,zJ C9.out.2.2.2 h0⟩)
 refine hK.out _ _ ⟨trivial,fun _=>CM.out⟩ ?_;clear hK K C9 h2 H6 h1 h9 H3 h5 H2 H1 h0
 try simp only[Act.put,sPa,sPb,sPc]
 refine zO 21 ⟨trivial,fun _=>CM.out⟩ ?_;refine zO 22 ⟨trivial,fun _=>CM.out⟩ ?_;refine oneG (i:=23) (by kernel_rfl) rfl (fun K hK=>?_);have q1:=CM.out.1;have f1:=zA h7.out.box 1;go_simp;refine hK.out _ _ ⟨trivial,fun h=>by simp at h⟩ ?_;clear hK K q1 f1 CM
 try simp only[Act.put,sPa,sPb,sPc]
 refine rE (by kernel_rfl) ?_ _;refine NoPanic.normal ?_;have hZ:=h7.out.set 1 (.slice sN 1 cN);have H9:we.grownBy (wM.setCell ⟨o,1,none⟩ (.slice sN 1 cN)) (some o):=zH l0.out (zF wM ⟨o,1,none⟩ _);exact a7 _ _ _ _ _ _ _ _ _ _ _ _ _ _ _ _ _ _ _ _ _ _ _  _ ⟨X,h4,sN,cN,hZ.rebase,HD.out.kept hZ.kept hZ.wk,hl,H9,k0⟩
theorem sC.apart {wm w:World}{v:Value}{M:DfaV}{n k fb fo fc b off cap:Nat}{RB RO RC:Nat->Nat}(h:sC wm w v M)(hv:v=dAgg k (st0 M) fb fo fc b off cap n)(a9:DAt w.heap.size w M n k fb fo fc b off cap RB RO RC){ty o:Nat}{cs:Array Value}{m:Nat×Nat}(ho:w.heap[o]?=some (.cells cs ty m))(h1:ty≠3)(h2:ty≠22)(h3:ty≠4):b≠o/\fb≠o/\∀q,q<n->RB q≠o:=by
 obtain⟨o',hs,sf,cf,sn,cn,e,_,hb⟩:=h;have hn:=a9.ok.n1;rw[hv]at e;simp only[dAgg,Value.agg.injEq,Array.mk.injEq,List.cons.injEq,Value.slice.injEq,Value.int.injEq,true_and,and_true]at e;obtain⟨_,_,⟨rfl,e1,rfl⟩,⟨rfl,e2,rfl⟩⟩:=e;have hN:=hb.ownN;have hF:=hb.ownF;have h5:=zS hN ho (fun e=>h2 e.symm);have h6:=zS hF ho (fun e=>h3 e.symm);refine⟨fun e=>h5 (by rw[e];rfl),fun e=>h6 (by rw[e];rfl),fun q hq e=>?_⟩;obtain⟨nb,e3,_,_,h0⟩:=xI hN (by rw[a9.ok.nl];exact hn);simp only[Option.some.injEq,Addr.mk.injEq]at e3;obtain⟨rfl,rfl,_⟩:=e3;have h4:q<hs.length:=by rw[hb.rows.1,a9.ok.nl];exact hq
 have c1:=h0.cell q h4;have c2:=a9.hd q hq;rw[Nat.zero_add,c1]at c2;have c3:=hb.rows.2 q h4 (by rw[a9.ok.nl];exact hq);rw[Oj c2]at c3;rcases c3 with ⟨c4,_⟩|⟨b2,off2,cap2,cur,m2,c4,_,_,_,c5,_⟩
 ·simp at c4
 simp only[Value.slice.injEq,Option.some.injEq,Addr.mk.injEq]at c4;rw[<-c4.1.1,e,ho]at c5;simp at c5;exact h1 c5.2.1
inductive SysA (w0 we:World)(B o gb k a:Nat)(done:List (List Nat))(w:World):Prop
 | mk (X:Nat->Prop) (hsD:List Value) (hB:BoxS B X o 66 w0 w (⟨B,22,.slice (some ⟨gb,0,none⟩) k k,k,hsD++List.replicate (k-a) (.slice none 0 0),1⟩::[]) #[.slice (some ⟨gb,0,none⟩) k k,.slice none 0 0,.int .i64 ((0:Nat):Int)] w)
  (hD:xW X 3 nats w hsD done) (hl:hsD.length=a/\done.length=a) (hG:we.grownBy w (some o)) (hgb:we.heap.size<=gb) (hB0:we.heap.size<=B)
section
variable {w0 we w:World} {B o gb k a q r:Nat} {done:List (List Nat)} {cur:List Nat}
theorem SysA.go (h:SysA w0 we B o gb k a done w)(ha:a<k):SysG w0 we B o gb k a 0 (k-(a+1)) done [] w:=by
 obtain⟨X,h0,hB,hD,⟨h2,h1⟩,hG,h3,h4⟩:=h;have hS:=hB.nil (e:=3) (sz:=1) (by decide);rw[show k-a=(k-(a+1))+1 by omega,List.replicate_succ]at hS;exact⟨X,h0,none,0,hS,hD,⟨h2,h1,by omega,rfl⟩,hG,h3,h4⟩
theorem SysG.fin (h:SysG w0 we B o gb k a q r done cur w):SysA w0 we B o gb k (a+1) (done++[cur]) w:=by
 obtain⟨X,h0,sR,cR,hB,hD,⟨h2,h1,h6,h5⟩,hG,h3,h4⟩:=h;have hR:=BoxS.retire (rs:=⟨B,22,.slice (some ⟨gb,0,none⟩) k k,k,h0++.slice sR q cR::List.replicate r (.slice none 0 0),1⟩::[]) (r:=⟨B,3,.slice sR q cR,q,nats cur,1⟩) hB;have hX:RowX (fun j=>X j\/(Value.slice sR q cR).ownBlock=some j) 3 w (.slice sR q cR) (nats cur):=RowX.of_owns (hB.own (r:=⟨B,3,.slice sR q cR,q,nats cur,1⟩) (by simp)) (fun j hj=>.inr hj);refine⟨_,h0++[.slice sR q cR],?_,(hD.mono (fun j hj=>.inl hj)).snoc hX,⟨by simp[h2],by simp[h1]⟩,hG,h3,h4⟩;rw[show k-(a+1)=r by omega,List.append_assoc];exact hR
theorem SysA.full (h:SysA w0 we B o gb k k done w):SysF w0 we B o gb k done w:=by
 obtain⟨X,h0,hB,hD,⟨h1,h3⟩,hG,h4,h2⟩:=h;rw[Nat.sub_self,List.replicate_zero,List.append_nil]at hB;exact⟨X,h0,hB,hD,h1,hG,h2⟩
theorem SysA.g (h:SysA w0 we B o gb k a done w):we.grownBy w (some o):=by
 obtain⟨X,h0,hB,hD,hl,hG,_⟩:=h;exact hG
theorem SysG.g (h:SysG w0 we B o gb k a q r done cur w):we.grownBy w (some o):=by
 obtain⟨X,h0,sR,cR,hB,hD,hl,hG,_⟩:=h;exact hG
theorem SysA.cell (h:SysA w0 we B o gb k a done w):w.cell? ⟨o,0,none⟩=some (.slice (some ⟨gb,0,none⟩) k k):=by
 obtain⟨X,h0,hB,hD,_⟩:=h;have q0:=zG hB.box 0;simpa only[List.getElem_toArray,List.getElem_cons_zero,List.getElem_cons_succ] using q0
end
theorem qUD {w:World}{base e cN:Nat}{sN:Option Addr}{x0 x1 x2:Value}(h:w.ownsRow base e 3 (.slice sN 1 cN) 1 [x0,x1,x2]):∃pb,sN=some ⟨pb,0,none⟩/\1<=cN/\cN<=maxLen/\w.cell? ⟨pb,0,none⟩=some x0/\w.cell? ⟨pb,1,none⟩=some x1/\w.cell? ⟨pb,2,none⟩=some x2:=by
 rcases h.2 with ⟨h',h0⟩|⟨g,cap,cur,h1,hb,hg,hnc,hcm,hcs,htake⟩
 ·simp at h'
 simp only[Value.slice.injEq]at h1;obtain⟨rfl,-,rfl⟩:=h1
 have ht:∀i (u:Value),[x0,x1,x2][i]?=some u->w.cell? ⟨g,i,none⟩=some u:=fun i u hu=>by
  rw[cell_of_row w g i _ _ _ hg,<-Array.getElem?_toList];rw[<-htake]at hu;rw[List.getElem?_take]at hu
  split at hu
  ·exact hu
  cases hu
 exact⟨g,rfl,hnc,hcm,ht 0 _ rfl,ht 1 _ rfl,ht 2 _ rfl⟩
def qQD (w0:World)(o n k:Nat)(M:DfaV)(w':World):Prop:=∃(gb pb cp:Nat) (fA:Option Addr) (fC:Nat),
 w'.heap[o]?=some (.cells #[.slice (some ⟨gb,0,none⟩) k k,.slice (some ⟨pb,0,none⟩) 1 cp,.int .i64 (n:Int)] 66 (0,0))/\mL w'.heap.size w' (.slice (some ⟨gb,0,none⟩) k k) (tH M n k) /\
 w'.cell? ⟨pb,0,none⟩=some (.int .i64 ((st0 M:Nat):Int))/\w'.cell? ⟨pb,1,none⟩=some (.slice fA n fC)/\w'.cell? ⟨pb,2,none⟩=some (.int .i64 0)/\1<=cp/\cp<=maxLen/\RowT w'.heap.size 4 w' (.slice fA n fC) (bls M.final)/\w0.grownBy w' none
theorem qDW {wm w0 w:World}{o n k:Nat}{v:Value}{M:DfaV}(a8:w.heap[o]?=some (.cells #[.slice none 0 0,.slice none 0 0,.int .i64 0] 66 (0,0)))(h0:w0.grownBy w none)(ho:w0.heap.size<=o)(a9:sC wm w v M)(hM:VD M n k)(a5:n<=512):Calls Try.prog 29 #[.pointer (some ⟨o,0,none⟩),v] w fun e w'=>(32<n/\e=.returned (.int .i64 3)/\w0.grownBy w' none)\/(n<=32/\e=.returned (.int .i64 0)/\qQD w0 o n k M w'):=by
 obtain⟨fb,fo,fc,b,off,cap,RB,RO,RC,hv,h8⟩:=a9.dfa.at hM;obtain⟨d4,e4,d7⟩:=a9.apart hv h8 a8 (by decide) (by decide) (by decide);subst hv;obtain⟨we,H6⟩:=Nm (w.alloc (.cells #[.int .i64 (k:Int),.int .i64 ((st0 M:Nat):Int),.slice (some ⟨fb,fo,none⟩) n fc,.slice (some ⟨b,off,none⟩) n cap] 37));obtain⟨mx,a2⟩:=Nm w.heap.size;have h6:w.grownBy we none:=by rw[H6];exact Ga w _ none
 have H4:=heap_alloc_new w (.cells #[.int .i64 (k:Int),.int .i64 ((st0 M:Nat):Int),.slice (some ⟨fb,fo,none⟩) n fc,.slice (some ⟨b,off,none⟩) n cap] 37);rw[<-H6,<-a2]at H4;have h3:=zB a8 h6;have H7:o≠mx:=fun e=>by rw[e,H4]at h3;simp at h3
 obtain⟨m0,m1,m2,m3⟩:=zM H4;have H3:mx<we.heap.size:=zQ H4;have a4:b<we.heap.size:=Nat.lt_of_lt_of_le h8.bltw h6.size;have e0:st0 M<n:=by have:=hM.sn;have:=hM.s0;unfold st0;omega
 have g2:=hM.k1;have e3:=hM.k6;have g1:=hM.n1;have H1:=h8.cap;have c9:=H1.1;have c8:cap<=9223372036854775807:=by have:=H1.2;unfold maxLen at this;omega
 have e5:=h8.fcap.1
 have b9:∀q a,q<n->a<k->nx M q a<n:=fun q a hq ha=>by
  have h1:=hM.lo q a hq ha;have h2:=hM.hi q a hq ha;unfold nx;show (ent M.next q a).toNat<n;omega
 have keep:∀(W:World),we.grownBy W (some o)->∀(bb i:Nat) (u:Value),bb≠o->we.cell? ⟨bb,i,none⟩=some u->W.cell? ⟨bb,i,none⟩=some u:=fun W hg bb i u hb hc=>(World.cell?_of_block (hg.block bb (World.block_lt_of_cell? _ _ hc) (fun e=>hb (Oj e)))).trans hc;have a0:Hid (∀W:World,we.grownBy W (some o)->W.cell? ⟨mx,0,none⟩=some (.int .i64 (k:Int))/\W.cell? ⟨mx,1,none⟩=some (.int .i64 ((st0 M:Nat):Int))/\W.cell? ⟨mx,2,none⟩=some (.slice (some ⟨fb,fo,none⟩) n fc)/\W.cell? ⟨mx,3,none⟩=some (.slice (some ⟨b,off,none⟩) n cap)):=Kh (fun W hg=>⟨keep W hg mx 0 _ H7.symm m0,keep W hg mx 1 _ H7.symm m1,keep W hg mx 2 _ H7.symm m2,keep W hg mx 3 _ H7.symm m3⟩);have f7:Hid (∀W:World,we.grownBy W (some o)->∀q,q<n->W.cell? ⟨b,off+q,none⟩=some (.slice (some ⟨RB q,RO q,none⟩) k (RC q))):=Kh (fun W hg q hq=>keep W hg b _ _ d4 (zJ (h8.hd q hq) h6));have f8:Hid (∀W:World,we.grownBy W (some o)->∀q a,q<n->a<k->W.cell? ⟨RB q,RO q+a,none⟩=some (.int .i64 ((nx M q a:Nat):Int))):=Kh (fun W hg q a hq ha=>keep W hg (RB q) _ _ (d7 q hq) (zJ (h8.el q a hq ha) h6));have d9:Hid (∀q,q<n->(k<=RC q/\RC q<=maxLen)/\RB q<we.heap.size):=Kh (fun q hq=>⟨h8.rcap q hq,Nat.lt_of_lt_of_le (h8.rlt q hq).2 h6.size⟩);obtain⟨f5,H5,f3,f6⟩:=K4 b9 h3 H6 a2
 have f9:Hid (∀W:World,we.grownBy W (some o)->RowT W.heap.size 4 W (.slice (some ⟨fb,fo,none⟩) n fc) (bls M.final)):=Kh (fun W hg=>by
  obtain⟨o',hs,sf,cf,sn,cn,e,_,hb⟩:=a9;simp only[dAgg,Value.agg.injEq,Array.mk.injEq,List.cons.injEq,Value.slice.injEq,Value.int.injEq,true_and,and_true]at e;obtain⟨_,_,⟨rfl,e1,rfl⟩,_⟩:=e;have hr:=RowT.of_owns hb.ownF;rw[<-e1]at hr
  exact((hr.kept h6 (by simp)).kept hg (fun j hj=>.inr ⟨_,_,_,by have:=Oj hj;subst this;exact h3,by decide⟩)).mono (Nat.le_trans h6.size hg.size))
 have b6:Hid (w0.grownBy we none):=Kh (zC h0 h6);have f4:=Kh ho;have q35:∀(W:World) (a:Option Addr) (n c n' c':Nat),(binOp .eql 35 (.slice a n c) (.slice none n' c')).run Try.prog W=.ok (.bool a.isNone) W:=fun W a n c n' c'=>Lib.run_eql_slice_nil W _ _ a n c n' c' Try.underlying35;have b0:=zG h3 0;have b2:=zG h3 2;simp only[List.getElem_toArray,List.getElem_cons_zero,List.getElem_cons_succ]at b0 b2;have f1:=zA h3 0;clear a9 h8 d4 e4 d7 a8 h0 H4 h6 keep b9 H6 a2 h3 m0 m1 m3;unfold dAgg;go_enter Try.func29,Try.ntmps29;go_upto_region 1 with fail;rw[<-f3.out,<-f6.out];go_upto_region 2 with fail;by_cases hn:32<n
 ·have e1:decide (32<(n:Int))=true:=by rw[decide_eq_true_eq];omega
  go_wp2;go_ret;exact .inl ⟨hn,rfl,b6.out⟩
 have e1:decide (32<(n:Int))=false:=by rw[decide_eq_false_iff_not];omega
 have H2:n<=32:=by omega
 go_upto_region 5 with fail;have c0:=(a0.out we (zV _ _)).1;go_upto_region 6 with (first|(at_make;refine bN rfl _ _ _ rfl wP rfl .i64 .i64 _ _ k rfl rfl rfl rfl ?b1 ?b2 ?_;(case b1=>omega);(case b2=>(unfold maxLen;omega));intro w5 h5 H0 a3;(have b05:=zJ b0 H0);(have f0:=zA (zB H5.out H0) 0))|fail)
 obtain⟨gb,H8⟩:=Nm we.heap.size;rw[<-H8]at h5⊢;have d3:=zB H5.out H0;have h4:w5.ownsRow we.heap.size 22 1 (.slice (some ⟨gb,0,none⟩) k k) k (List.replicate k (.slice none 0 0)):=by rw[<-H8];exact h5
 have d6:BoxS we.heap.size (fun _=>False) o 66 w0 w5 (⟨we.heap.size,22,.slice (some ⟨gb,0,none⟩) k k,k,List.replicate k (.slice none 0 0),1⟩::[]) #[.slice none 0 0,.slice none 0 0,.int .i64 ((0:Nat):Int)] w5 :=
  ⟨⟨fun r hr=>by rw[List.mem_singleton]at hr;subst hr;exact h4,by simp,fun r hr j hj hx=>hx.elim,fun j hj=>hj.elim⟩,fun r hr=>by rw[List.mem_singleton]at hr;subst hr;exact⟨rfl,by simp⟩,d3,fun h=>h,b6.out.size,f4.out,H0.size,zC b6.out H0,xX.refl _ _,Nat.le_refl _⟩
 have b3:=d6.set 0 (.slice (some ⟨gb,0,none⟩) k k);obtain⟨w6,a1⟩:=Nm (w5.setCell ⟨o,0,none⟩ (.slice (some ⟨gb,0,none⟩) k k));have d8:we.grownBy w6 (some o):=by rw[a1];exact zH (zC (zV we (some o)) H0) (zF w5 ⟨o,0,none⟩ _)
 rw[<-a1]at b3⊢;have hA:SysA w0 we we.heap.size o gb k 0 [] w6:=⟨_,[],b3.rebase,xW.nil,⟨rfl,rfl⟩,d8,by rw[H8];exact Nat.le_refl _,Nat.le_refl _⟩;have HA:=Kh hA;have q6:=hA.cell;clear h5 H0 a3 b05 f0 d3 h4 d6 b3 a1 d8 hA b0 b2 f1 H8;go_wp2
 go_loopg [6,7,34] k (fun gh a6 a7 i wr=>∃a:Nat,gh+a=k/\i=.int .i64 a/\SysA w0 we we.heap.size o gb k a ((tH M n k).take a) wr)
 case atStart=>exact⟨0,rfl,rfl,HA.out⟩
 clear HA q6;obtain⟨a,c7,rfl,hA⟩:=hrel;have b5:=Kh c7;have HA:=Kh hA;clear c7;by_cases ha:a<k
 ·have e8:(a:Int)<k:=by omega
  have HS:=Kh (hA.go ha);clear hA;go_wp2
  go_loopg [7,38] n (fun gh a7 i wr=>∃q:Nat,gh+q=n/\i=.int .i64 q/\SysG w0 we we.heap.size o gb k a q (k-(a+1)) ((tH M n k).take a) ((colD M n a).take q) wr)
  case atStart=>exact⟨0,rfl,rfl,HS.out⟩
  clear HS;obtain⟨q,c6,rfl,hS⟩:=hrel;have b4:=Kh c6;have HS:=Kh hS;clear c6;by_cases hq:q<n
  ·have e2:(q:Int)<n:=by omega
   have hg:=hS.g;have c3:=(a0.out _ hg).2.2.2;have c4:=f7.out _ hg q hq;have c5:=f8.out _ hg q a hq ha;have g0:Hid ((colD M n a).take q++[nx M q a]=(colD M n a).take (q+1)):=Kh (qDE hq).symm;clear hS hg;go_upto_region 12 with fail;refine qQQ HS.out e3 hq H2 (Nat.lt_of_lt_of_le (f5.out q a hq ha) H2) c3 c4 c5 H1 (d9.out q hq).1 ⟨H3,a4,(d9.out q hq).2⟩ ?_;intro z41 z42 z43 z44 z45 z46 z47 z48 z49 z50 z51 z52 z53 z54 z55 z56 z57 z58 z59 z60 z61 z62 z63 z64 z65 z66 z67 z68 w9 h9;rw[g0.out]at h9;have H9:=Kh h9;clear h9 c3 c4 c5;go_wp2;go_roundg (n-(q+1))
   case measure=>have:=b4.out;omega
   exact⟨q+1,by have:=b4.out;omega,by go_num,H9.out⟩
  have b8:q=n:=by have:=b4.out;omega
  have e2:¬(q:Int)<n:=(by omega);have h9:=hS.fin;rw[b8,List.take_of_length_le (l:=colD M n a) (by rw[mD];exact Nat.le_refl _),<-bO ha]at h9;have H9:=Kh h9;clear h9 hS b8;go_wp2;go_roundg (k-(a+1))
  case measure=>have:=b5.out;omega
  exact⟨a+1,by have:=b5.out;omega,by go_num,H9.out⟩
 have d5:a=k:=by have:=b5.out;omega
 have e8:¬(a:Int)<k:=(by omega);have h9:=hA;rw[d5,List.take_of_length_le (by rw[yQ];exact Nat.le_refl _)]at h9;have HF:=Kh h9.full;have hg:=hA.g;have c1:=(a0.out _ hg).2.1;have c2:=(a0.out _ hg).2.2.1;clear h9 hA d5 hg;go_upto_region 15 with fail;refine qQR HF.out c1 c2 (Nat.lt_of_lt_of_le e0 H2) H3 ?_;intro z71 z72 z73 z74 z75 z76 z77 z78 z79 z80 z81 z82 z83 z84 z85 z86 z87 z88 z89 z90 z91 z92 z93 w9 h9;obtain⟨X,b7,sN,cN,hB,hD,hl,hG,g3⟩:=h9;have d2:=zG hB.box 2;simp only[List.getElem_toArray,List.getElem_cons_zero,List.getElem_cons_succ]at d2;have f2:=zA hB.box 2;obtain⟨HB,HD,HG⟩:=K3 hB hD hG;clear hB hD hG c1 c2;go_wp2;go_ret;have hZ:=HB.out.set 2 (.int .i64 (n:Int));simp only[sPa,sPb,sPc]at hZ;obtain⟨pb,rfl,e7,e6,d0,d1,d2⟩:=qUD (hZ.own (r:=⟨we.heap.size,85,.slice sN 1 cN,1,[.int .i64 ((st0 M:Nat):Int),.slice (some ⟨fb,fo,none⟩) n fc,.int .i64 ((0:Nat):Int)],3⟩) (by simp));have e9:=zH HG.out (zF w9 ⟨o,2,none⟩ (.int .i64 (n:Int)));have h7:qQD w0 o n k M (w9.setCell ⟨o,2,none⟩ (.int .i64 (n:Int))):=⟨gb,pb,cN,some ⟨fb,fo,none⟩,fc,hZ.box,⟨b7,RowT.of_owns (hZ.own (r:=⟨we.heap.size,22,.slice (some ⟨gb,0,none⟩) k k,k,b7,1⟩) (by simp)),(HD.out.kept hZ.kept hZ.wk).rowsT⟩,d0,d1,d2,e7,e6,f9.out _ e9,hZ.grown⟩
 first|exact .inr ⟨H2,rfl,h7⟩|exact⟨H2,rfl,h7⟩|exact⟨rfl,h7⟩|exact⟨H2,h7⟩
end Go.Proofs.Ytobakifdllameaa
