/- Part 7 of the proof. -/
import Derived.Test.YtobakifdllameaaGreatQd6
import Derived.Deep.OwnRows
import Derived.Deep.DeepCutAuto
import Derived.BigQuiet
set_option linter.unusedVariables false
set_option linter.unusedSimpArgs false
set_option maxRecDepth 100000
set_option maxHeartbeats 16000000
namespace Go.Proofs.YtobakifdllameaaGreat
open Go.Maps Go.RowKit
def qTN (w:World)(m:DfaV)(e:Ending)(w':World):Prop:=∃v sv,e=.returned (.tuple #[v,sv])/\tW w w' v m/\w.grownBy w' none
def fB (d:DfaV)(p:List Nat)(k q x:Nat):List Nat:=(List.range x).map (fun a=>p.getD (nx d q a) 0)++List.replicate (k-x) 0
theorem mV {d:DfaV}{p:List Nat}{k q x:Nat}(h:x<=k):(fB d p k q x).length=k:=by simp[fB];omega
theorem qKV {d:DfaV}{p:List Nat}{k q x:Nat}(h:x<k):(fB d p k q x).set x (p.getD (nx d q x) 0)=fB d p k q (x+1):=by
 unfold fB;rw[List.set_append_right _ _ (by simp),List.range_succ,List.map_append,show k-x=(k-(x+1))+1 by omega,List.replicate_succ];simp
theorem qHJ {d:DfaV}{n k q:Nat}{p:List Nat}(hd:VD d n k)(hq:q<n):nats (fB d p k q k)=ints (uD p (d.next.getD q [])):=by
 have e:(fB d p k q k).map (fun(x:Nat)=>(x:Int))=uD p (d.next.getD q []):=by
  refine List.ext_getElem (by rw[List.length_map,mV (Nat.le_refl k),uD,List.length_map,hd.row q hq]) fun i h1 h2=>?_;have hi:i<k:=by rw[List.length_map,mV (Nat.le_refl k)]at h1;exact h1
  rw[<-zN (d:=0) h2,iT (by rw[hd.row q hq];exact hi)];simp[fB,hi,nx,entN,ent]
 rw[<-e];simp[nats,ints]
theorem qBT (B:Nat)(w:World)(v:Value)(d:DfaV)(n k:Nat)(hB:B<=w.heap.size)(h:tR B w v d)(hd:VD d n k)(h5:n<=512):Calls Tryz.prog 77 #[v] w (qTN w (minD (wR d k) k)):=by
 have c8:=h;obtain⟨fb,fo,fc,b,off,cap,RB,RO,RC,rfl,z2⟩:=h.at hd;have E0:=hd.n1;have E1:=hd.k6;have E2:=hd.k1;have i2:=kQ hd;have z7:=(wJ hd).2;obtain⟨T,hT⟩:=Nm (wR d k);obtain⟨N,hN⟩:=Nm ((yJ d k).length);rw[<-hT,<-hN]at i2;rw[<-hN]at z7;rw[<-hT];have F2:=i2.n1;obtain⟨H0,o2,B7⟩:=K3 i2 hT hN;obtain⟨p,hp⟩:=Nm (yK T k);have e9:p.length=N:=by rw[hp,vD,i2.hn]
 have q6:Norm p:=by rw[hp];exact uG T k
 have f5:minD T k=wR (uL T p) k:=by rw[hp];rfl
 obtain⟨HP,c4,o7⟩:=K3 hp q6 f5;obtain⟨S,hS⟩:=Nm (st0 d);have p9:dAgg k (st0 d) fb fo fc b off cap n=.agg #[.int .i64 (k:Int),.int .i64 (S:Int),.slice (some ⟨fb,fo,none⟩) n fc,.slice (some ⟨b,off,none⟩) n cap]:=by rw[hS];rfl
 rw[p9]at c8⊢;obtain⟨b7,j6,j2,p6⟩:=qB w #[.int .i64 (k:Int),.int .i64 (S:Int),.slice (some ⟨fb,fo,none⟩) n fc,.slice (some ⟨b,off,none⟩) n cap] #[.int .i64 0,.int .i64 0,.slice none 0 0,.slice none 0 0] 29;obtain⟨wA,m7⟩:=Nm ((w.alloc (.cells #[.int .i64 (k:Int),.int .i64 (S:Int),.slice (some ⟨fb,fo,none⟩) n fc,.slice (some ⟨b,off,none⟩) n cap] 29)).alloc (.cells #[.int .i64 0,.int .i64 0,.slice none 0 0,.slice none 0 0] 29));rw[<-m7]at b7 j6 j2 p6;obtain⟨c0,c1,c2,c3⟩:=zL b7;obtain⟨P,hP⟩:=Nm w.heap.size;obtain⟨Q,hQ⟩:=Nm (w.heap.size+1);have B4:=Kh hP;have B2:Hid (Q=P+1):=Kh (by omega);have F1:P<Q:=by omega
 have E8:Q<wA.heap.size:=by omega
 have F0:w.heap.size<=P:=by omega
 have A3:B<=wA.heap.size:=by omega
 rw[<-hQ]at j6;rw[<-hP]at b7 c0 c1 c2 c3 hB;obtain⟨t8,t7,C1,A6⟩:=K4 b7 j6 j2 m7;have i3:=Kh (qBO B wA _ d n k A3 (c8.kept j2 (by simp)) hd h5);clear b7 j6 j2 m7 z2 hd h c8 p9 hS p6 hP hQ hT hN hp q6 f5 i2;go_enter Tryz.func77,Tryz.ntmps77;go_upto_region 1 with fail;rw[<-A6.out,<-B4.out,<-B2.out];go_wp2_with fail;refine i3.out.mono ?_;rintro e w1 ⟨v1,G,rfl,⟨o,hs,sf,cf,sn,cn,rfl,ho,c9⟩,F5,s0,f7⟩;rw[<-o2.out]at c9⊢;have h6:T.letters=k:=H0.out.hk;have i1:T.start=0:=by rw[o2.out];rfl
 have m9:T.final.length=N:=H0.out.hn;have m8:T.next.length=N:=H0.out.nl
 have j4:tR w1.heap.size w1 (.agg #[.int .i64 (k:Int),.int .i64 0,.slice sf N cf,.slice sn N cn]) T:=by
  have:=c9.dfa;rw[h6,i1,m9,m8]at this;have e:(⟨(k:Int),0,T.final,T.next⟩:DfaV)=T:=by rw[<-h6,<-i1]
  rwa [e]at this
 rw[h6,i1,m9,m8];obtain⟨tfb,tfo,tfc,tb,toff,tcap,TRB,TRO,TRC,ev,a6⟩:=j4.at H0.out;have k8:(st0 T:Int)=0:=by rw[aG H0.out];exact i1
 rw[dAgg,k8,Value.agg.injEq]at ev;have ev:=congrArg Array.toList ev;simp only[List.cons.injEq,Value.slice.injEq,true_and,and_true]at ev;obtain⟨⟨rfl,rfl⟩,rfl,rfl⟩:=ev;have x8:=a6.fcap;have x9:=a6.cap;unfold maxLen at x8 x9;have H7:Hid (∀W:World,w1.grownBy W none->DAt w1.heap.size W T N k tfb tfo cf tb toff cn TRB TRO TRC):=Kh (fun W hg=>a6.kept hg (by simp));clear a6
 obtain⟨zs,k0,k2⟩:∃zs:List Int,Arr w1 G 3 (ints zs)/\zs.length=n/\∀q,q<n->zs.getD q 0 = -1\/∃i:Nat,i<N/\zs.getD q 0=(i:Int):=⟨_,s0,vZ _ _,fun q hq=>by
  rw[cV hq,qJ]
  split
  ·rename_i hm
   exact .inr ⟨_,by rw[B7.out];exact List.idxOf_lt_length_of_mem hm,rfl⟩
  exact .inl rfl⟩
 have A4:=Kh k2.2;have D2:=k2.1;obtain⟨T4,n0⟩:=Nm w1.heap.size;obtain⟨w2,k5⟩:=Nm (w1.alloc (.cells #[.int .i64 (k:Int),.int .i64 0,.slice (some ⟨tfb,tfo,none⟩) N cf,.slice (some ⟨tb,toff,none⟩) N cn] 29));have H8:=Ga w1 (.cells #[.int .i64 (k:Int),.int .i64 0,.slice (some ⟨tfb,tfo,none⟩) N cf,.slice (some ⟨tb,toff,none⟩) N cn] 29) none;have e7:=heap_alloc_new w1 (.cells #[.int .i64 (k:Int),.int .i64 0,.slice (some ⟨tfb,tfo,none⟩) N cf,.slice (some ⟨tb,toff,none⟩) N cn] 29);rw[<-k5]at H8 e7;rw[<-n0]at e7;have D5:=f7.size;have x1:=H8.size;have z4:=zR e7;have E9:Q<T4:=by omega
 obtain⟨d0,d1,d2,d3⟩:=zL e7;have e4:=Kh (zB (zB t8.out f7) H8);have i7:=Kh (zB (zB t7.out f7) H8);obtain⟨t6,A8,A9⟩:=K3 e7 k5 n0;have s1:=Kh (k0.kept H8 (by simp));have E5:=k0.lt;have s9:=Kh (j4.kept H8 (by simp));have C6:=Kh (zC (zC C1.out f7) H8);have p0:=Kh H8;have t4:=Kh (qBW w1.heap.size w2 _ T N k x1 (j4.kept H8 (by simp)) H0.out (by omega));clear c9 s0 h6 i1 m9 m8 j4 k0 k2 e7 k5 H8 f7 i3 t8 t7 c0 c1 c2 c3 n0;obtain⟨a0,a1,a2,a3⟩:=zL e4.out;go_upto_region 2 with fail;rw[<-A8.out,<-A9.out];go_wp2_with fail;refine t4.out.mono ?_;rintro e w3 ⟨G6,rfl,F6,h4,a4⟩;rw[<-HP.out]at h4⊢;rw[e9];have D4:=a4.size;have i9:=Kh (zB e4.out a4);have p3:=Kh (zB i7.out a4);have d9:=Kh (zB t6.out a4);have n9:=Kh (s1.out.kept a4 (by simp));have C7:=Kh (s9.out.kept a4 (by simp));have C5:=Kh (zC C6.out a4);have H6:=Kh (zC p0.out a4);have p5:=Kh h4;have A2:=h4.lt;clear t4 h4 a4 d0 d1 d2 d3 a0 a1 a2 a3 e4 i7 t6 s1 s9;obtain⟨a0,a1,a2,a3⟩:=zL i9.out;obtain⟨oQ,l5⟩:=Nm w3.heap.size;obtain⟨w5,k4⟩:=Nm (w3.alloc (.cells #[.int .i64 (k:Int),.int .i64 0,.slice none 0 0,.slice none 0 0] 29));have m0:=Ga w3 (.cells #[.int .i64 (k:Int),.int .i64 0,.slice none 0 0,.slice none 0 0] 29) none;have g0:=heap_alloc_new w3 (.cells #[.int .i64 (k:Int),.int .i64 0,.slice none 0 0,.slice none 0 0] 29);rw[<-k4]at m0 g0;rw[<-l5]at g0;have A7:=Kh k4;have B5:=Kh l5;have b3:Hid (BX w3 w5 oQ (fun _=>False) k (tV T p 0) (rM T p 0) [] none 0 none 0):=Kh (BX.start g0 (by omega) m0);have y2:=zR g0;clear k4 l5 m0 g0;go_upto_region 4 with fail;rw[<-A7.out,<-B5.out];go_wp2_with fail
 go_loopg [8,9,10,11,12,30] N (fun gh a8 a9 a10 a11 a12 i wr=>∃(q:Nat) (X:Nat->Prop) (hs:List Value) (sf:Option Addr) (cf:Nat) (sn:Option Addr) (cn:Nat),gh+q=N/\i=.int .i64 q/\BX w3 wr oQ X k (tV T p q) (rM T p q) hs sf cf sn cn)
 case atStart=>exact⟨0,_,_,_,_,_,_,rfl,rfl,b3.out⟩
 clear b3;obtain⟨q,X,hs,sf,cf,sn,cn,H9,rfl,e6⟩:=hrel;have e8:=Kh H9;have b3:=Kh e6;have h9:=e6.grown;have d7:=Kh h9;obtain⟨d0,d1,d2,d3⟩:=zL e6.box;obtain⟨t0,t1,t2,t3⟩:=zL (zB d9.out h9);obtain⟨a0,a1,a2,a3⟩:=zL (zB i9.out h9);by_cases hq:q<N
 ·have D8:(q:Int)<N:=by omega
  have cq:=(p5.out.kept h9 (by simp)).nat q (by omega);obtain⟨f4,l6,y6⟩:=lV c4.out (q:=q) (by omega);have a7:=cH (d:=T) c4.out (show q<=p.length by omega);have h6:=cD (d:=T) c4.out (show q<=p.length by omega);obtain⟨M,hM⟩:=Nm (cls (p.take q));obtain⟨c,hc⟩:=Nm (p.getD q 0);have F3:M<=q:=by rw[hM];have:=cls_le (p.take q);rw[List.length_take]at this;omega
  rw[<-hM]at a7 h6 f4 l6;rw[<-hc]at cq f4 l6;obtain⟨HM,HC,j9,o1⟩:=K4 hM hc a7 h6;rw[a7]at d2;rw[h6]at d3;clear H9 e6 h9 l6 y6 hM hc a7 h6;by_cases m4:c<M
  ·have f9:(c:Int)<M:=by omega
   have e1:Hid (tV T p (q+1)=tV T p q/\rM T p (q+1)=rM T p q):=Kh (by
    have:p.getD q 0≠cls (p.take q):=by rw[<-HC.out,<-HM.out];omega
    exact⟨qGW this,qGU this⟩)
   go_wp2;go_roundg (N-(q+1))
   case measure=>have:=e8.out;omega
   exact⟨q+1,X,hs,sf,cf,sn,cn,by have:=e8.out;omega,by go_num,by rw[e1.out.1,e1.out.2];exact b3.out⟩
  have z0:c=M:=by omega
  have f9:¬(c:Int)<M:=by omega
  have e1:Hid (tV T p (q+1)=tV T p q++[T.final.getD q false]/\rM T p (q+1)=rM T p q++[uD p (T.next.getD q [])]):=Kh (by
   have:p.getD q 0=cls (p.take q):=by rw[<-HC.out,<-HM.out];exact z0
   exact⟨qGX this,qGV this⟩)
  have i0:=H7.out wr (zC H6.out d7.out);have H1:=i0.rcap q hq;have l1:=H1.1;have l0:TRC q<=9223372036854775807:=by have:=H1.2;unfold maxLen at this;omega
  obtain⟨rb,l3⟩:=Nm (TRB q);obtain⟨ro,k9⟩:=Nm (TRO q);obtain⟨rc,l2⟩:=Nm (TRC q);have s6:Hid (∀W:World,w3.grownBy W none->W.cell? ⟨tb,toff+q,none⟩=some (.slice (some ⟨rb,ro,none⟩) k rc)):=Kh (fun W hg=>by rw[l3,k9,l2];exact(H7.out W (zC H6.out hg)).hd q hq);have s8:Hid (∀W:World,w3.grownBy W none->∀a,a<k->W.cell? ⟨rb,ro+a,none⟩=some (.int .i64 ((nx T q a:Nat):Int))):=Kh (fun W hg a ha=>by rw[l3,k9];exact(H7.out W (zC H6.out hg)).el q a hq ha);have i5:Hid (∀W:World,w3.grownBy W none->W.cell? ⟨tfb,tfo+q,none⟩=some (.bool (T.final.getD q false))):=Kh (fun W hg=>(H7.out W (zC H6.out hg)).fin hq);rw[<-l2]at l1 l0;clear i0 H1 l3 k9 l2;go_wp2_with (first|(at_make;refine qG rfl _ _ _ rfl yH rfl .i64 .i64 _ _ k rfl rfl rfl rfl ?b1 ?b2 ?_;(case b1=>omega);(case b2=>(unfold maxLen;omega));intro w7 h0 e5 l8;(obtain⟨u0,u1,u2,u3⟩:=zL (zB (zB d9.out d7.out) e5));(have chd:=s6.out _ (zC d7.out e5)))|fail);obtain⟨g,hg⟩:=Nm wr.heap.size;rw[<-hg]at h0 l8⊢
  have p4:Hid (Arr w7 g 3 (nats (fB T p k q 0))):=Kh (by
   rw[show fB T p k q 0=List.replicate k 0 by simp[fB],yN];exact h0)
  have i6:=Kh (b3.out.grow e5);have q8:∀j,X j->j<g:=fun j hj=>by have:=b3.out.lt j hj;omega
  have B8:=Kh q8;have E7:oQ<g:=(by have:=zR b3.out.box;omega);have m1:w3.heap.size<=g:=by have:=d7.out.size;omega
  have C2:=Kh (zC d7.out e5);have F7:=Kh e5.size;have E6:wr.heap.size<=g:=by omega
  clear h0 e5 q8 hg d0 d1 d2 d3 t0 t1 t2 t3 a0 a1 a2 a3 u0 u1 u2 u3 chd cq
  go_loopg [11,12,49] k (fun gh a11 a12 i wr=>∃x:Nat,gh+x=k/\i=.int .i64 x/\Arr wr g 3 (nats (fB T p k q x))/\w7.grownBy wr (some g))
  case atStart=>exact⟨0,rfl,rfl,p4.out,zU _ _⟩
  obtain⟨x,H9,rfl,h0,h9⟩:=hrel;obtain⟨d8,HA,o9⟩:=K3 H9 h0 h9;have h3:=yG C2.out h9 (by show _<=g;omega);have C4:=Kh h3;clear H9;by_cases hx:x<k
  ·have D7:(x:Int)<k:=by omega
   have cel:=s8.out wr h3 x hx;have x4:=pB H0.out hq hx;obtain⟨y,hy⟩:=Nm (nx T q x);rw[<-hy]at cel x4;have x3:(y:Int)<N:=(by omega);have cy:=(p5.out.kept h3 (by simp)).nat y (by omega);have c6:=qKV (d:=T) (p:=p) (q:=q) hx;rw[<-hy]at c6;have o4:=Kh c6;have s5:=Kh (mV (d:=T) (p:=p) (q:=q) (k:=k) (x:=x) (by omega));have ck:=h0.nat x (by rw[s5.out];exact hx);have fk:=h0.frozen x;obtain⟨z,hz⟩:=Nm (p.getD y 0);rw[<-hz]at cy;have HZ:=Kh hz;clear c6 hz hy h0 h9 h3;go_wp2;go_roundg (k-(x+1))
   case measure=>have:=d8.out;omega
   exact⟨x+1,by have:=d8.out;omega,by go_num,by rw[<-o4.out,<-HZ.out];exact HA.out.nat_set x (by rw[s5.out];exact hx) z,zG o9.out (zF wr ⟨g,x,none⟩ _)⟩
  have x5:x=k:=by have:=d8.out;omega
  subst x5;obtain⟨cur,rest,f8,_⟩:=p4.out;have z3:¬X g:=fun hx=>by have:=B8.out g hx;omega
  have H3:=i6.out.put h9 f8 z3 m1;have p2:=Kh H3;have t9:Hid (Arr wr g 3 (ints (uD p (T.next.getD q [])))):=Kh (by rw[<-qHJ H0.out hq];exact h0);obtain⟨d0,d1,d2,d3⟩:=zL H3.box;have fz2:=zA H3.box 2;have d5:=zB d9.out h3;obtain⟨t0,t1,t2,t3⟩:=zL d5;have cfin:=i5.out wr h3;have z5:=zR d5;have y3:=zR H3.box
  have x7:tfb<wr.heap.size:=by
   have:=(H7.out wr (zC H6.out h3)).frow.1;exact this
  rw[j9.out]at d2;rw[o1.out]at d3;obtain⟨bf,m5⟩:=Nm (T.final.getD q false);rw[<-m5]at cfin;have C9:=Kh m5;have o5:Hid (∀W1:World,wr.grownBy W1 none->W1.ownsRow oQ 4 1 (.slice sf M cf) M (bls (tV T p q))/\oQ<=W1.heap.size):=Kh (fun W1 hg=>⟨by have:=zY p2.out.ownF hg;rwa [j9.out]at this,by have:=hg.size;omega⟩)
  have b9:Hid (∀(W1 w':World) (sf':Option Addr) (cf':Nat),w'.ownsRow oQ 4 1 (.slice sf' (M+1) cf') (M+1) (bls (tV T p q)++[.bool bf])->W1.grownBy w' (Value.slice sf M cf).ownBlock->wr.grownBy W1 none ->
    BX w3 (w'.setCell ⟨oQ,2,none⟩ (.slice sf' (M+1) cf')) oQ X x (tV T p q++[bf]) (rM T p q) hs sf' cf' sn cn/\Arr (w'.setCell ⟨oQ,2,none⟩ (.slice sf' (M+1) cf')) g 3 (ints (uD p (T.next.getD q [])))/\w'.frozen? ⟨oQ,2,none⟩=false/\w'.cell? ⟨oQ,2,none⟩=some (.slice sf M cf)):=Kh (fun W1 w' sf' cf' ho hg h1=>by
   have n2:=p2.out.grow h1;have n8:=n2.ownF;have m6:=n2.box;rw[j9.out]at n8 m6;have b7:=zB m6 hg (zV n8 m6 (by decide));have hp:=n2.pushF (b:=bf) j9.out ho hg rfl;have r6:=t9.out.kept h1 (by simp);obtain⟨cg,rg,y9,_⟩:=id r6
   exact⟨hp,(r6.kept hg (zV n8 y9 (by decide))).kept (zF w' ⟨oQ,2,none⟩ _) (fun e=>by have e:oQ=g:=Oj e;omega),zA b7 2,(zL b7).2.2.1⟩)
  obtain⟨wo,rfl⟩:=Nm (wr:World);clear f8 H3 h0 h9 h3 d5 m5 p4;go_wp2_with fail
  go_region_law (first|(refine qBG ?g1 (.tmp 63) (.tmp 69) 26 ?g2 wF oQ (.slice sf M cf) M (bls (tV T p q)) ?g3 ?g4 (.bool bf) wo.heap.size (0,0) ?g5 ?g6 ?g7 ?g8 ?g9 ?g10 ?_;(case g1=>rfl);(case g2=>rfl);(case g3=>rfl);(case g4=>(refine(o5.out _ ?_).1;exact qV (o:=.cells #[.bool bf] 4) rfl rfl rfl rfl));(case g5=>rfl);(case g6=>exact heap_alloc_new (wo.drew) _);(case g7=>rfl);(case g8=>(unfold maxLen;omega));(case g9=>omega);(case g10=>(refine(o5.out _ ?_).2;exact qV (o:=.cells #[.bool bf] 4) rfl rfl rfl rfl));intro sf8 cf8 w8 b4 q9;have j0:=b9.out _ _ _ _ b4 q9 (qV (o:=.cells #[.bool bf] 4) rfl rfl rfl rfl);have m2:=j0.2.2.1;have m3:=j0.2.2.2;have j8:=Kh j0;clear j0 b4 q9)|fail)
  all_goals
   clear b9 o5 m2 m3 d0 d1 d2 d3 fz2 t0 t1 t2 t3 cfin p2 t9 i6 b3 s6 s8 i5;obtain⟨w9,p8⟩:=Nm (w8.setCell ⟨oQ,2,none⟩ (.slice sf8 (M+1) cf8));rw[<-p8]at j8⊢;have H4:=j8.out.1;have x0:=Kh j8.out.2.1;have j7:=Kh H4;have n6:=H4.ownN;obtain⟨d0,d1,d2,d3⟩:=zL H4.box;rw[o1.out]at d3 n6;have s4:=Kh n6;have y1:=zR H4.box;clear p8 j8 H4 n6;go_wp2_with (first|(at_builtin;refine iI rfl _ _ _ rfl wG oQ (.slice sn M cn) M hs rfl s4.out (.slice (some ⟨g,0,none⟩) x x) rfl rfl ?a1 ?a2 ?a3 ?_;(case a1=>(unfold maxLen;omega));(case a2=>omega);(case a3=>omega);intro sn6 cn6 w10 b5 l9 D3 l7;(have B6:=Kh b5);(have C3:=Kh l9);(have r5:=zB j7.out.box l9 (zV s4.out j7.out.box (by decide)));(obtain⟨e0,e1',e2,e3⟩:=zL r5);(have fz6:=zA r5 3);clear b5 l9 l7)|fail);go_roundg (N-(q+1))
   case measure=>have:=e8.out;omega
   have hp:=j7.out.pushN (Y:=fun j=>X j\/j=g) o1.out (fun j hj=>.inl hj) (fun j hj=>by
    rcases hj with hj|rfl
    ·exact j7.out.lt j hj
    exact x0.out.lt) B6.out C3.out (RowX.of_arr x0.out (by rw[zJ,uD,List.length_map,H0.out.row q hq]) (by unfold maxLen;omega) (.inr rfl)) rfl
   rw[C9.out,<-e1.out.1,<-e1.out.2]at hp;exact⟨q+1,_,_,_,_,_,_,by have:=e8.out;omega,by go_num,hp⟩
 have l4:q=N:=by have:=e8.out;omega
 have a7:(tV T p q).length=cls p:=by rw[cH c4.out (by omega),l4,<-e9,List.take_length]
 have h6:(rM T p q).length=cls p:=by rw[cD c4.out (by omega),l4,<-e9,List.take_length]
 have q5:(⟨(k:Int),0,tV T p q,rM T p q⟩:DfaV)=uL T p:=by
  have:=qJP (d:=T) (p:=p) (q:=q) (by omega) (by
   have e:st0 T=0:=by rw[o2.out];rfl
   rw[e];exact qKH c4.out)
  rw[<-this,H0.out.hk]
 have j3:=(e6.built (a7.trans h6.symm)).dfa;rw[q5,a7,h6]at j3;obtain⟨M,hM⟩:=Nm (cls p);have F4:M<=N:=by rw[hM,<-e9];exact cls_le p
 have q4:VD (uL T p) M k:=(by rw[hM];exact aR H0.out e9 c4.out);rw[<-hM]at j3;rw[a7,<-hM]at d2;rw[h6,<-hM]at d3;have B3:Hid (∀i,i<N->p.getD i 0<M):=Kh (fun i hi=>by rw[hM];exact sC c4.out (by omega));have i3:=Kh (qBO wr.heap.size wr _ (uL T p) M k (Nat.le_refl _) j3 q4 (by omega));have C0:Hid (w.grownBy wr none):=Kh (zC C5.out h9);clear H9 e6 a7 h6 q5 j3 q4 hM l4 e8 t0 t1 t2 t3 a0 a1 a2 a3;go_wp2_with fail;refine i3.out.mono ?_;rintro e wt ⟨vt,Gt,rfl,⟨ot,y0,sft,cft,snt,cnt,rfl,D9,j5⟩,z8,b8,j1⟩;rw[<-o7.out]at j5⊢;obtain⟨R,hR⟩:=Nm (minD T k);rw[<-hR]at j5⊢;have n4:R.letters=k:=by rw[hR];exact(gO H0.out).hk
 have n3:R.start=0:=by rw[hR];rfl
 obtain⟨FL,n7⟩:=Nm R.final.length;obtain⟨NL,n5⟩:=Nm R.next.length;rw[n4,n3,<-n7,<-n5];obtain⟨ys,k3,D6⟩:∃ys:List Int,Arr wt Gt 3 (ints ys)/\ys.length=M:=⟨_,b8,vZ _ _⟩;obtain⟨s3,B1,B0,p1,o6,C8⟩:=K6 hR n4 n3 n7 n5 j5;have A5:=Kh k3;have B9:=Kh (zC C0.out j1);have o8:=Kh (zC d7.out j1);obtain⟨T13,d6⟩:=Nm wt.heap.size;obtain⟨w13,c5⟩:=Nm (wt.alloc (.cells #[.int .i64 (k:Int),.int .i64 0,.slice sft FL cft,.slice snt NL cnt] 29));have a5:=Ga wt (.cells #[.int .i64 (k:Int),.int .i64 0,.slice sft FL cft,.slice snt NL cnt] 29) none;have H5:=heap_alloc_new wt (.cells #[.int .i64 (k:Int),.int .i64 0,.slice sft FL cft,.slice snt NL cnt] 29);rw[<-c5]at a5 H5;rw[<-d6]at H5;have D1:=d7.out.size;have D0:=j1.size;have x2:=a5.size;have r7:=zR H5;have y7:=k3.lt;obtain⟨i8,o0,o3,h8⟩:=K4 H5 c5 d6 a5;have z6:Q<T13:=(by omega);have r8:w3.heap.size<=T13:=by omega
 clear hR n4 n3 n7 n5 j5 b8 k3 j1 H5 c5 d6 a5 d0 d1 d2 d3 b3 i3;go_upto_region 18 with fail;rw[<-o0.out,<-o3.out];go_wp2_with (first|(at_make;refine qG rfl _ _ _ rfl yH rfl .i64 .i64 _ _ n rfl rfl rfl rfl ?b1 ?b2 ?_;(case b1=>omega);(case b2=>(unfold maxLen;omega));intro ws h0 q7 f6)|fail);obtain⟨Gs,r9⟩:=Nm w13.heap.size;rw[<-r9]at h0 f6⊢;have s2:Hid (Arr ws Gs 3 (ints (List.replicate n 0))):=Kh (by simpa [rY] using h0);have A1:T13<Gs:=(by omega);have z9:Gt<Gs:=(by omega);have s7:=Kh q7;have A0:w13.heap.size<=Gs:=by omega
 clear h0 q7 r9 f6
 go_loopg [16,17,89] n (fun gh a16 a17 i wr=>∃(j:Nat) (vs:List Int),gh+j=n/\i=.int .i64 j/\vs.length=n/\Arr wr Gs 3 (ints vs)/\w13.grownBy wr none)
 case atStart=>exact⟨0,_,rfl,rfl,by simp,s2.out,s7.out⟩
 clear s2 s7;obtain⟨j,vs,H9,rfl,k7,h0,h2⟩:=hrel;obtain⟨b0,HA,i4⟩:=K3 H9 h0 h2;have H2:=zC (zC o8.out h8.out) h2;clear H9;by_cases hj:j<n
 ·have E3:(j:Int)<n:=by omega
  have cz:=(n9.out.kept H2 (by simp)).int j (by omega);have cs:=h0.int j (by omega);have fs:=h0.frozen j;have b6:=A4.out j hj;obtain⟨z,hz⟩:=Nm (zs.getD j 0);rw[<-hz]at cz b6;have x6:(ints vs).length=n:=by rw[zJ,k7]
  rcases b6 with rfl|⟨i,hi,rfl⟩
  ·clear hz h0 h2 H2
   go_wp2;go_roundg (n-(j+1))
   case measure=>have:=b0.out;omega
   exact⟨j+1,vs.set j (-1),by have:=b0.out;omega,by go_num,by rw[List.length_set,k7],HA.out.int_set j (by omega) (-1),yG i4.out (zF wr ⟨Gs,j,none⟩ _) (by show _<=Gs;omega)⟩
  have E4:(i:Int)<N:=by omega
  have cp:=(p5.out.kept H2 (by simp)).nat i (by omega);have m4:=B3.out i hi;obtain⟨c,hc⟩:=Nm (p.getD i 0);rw[<-hc]at cp m4;have f9:(c:Int)<M:=(by omega);have cy:=((A5.out.kept h8.out (by simp)).kept h2 (by simp)).int c (by omega);obtain⟨y,hy⟩:=Nm (ys.getD c 0);rw[<-hy]at cy;have F8:=Kh (And.intro hi m4);clear hz hc hy h0 h2 H2;have y5:G6≠Gs:=(by omega);have y4:Gt≠Gs:=(by omega);go_wp2;go_roundg (n-(j+1))
  case measure=>have:=b0.out;omega
  exact⟨j+1,(vs.set j (-1)).set j y,by have:=b0.out;omega,by go_num,by rw[List.length_set,List.length_set,k7],(HA.out.int_set j (by omega) (-1)).int_set j (by rw[List.length_set];omega) y,yG (yG i4.out (zF wr ⟨Gs,j,none⟩ _) (by show _<=Gs;omega)) (zF (wr.setCell ⟨Gs,j,none⟩ (.int .i64 (-1))) ⟨Gs,j,none⟩ _) (by show _<=Gs;omega)⟩
 obtain⟨e0,e1,e2,e3⟩:=zL (zB i8.out h2);have d4:=zB p3.out H2;obtain⟨q0,q1,q2,q3⟩:=zL d4;have f0:=zA d4 0;have f1:=zA d4 1;have f2:=zA d4 2;have f3:=zA d4 3;have t5:=Kh d4;clear d4;go_wp2;obtain⟨r4,c7⟩:=uF t5.out (.int .i64 (k:Int)) (.int .i64 0) (.slice sft FL cft) (.slice snt NL cnt);obtain⟨wz,p7⟩:=Nm ((((wr.setCell ⟨Q,0,none⟩ (.int .i64 (k:Int))).setCell ⟨Q,1,none⟩ (.int .i64 0)).setCell ⟨Q,2,none⟩ (.slice sft FL cft)).setCell ⟨Q,3,none⟩ (.slice snt NL cnt));rw[<-p7]at r4 c7⊢;clear p7;obtain⟨r0,r1,r2,r3⟩:=zL r4;clear e0 e1 e2 e3 q0 q1 q2 q3 f0 f1 f2 f3;refine bodyPost_ret (v:=.tuple #[.agg #[.int .i64 (k:Int),.int .i64 0,.slice sft FL cft,.slice snt NL cnt],.slice (some ⟨Gs,0,none⟩) n n]) (by simp[results,Tryz.results77,go_sem,r0,r1,r2,r3]) rfl ?_;have y8:w.grownBy wz none:=zC (zC (zC B9.out h8.out) h2) c7 (fun k e=>by have h7:Q=k:=Oj e;omega);have z1:=((C8.out.grow h8.out).grow h2).far c7 t5.out (by omega);refine⟨_,_,rfl,⟨ot,y0,sft,cft,snt,cnt,?_,by omega,by rw[<-s3.out];exact z1⟩,y8⟩;rw[<-s3.out,B0.out,B1.out,p1.out,o6.out]
end Go.Proofs.YtobakifdllameaaGreat
namespace Go.Proofs.YtobakifdllameaaGreat
open Go.RowKit
def mJ (d:DfaV)(p:List Nat)(i:Nat):List Bool:=(tU p i).map fun q=>d.final.getD q false
def oS (d:DfaV)(p:List Nat)(i:Nat):List (List Int):=(tU p i).map fun q=>uD p (d.next.getD q [])
theorem qCM {d:DfaV}{p:List Nat}{i:Nat}(h:p.getD i 0=cls (p.take i)):mJ d p (i+1)=mJ d p i++[d.final.getD i false]:=by simp only[mJ,uP h,List.map_append,List.map_cons,List.map_nil]
theorem qCK {d:DfaV}{p:List Nat}{i:Nat}(h:p.getD i 0=cls (p.take i)):oS d p (i+1)=oS d p i++[uD p (d.next.getD i [])]:=by simp only[oS,uP h,List.map_append,List.map_cons,List.map_nil]
theorem qCL {d:DfaV}{p:List Nat}{i:Nat}(h:p.getD i 0≠cls (p.take i)):mJ d p (i+1)=mJ d p i:=by simp only[mJ,uO h]
theorem qCJ {d:DfaV}{p:List Nat}{i:Nat}(h:p.getD i 0≠cls (p.take i)):oS d p (i+1)=oS d p i:=by simp only[oS,uO h]
theorem rH {d:DfaV}{n k:Nat}(hd:VD d n k){p:List Nat}{q:Nat}(hq:q<n):(uD p (d.next.getD q [])).length=k:=by rw[uD,List.length_map,hd.row q hq]
theorem qCQ {d:DfaV}{n k:Nat}(hd:VD d n k){p:List Nat}{q a:Nat}(hq:q<n)(ha:a<k):(uD p (d.next.getD q [])).getD a 0=((p.getD (nx d q a) 0:Nat):Int):=by
 rw[iT (by rw[hd.row q hq];exact ha)];rfl
def qSF (w:World)(m:DfaV)(e:Ending)(w':World):Prop:=∃v,e=.returned v/\tW w w' v m/\w.grownBy w' none
theorem eN (B:Nat)(w:World)(v:Value)(d:DfaV)(n k:Nat)(hB:B<=w.heap.size)(h:tR B w v d)(hd:VD d n k):Calls Tryz.prog 31 #[v] w (qSF w (minD d k)):=by
 have a3:=h;obtain⟨fb,fo,fc,b,off,cap,RB,RO,RC,rfl,b4⟩:=h.at hd;have hn:=hd.hn;have o8:=hd.n1;have i6:=hd.nbig;have p1:=hd.k6;have p2:=hd.k1;have p6:=b4.fcap.1;have c5:=b4.fcap.2;have p7:=b4.cap.1;have c6:=b4.cap.2;have l6:fc<=9223372036854775807:=by unfold maxLen at c5;omega
 have l5:cap<=9223372036854775807:=by unfold maxLen at c6;omega
 obtain⟨S,hS⟩:=Nm (st0 d);have m3:S<n:=by rw[hS];exact mP hd
 have m9:=Kh hS;have i3:dAgg k (st0 d) fb fo fc b off cap n=.agg #[.int .i64 (k:Int),.int .i64 (S:Int),.slice (some ⟨fb,fo,none⟩) n fc,.slice (some ⟨b,off,none⟩) n cap]:=by rw[hS];rfl
 rw[i3]at a3⊢;obtain⟨c8,e6,b9,i2⟩:=qB w #[.int .i64 (k:Int),.int .i64 (S:Int),.slice (some ⟨fb,fo,none⟩) n fc,.slice (some ⟨b,off,none⟩) n cap] #[.int .i64 0,.int .i64 0,.slice none 0 0,.slice none 0 0] 29;obtain⟨wA,f6⟩:=Nm ((w.alloc (.cells #[.int .i64 (k:Int),.int .i64 (S:Int),.slice (some ⟨fb,fo,none⟩) n fc,.slice (some ⟨b,off,none⟩) n cap] 29)).alloc (.cells #[.int .i64 0,.int .i64 0,.slice none 0 0,.slice none 0 0] 29));rw[<-f6]at c8 e6 b9 i2;obtain⟨c0,c1,c2,c3⟩:=zL c8;obtain⟨P,hP⟩:=Nm w.heap.size;have f0:=Kh hP;rw[<-hP]at c8 e6 c0 c1 c2 c3 i2 hB;obtain⟨i0,n9,n5,m6⟩:=K4 c8 e6 b9 f6;have o0:=Kh (b4.kept b9 (by simp));have HN:=Kh hn;have HD:=Kh hd;have k9:=Kh (qET B wA _ d n k (by omega) (a3.kept b9 (by simp)) hd);clear c8 e6 b9 f6 b4 hn hd h a3 i3 c5 c6 hS;go_enter Tryz.func31,Tryz.ntmps31;go_upto_region 1 with fail;rw[<-m6.out,<-f0.out];clear hP;go_wp2_with fail;refine k9.out.mono ?_;rintro e w1 ⟨G,rfl,m0,h7,e5⟩;have b1:(yK d k).length=n:=by rw[vD,HN.out]
 have e0:=uG d k;obtain⟨p,hp⟩:=Nm (yK d k);have HP:=Kh hp;rw[<-hp]at h7 b1 e0⊢;rw[b1];have H9:=pV e0;rw[b1]at H9;obtain⟨k5,d6,e9,a8,n3⟩:=K5 h7 e5 e0 b1 H9;have o2:=e5.size;have p4:=h7.1;obtain⟨d0,d1,d2,d3⟩:=zL (zB i0.out e5);have cp:=h7.nat S (by rw[b1];exact m3);rw[Nat.zero_add]at cp;obtain⟨ps,f2⟩:=Nm (p.getD S 0);have n2:=Kh f2;rw[<-f2]at cp;have m2:(S:Int)<n:=by omega
 have i8:=World.new_ne w1 _ d0;have b7:=World.new_ne w1 _ d1;have i7:=World.new_ne w1 _ cp;have f3:=World.block_lt_of_cell? w1 _ d0;simp only at i8 b7 i7 f3;have m4:P<w1.heap.size:=f3;clear hp h7 e5 b1 e0 H9 k9 c0 c1 c2 c3 d2 d3 f2;go_upto_region 2 with fail
 go_region_held3 (fun w'=>w'.cell? ⟨P,0,none⟩=some (.int .i64 (k:Int))/\w'.cell? ⟨P,1,none⟩=some (.int .i64 (S:Int))/\w'.cell? ⟨G,S,none⟩=some (.int .i64 (ps:Int))) (first|go_keep|fail) (fail)
 obtain⟨w4,rfl⟩:=Nm (w1:World);obtain⟨O,hO⟩:=Nm w4.heap.size;obtain⟨w6,d9⟩:=Nm ((w4.alloc (.cells #[.int .i64 (k:Int),.int .i64 (ps:Int),.slice none 0 0,.slice none 0 0] 29)).drew);rw[<-d9,<-hO];have a2:w4.grownBy w6 none:=by rw[d9];exact zG (Ga w4 _ none) (zS _ _)
 have j7:w6.heap[O]?=some (.cells #[.int .i64 (k:Int),.int .i64 (ps:Int),.slice none 0 0,.slice none 0 0] 29 (0,0)):=by rw[d9,hO];exact heap_alloc_new w4 _
 have k4:Built O w6 O k ps [] [] [] none 0 none 0:=⟨j7,World.ownsRow_nil _ _ _ _,World.ownsRow_nil _ _ _ _,tP.nil,rfl⟩;obtain⟨l0,d5,g0⟩:=K3 k4 a2 hO;have q1:G<O:=by omega
 have p9:P+1<O:=by omega
 have l2:=a2.size;clear j7 k4 a2 d9 hO i8 b7 i7 f3 m4 d0 d1 cp;go_wp2
 go_loopg [5,6,7,23] n (fun gh v5 a6 a7 i wr=>∃(i':Nat) (hs:List Value) (sf:Option Addr) (cf:Nat) (sn:Option Addr) (cn:Nat),gh+i'=n/\i=.int .i64 i'/\v5=.int .i64 (cls (p.take i'):Nat)/\Built O wr O k ps (mJ d p i') (oS d p i') hs sf cf sn cn/\w4.grownBy wr (some O))
 case atStart=>exact⟨0,[],none,0,none,0,rfl,rfl,rfl,l0.out,xY d5.out⟩
 clear l0 d5;obtain⟨i,hs,sf,cf,sn,cn,hg,rfl,rfl,H2,h4⟩:=hrel;obtain⟨g5,H4,d4⟩:=K3 hg H2 h4;have o1:=h4.size;clear hg;by_cases hi:i<n
 ·have p3:(i:Int)<n:=by omega
  have a5:O≠P:=(by omega);have k2:O≠G:=(by omega);have j5:=(k5.out.kept h4 (fun e=>k2 (Oj e))).nat i (by rw[a8.out];exact hi);rw[Nat.zero_add]at j5;obtain⟨H1,h9,h8⟩:=lV e9.out (q:=i) (by rw[a8.out];exact hi);have j4:=cls_le (p.take i);rw[List.length_take]at j4;obtain⟨c,hc⟩:=Nm (cls (p.take i));rw[<-hc]at H1 h9 h8 j4⊢;obtain⟨x,hx⟩:=Nm (p.getD i 0);rw[<-hx]at j5 H1 h9 h8;by_cases hxc:x=c
  ·have d7:=Kh (qCM (d:=d) (hx.symm.trans (hxc.trans hc)));have e8:=Kh (qCK (d:=d) (hx.symm.trans (hxc.trans hc)))
   have g7:Hid (cls (p.take (i+1))=c+1):=Kh (h9 hxc);have e1:((x:Int) != (c:Int))=false:=by rw[hxc];simp
   have b2:(mJ d p i).length=c:=by simp only[mJ,List.length_map];rw[vM e9.out i (by rw[a8.out];omega),hc]
   have H8:(oS d p i).length=c:=by simp only[oS,List.length_map];rw[vM e9.out i (by rw[a8.out];omega),hc]
   have hA:=(o0.out.kept d6.out (by simp)).kept h4 (fun k e=>by have:=Oj e;omega);have ch:=hA.hd i hi;obtain⟨d0,d1,d2,d3⟩:=zL (zB (zB i0.out d6.out) h4 (fun e=>a5 (Oj e)));obtain⟨wo,rfl⟩:=Nm (wr:World);have i1:=Kh hA;clear hA H2 h4 H1 h9 h8 hx hxc hc;go_wp2
   go_loopg [8,39] k (fun gh ov i' wr=>∃(a:Nat) (sr:Option Addr) (cr:Nat),gh+a=k/\i'=.int .i64 a/\ov=.slice sr a cr/\wr.ownsRow wo.heap.size 3 1 (.slice sr a cr) a (ints ((uD p (d.next.getD i [])).take a))/\wo.grownBy wr none)
   case atStart=>exact⟨0,none,0,rfl,rfl,rfl,by simpa [ints] using World.ownsRow_nil _ _ _ _,zU _ _⟩
   obtain⟨a,sr,cr,hg,rfl,rfl,b6,h4⟩:=hrel;obtain⟨k8,H3,g2⟩:=K3 hg b6 h4;clear hg b6 d0 d1 d2 d3;by_cases ha:a<k
   ·have p8:(a:Int)<k:=by omega
    have hA:=i1.out.kept h4 (by simp);have ce:=hA.el i a hi ha;have o5:=(hA.rcap i hi).1;have i5:=pB HD.out hi ha;have cp:=((k5.out.kept d4.out (fun e=>k2 (Oj e))).kept h4 (by simp)).nat (nx d i a) (by rw[a8.out];exact i5);rw[Nat.zero_add]at cp
    have f8:Hid ((uD p (d.next.getD i [])).take (a+1)=(uD p (d.next.getD i [])).take a++[((p.getD (nx d i a) 0:Nat):Int)]):=Kh (by
     rw[yB (d:=0) (by rw[rH HD.out hi];exact ha),qCQ HD.out hi ha])
    obtain⟨s,hs⟩:=Nm (nx d i a);rw[<-hs]at ce i5 cp f8;obtain⟨y,hy⟩:=Nm (p.getD s 0);rw[<-hy]at cp f8;have l9:=h4.size;have l4:(s:Int)<n:=(by omega);clear hA hs hy h4;go_wp2_with (first|(at_builtin;refine app1 rfl _ _ _ rfl yH wo.heap.size _ a (ints ((uD p (d.next.getD i [])).take a)) rfl H3.out _ rfl rfl ?c1 ?c2 ?c3 ?_)|fail)
    case c1=>unfold maxLen;omega
    case c2=>omega
    case c3=>exact l9
    intro sa' sc' w6 H5 j3 l8;have n4:=Kh H5;have n6:=Kh j3;clear H5 j3;go_wp2;go_roundg (k-(a+1))
    case measure=>have:=k8.out;omega
    refine⟨a+1,sa',sc',by omega,by go_num,rfl,?_,zC g2.out n6.out (fun q e=>(H3.out.lt q e).1)⟩;rw[f8.out,eR];exact n4.out
   have j9:a=k:=by have:=k8.out;omega
   have i4:(uD p (d.next.getD i [])).take a=uD p (d.next.getD i []):=by rw[j9,<-rH HD.out (p:=p) hi];exact List.take_length
   rw[i4]at H3;obtain⟨w5,f1⟩:=Nm wr.drew;have m7:=Kh f1;have a1:wr.grownBy w5 none:=(by rw[f1];exact zS wr none);have a9:=Kh ((H4.out.grow h4).grow a1);have f9:Hid (RowT w5.heap.size 3 w5 (.slice sr a cr) (ints (uD p (d.next.getD i [])))):=Kh (RowT.of_owns (wK H3.out a1 (by simp)));have n7:=Kh (zG d4.out (xY (zG h4 a1) (row:=some O)));have k3:=a9.out.box;have H0:=Kh k3;have k7:=Kh a9.out.notbox;have b0:O<=w5.heap.size:=by have:=h4.size;have:=a1.size;have:=g0.out;omega
   have cq:=(((i1.out.kept h4 (by simp)).kept a1 (by simp))).fin hi;obtain⟨_,_,d2,_⟩:=zL (zB (zB (zB (zB i0.out d6.out) d4.out (fun e=>a5 (Oj e))) h4) a1);have p5:=i1.out.flt;have m1:O≠fb:=(by omega);obtain⟨bq,j6⟩:=Nm (d.final.getD i false);rw[<-j6]at cq d7;obtain⟨fsl,c4⟩:=Nm (mJ d p i);obtain⟨tsl,b5⟩:=Nm (oS d p i);rw[<-c4]at a9 H0 d7 b2;rw[<-b5]at a9 H0 e8 H8;obtain⟨m,hm⟩:=Nm c;rw[<-hm]at b2 H8;have f7:=Kh H8;have k0:=a9.out.many
   have hM:Many w5 (FB sf sn) w5 [⟨O,22,.slice sn m cn,m,hs,1⟩,⟨O,4,.slice sf m cf,m,bls fsl,1⟩] [] []:=by
    have h1:=k0;simp only[rN,rF,b2,H8]at h1;exact h1
   have l1:Hid (∀W:World,(W.cell? ⟨P,2,none⟩=some (.slice (some ⟨fb,fo,none⟩) n fc)/\W.cell? ⟨fb,fo+i,none⟩=some (.bool bq))->∀(c:Nat) (X:Value),(W.setCell ⟨O,c,none⟩ X).cell? ⟨P,2,none⟩=some (.slice (some ⟨fb,fo,none⟩) n fc)/\(W.setCell ⟨O,c,none⟩ X).cell? ⟨fb,fo+i,none⟩=some (.bool bq)):=Kh (fun W h c X =>
    ⟨by rw[World.cell?_setCell_far W ⟨O,c,none⟩ ⟨P,2,none⟩ X a5];exact h.1,by rw[World.cell?_setCell_far W ⟨O,c,none⟩ ⟨fb,fo+i,none⟩ X m1];exact h.2⟩)
   have h0:Hid (∀W rs ls,Many w5 (FB sf sn) W rs ls []->(W.cell? ⟨P,2,none⟩=some (.slice (some ⟨fb,fo,none⟩) n fc)/\W.cell? ⟨fb,fo+i,none⟩=some (.bool bq))/\(W.cell? ⟨O,3,none⟩=some (.slice sn m cn)/\W.cell? ⟨O,2,none⟩=some (.slice sf m cf))):=Kh (fun W rs ls h=>by
    have j1:=a9.out.ge;have hb:=h.but.heap H0.out k7.out;rw[b2,H8]at hb;obtain⟨_,_,e2,e3⟩:=zL hb
    exact⟨⟨h.but.cell d2 (fun hf=>by have:=j1 _ hf;simp only at this;omega),h.but.cell cq (fun hf=>by have:=j1 _ hf;simp only at this;omega)⟩,e3,e2⟩)
   rw[b2,H8]at H0;have o9:Hid (m=c):=Kh hm;have p0:m<=4194304:=by omega
   clear k0 k3 i4 j9 f1 a1 h4 j6 c4 b5 hm b2 H8 ch d2 cq;go_upto_region 15 with fail;refine wp_region_noPanic ?_;refine yM (G:=wH 15 (fun W=>W.cell? ⟨P,2,none⟩=some (.slice (some ⟨fb,fo,none⟩) n fc)/\W.cell? ⟨fb,fo+i,none⟩=some (.bool bq)) (fun W=>W.cell? ⟨O,3,none⟩=some (.slice sn m cn)/\W.cell? ⟨O,2,none⟩=some (.slice sf m cf))) (by kernel_rfl) ?_;rw[<-m7.out];refine zO 0 ⟨(h0.out _ _ _ hM).1,fun _=>(h0.out _ _ _ hM).2⟩ ?_;refine yY 1 ⟨(h0.out _ _ _ hM).1,fun _=>(h0.out _ _ _ hM).2⟩ ?_;refine zO 2 ⟨(h0.out _ _ _ hM).1,fun _=>(h0.out _ _ _ hM).2⟩ ?_;refine zO 5 ⟨(h0.out _ _ _ hM).1,fun _=>(h0.out _ _ _ hM).2⟩ ?_;refine yY 6 ⟨(h0.out _ _ _ hM).1,fun _=>(h0.out _ _ _ hM).2⟩ ?_;refine zO 7 ⟨(h0.out _ _ _ hM).1,fun _=>(h0.out _ _ _ hM).2⟩ ?_;refine zO 8 ⟨(h0.out _ _ _ hM).1,fun _=>(h0.out _ _ _ hM).2⟩ ?_;refine zO 9 ⟨(h0.out _ _ _ hM).1,fun _=>(h0.out _ _ _ hM).2⟩ ?_;refine zO 10 ⟨(h0.out _ _ _ hM).1,fun _=>(h0.out _ _ _ hM).2⟩ ?_;refine zO 11 ⟨(h0.out _ _ _ hM).1,fun _=>(h0.out _ _ _ hM).2⟩ ?_;refine twoG (i:=3) (j:=12) (by kernel_rfl) rfl rfl (fun K hK=>?_) (fun K hK=>?_);go_simp;refine hK.out _ _ ⟨(h0.out _ _ _ (hM.alloc _)).1,fun _=>(h0.out _ _ _ (hM.alloc _)).2⟩ ?_;clear hK K
   try simp only[Act.put,sPa,sPb,sPc]
   refine twoG (i:=4) (j:=12) (by kernel_rfl) rfl rfl (fun K hK=>?_) (fun K hK=>?_);refine wO rfl (.tmp 52) (.tmp 54) 27 rfl wG 0 _ _ rfl ⟨_,_,_,_,_,(hM.alloc _),_,rfl,rfl,rfl,rfl,?g3,?g4,b0,_,_,_,List.Mem.head _,(by first|rfl|simp),rfl,?_⟩
   case g3=>(simp only[];unfold maxLen;omega)
   case g4=>(simp only[];omega)
   intro sa1 sc1 w1x h3;have a0:=h3.litcell (List.Mem.head _)
   try simp only[zW]at a0
   refine hK.out _ _ ⟨(h0.out _ _ _ h3).1,fun _=>(h0.out _ _ _ h3).2⟩ ?_;clear hK K
   try simp only[Act.put,sPa,sPb,sPc]
   refine zO 14 ⟨(h0.out _ _ _ h3).1,fun _=>(h0.out _ _ _ h3).2⟩ ?_;refine oneG (i:=12) (by kernel_rfl) rfl (fun K hK=>?_);go_simp;refine hK.out _ _ ⟨(h0.out _ _ _ (h3.alloc _)).1,fun _=>(h0.out _ _ _ (h3.alloc _)).2⟩ ?_;clear hK K
   try simp only[Act.put,sPa,sPb,sPc]
   rotate_left;go_simp;refine hK.out _ _ ⟨(h0.out _ _ _ ((hM.alloc _).alloc _)).1,fun _=>(h0.out _ _ _ ((hM.alloc _).alloc _)).2⟩ ?_;clear hK K
   try simp only[Act.put,sPa,sPb,sPc]
   refine oneG (i:=4) (by kernel_rfl) rfl (fun K hK=>?_);refine wO rfl (.tmp 52) (.tmp 54) 27 rfl wG 0 _ _ rfl ⟨_,_,_,_,_,((hM.alloc _).alloc _),_,rfl,rfl,rfl,rfl,?g3,?g4,b0,_,_,_,List.Mem.tail _ (List.Mem.head _),(by first|rfl|simp),rfl,?_⟩
   case g3=>(simp only[];unfold maxLen;omega)
   case g4=>(simp only[];omega)
   intro sa1 sc1 w1x h3;have a0:=h3.litcell (List.Mem.head _)
   try simp only[zW]at a0
   have b8:=h3.litcell (List.Mem.tail _ (List.Mem.head _))
   try simp only[zW]at b8
   refine hK.out _ _ ⟨(h0.out _ _ _ h3).1,fun _=>(h0.out _ _ _ h3).2⟩ ?_;clear hK K
   try simp only[Act.put,sPa,sPb,sPc]
   refine zO 14 ⟨(h0.out _ _ _ h3).1,fun _=>(h0.out _ _ _ h3).2⟩ ?_;rotate_left;go_simp;refine hK.out _ _ ⟨(h0.out _ _ _ (hM.alloc _)).1,fun _=>(h0.out _ _ _ (hM.alloc _)).2⟩ ?_;clear hK K
   try simp only[Act.put,sPa,sPb,sPc]
   refine oneG (i:=3) (by kernel_rfl) rfl (fun K hK=>?_);go_simp;refine hK.out _ _ ⟨(h0.out _ _ _ ((hM.alloc _).alloc _)).1,fun _=>(h0.out _ _ _ ((hM.alloc _).alloc _)).2⟩ ?_;clear hK K
   try simp only[Act.put,sPa,sPb,sPc]
   refine oneG (i:=4) (by kernel_rfl) rfl (fun K hK=>?_);refine wO rfl (.tmp 52) (.tmp 54) 27 rfl wG 0 _ _ rfl ⟨_,_,_,_,_,((hM.alloc _).alloc _),_,rfl,rfl,rfl,rfl,?g3,?g4,b0,_,_,_,List.Mem.head _,(by first|rfl|simp),rfl,?_⟩
   case g3=>(simp only[];unfold maxLen;omega)
   case g4=>(simp only[];omega)
   intro sa1 sc1 w1x h3;have a0:=h3.litcell (List.Mem.head _)
   try simp only[zW]at a0
   have b8:=h3.litcell (List.Mem.tail _ (List.Mem.head _))
   try simp only[zW]at b8
   refine hK.out _ _ ⟨(h0.out _ _ _ h3).1,fun _=>(h0.out _ _ _ h3).2⟩ ?_;clear hK K
   try simp only[Act.put,sPa,sPb,sPc]
   refine zO 14 ⟨(h0.out _ _ _ h3).1,fun _=>(h0.out _ _ _ h3).2⟩ ?_
   all_goals
    refine oneG (i:=13) (by kernel_rfl) rfl (fun K hK=>?_)
    first
    | refine wO rfl (.tmp 57) (.tmp 63) 26 rfl wF 1 _ _ rfl ⟨_,_,_,_,_,(h3.alloc _),_,rfl,rfl,rfl,rfl,?g3,?g4,b0,_,_,_,List.Mem.head _,(by first|rfl|simp),rfl,?_⟩
    | refine wO rfl (.tmp 57) (.tmp 63) 26 rfl wF 1 _ _ rfl ⟨_,_,_,_,_,h3,_,rfl,rfl,rfl,rfl,?g3,?g4,b0,_,_,_,List.Mem.head _,(by first|rfl|simp),rfl,?_⟩
    | refine wO rfl (.tmp 57) (.tmp 63) 26 rfl wF 1 _ _ rfl ⟨_,_,_,_,_,h3,_,rfl,rfl,rfl,rfl,?g3,?g4,b0,_,_,_,List.Mem.tail _ (List.Mem.head _),(by first|rfl|simp),rfl,?_⟩
    case g3=>(simp only[];unfold maxLen;omega)
    case g4=>(simp only[];omega)
    intro sa2 sc2 w2x H7;have a0:=H7.litcell (List.Mem.head _)
    try simp only[zW]at a0
    have b8:=H7.litcell (List.Mem.tail _ (List.Mem.head _))
    try simp only[zW]at b8
    refine hK.out _ _ ⟨(h0.out _ _ _ H7).1,fun _=>(h0.out _ _ _ H7).2⟩ ?_;clear hK K
    try simp only[Act.put,sPa,sPb,sPc]
    refine oneG (i:=15) (by kernel_rfl) rfl (fun K hK=>?_);have b3:=H7.but.heap H0.out k7.out;have cb3:=zH b3 3;have cb2:=zH b3 2;have fb3:=zA b3 3;have fb2:=zA b3 2;simp only[List.getElem_toArray,List.getElem_cons_zero,List.getElem_cons_succ]at cb3 cb2;go_simp;have a4:=heap_setCell_same _ O 3 _ _ (.slice sa1 (m+1) sc1) b3;have cb22:=zH a4 2;have fb22:=zA a4 2;simp at cb22;have e7:=l1.out _ (h0.out _ _ _ H7).1 3 (.slice sa1 (m+1) sc1);refine hK.out _ _ ⟨e7,fun h=>by simp at h⟩ ?_;clear hK K
    try simp only[Act.put,sPa,sPb,sPc]
    refine zO 16 ⟨e7,fun h=>by simp at h⟩ ?_;refine oneG (i:=17) (by kernel_rfl) rfl (fun K hK=>?_);go_simp;have c9:=l1.out _ e7 2 (.slice sa2 (m+1) sc2);refine hK.out _ _ ⟨c9,fun h=>by simp at h⟩ ?_;clear hK K
    try simp only[Act.put,sPa,sPb,sPc]
    refine tT (by kernel_rfl) ?_ _;refine NoPanic.normal ?_;obtain⟨H2,j0⟩:=a9.out.push (b:=bq) (row:=uD p (d.next.getD i [])) f7.out H7 f9.out rfl;have g8:=Kh H2;have g6:=Kh (j0 w4 n7.out (by have:=g0.out;omega));clear H2 j0 cb3 cb2 fb3 fb2 b3 a4 cb22 fb22 e7 c9 H7
    (try clear h3)
    go_wp2;go_roundg (n-(i+1))
    case measure=>have:=g5.out;omega
    exact⟨i+1,_,_,_,_,_,by omega,by go_num,by rw[g7.out];rfl,g8.out.congr d7.out e8.out,g6.out⟩
  have d7:=Kh (qCL (d:=d) (fun e=>hxc (hx.trans (e.trans hc.symm))));have e8:=Kh (qCJ (d:=d) (fun e=>hxc (hx.trans (e.trans hc.symm))));have g7:Hid (cls (p.take (i+1))=c):=Kh (h8 hxc);have e1:((x:Int) != (c:Int))=true:=by rw[bne_iff_ne];omega
  clear H2 h4 H1 h9 h8 hx hc hxc;go_wp2;go_roundg (n-(i+1))
  case measure=>have:=g5.out;omega
  exact⟨i+1,hs,sf,cf,sn,cn,by omega,by go_num,by rw[g7.out],H4.out.congr d7.out e8.out,d4.out⟩
 have i9:i=n:=by have:=g5.out;omega
 have hE:(⟨(k:Int),(ps:Int),mJ d p i,oS d p i⟩:DfaV)=uL d p:=by
  have h1:=HD.out.hk;have h2:reps p=tU p i:=by rw[reps,a8.out,i9]
  simp only[uL,mJ,oS,h1,h2,n2.out,m9.out]
 have n0:=Kh (aR HD.out a8.out e9.out);have f5:=H2.dfa;rw[hE]at f5;have m8:=Kh (qMQ wr.heap.size wr _ (uL d p) (cls p) k (Nat.le_refl _) f5 n0.out);obtain⟨d0,d1,d2,d3⟩:=zL H2.box;have a5:O≠P+1:=(by omega);have m5:P+1≠O:=(by omega);clear hE f5 H2 i9;go_wp2_with fail;refine m8.out.mono ?_;rintro e w7 ⟨v7,pv7,rfl,H6,e4⟩;have l7:wR (uL d p) k=minD d k:=by rw[HP.out];rfl
 rw[l7]at H6;obtain⟨o7,l3,sf7,cf7,sn7,cn7,rfl,o6,j8⟩:=H6;have h6:=zB H4.out.box e4;have h5:=zB (zB (zB n9.out d6.out) h4 (fun e=>a5 (Oj e))) e4;obtain⟨d8,g9,n8,g6⟩:=K4 h6 h5 j8 e4;obtain⟨x0,x1,x2,x3⟩:=zL h6;obtain⟨y0,y1,y2,y3⟩:=zL h5;have fx0:=zA h6 0;have fx1:=zA h6 1;have fx2:=zA h6 2;have fx3:=zA h6 3;have fy0:=zA h5 0;have fy1:=zA h5 1;have fy2:=zA h5 2;have fy3:=zA h5 3;clear h6 h5 j8 e4 h4 d0 d1 d2 d3;go_wp2;refine bodyPost_ret (v:=.agg #[.int .i64 (minD d k).letters,.int .i64 (minD d k).start,.slice sf7 (minD d k).final.length cf7,.slice sn7 (minD d k).next.length cn7]) (by simp[results,Tryz.results31,go_sem,y0,y1,y2,y3,a5,m5]) rfl ?_;obtain⟨o4,f4⟩:=uF d8.out (.int .i64 (minD d k).letters) (.int .i64 (minD d k).start) (.slice sf7 (minD d k).final.length cf7) (.slice sn7 (minD d k).next.length cn7);have c7:=zB g9.out f4 (fun e=>a5 (Oj e));obtain⟨o3,j2⟩:=uF c7 (.int .i64 (minD d k).letters) (.int .i64 (minD d k).start) (.slice sf7 (minD d k).final.length cf7) (.slice sn7 (minD d k).next.length cn7);have q0:O<wr.heap.size:=zR H4.out.box;refine⟨_,rfl,⟨o7,l3,sf7,cf7,sn7,cn7,rfl,by have:=f0.out;omega,(n8.out.far f4 d8.out (by omega)).far j2 c7 (by omega)⟩,?_⟩;have g1:w.grownBy wr none:=zG n5.out (zG d6.out (zC (zU _ _) d4.out (fun x e=>by have:=Oj e;have:=g0.out;omega)));refine zC (zC (zG g1 g6.out) f4 (fun x e=>by have:=Oj e;have:=f0.out;omega)) j2 (fun x e=>by have:=Oj e;have:=f0.out;omega)
theorem qFR (B:Nat)(w:World)(v:Value)(d:DfaV)(n k:Nat)(hB:B<=w.heap.size)(h:tR B w v d)(hd:VD d n k)(h5:n<=512):Calls Tryz.prog 50 #[v] w (qSF w (minD d k)):=by
 have h0:=h;obtain⟨fb,fo,fc,b,off,cap,RB,RO,RC,rfl,b6⟩:=h.at hd;obtain⟨S,hS⟩:=Nm (st0 d);have a7:dAgg k (st0 d) fb fo fc b off cap n=.agg #[.int .i64 (k:Int),.int .i64 (S:Int),.slice (some ⟨fb,fo,none⟩) n fc,.slice (some ⟨b,off,none⟩) n cap]:=by rw[hS];rfl
 rw[a7]at h0⊢;obtain⟨h4,H1,h6,a5⟩:=qB w #[.int .i64 (k:Int),.int .i64 (S:Int),.slice (some ⟨fb,fo,none⟩) n fc,.slice (some ⟨b,off,none⟩) n cap] #[.int .i64 0,.int .i64 0,.slice none 0 0,.slice none 0 0] 29;obtain⟨wA,H4⟩:=Nm ((w.alloc (.cells #[.int .i64 (k:Int),.int .i64 (S:Int),.slice (some ⟨fb,fo,none⟩) n fc,.slice (some ⟨b,off,none⟩) n cap] 29)).alloc (.cells #[.int .i64 0,.int .i64 0,.slice none 0 0,.slice none 0 0] 29));rw[<-H4]at h4 H1 h6 a5;obtain⟨c0,c1,c2,c3⟩:=zL h4;obtain⟨P,hP⟩:=Nm w.heap.size;obtain⟨Q,hQ⟩:=Nm (w.heap.size+1);have c9:=Kh hP;have c8:Hid (Q=P+1):=Kh (by omega);have f4:P<Q:=by omega
 have e7:Q<wA.heap.size:=by omega
 have e9:w.heap.size<=P:=by omega
 have b7:B<=wA.heap.size:=by omega
 rw[<-hQ]at H1;rw[<-hP]at h4 c0 c1 c2 c3 hB;obtain⟨d9,d8,d4,b8,HD⟩:=K5 h4 H1 h6 H4 hd;have a2:=Kh (h0.kept h6 (by simp));have a9:=Kh (qM B wA _ d b7 a2.out);have c4:=Kh (jL hd h5);clear h4 H1 h6 H4 b6 hd h h0 a7 hS a5 hP hQ;go_enter Tryz.func50,Tryz.ntmps50;go_upto_region 1 with fail;rw[<-b8.out,<-c9.out,<-c8.out];go_wp2_with fail;refine a9.out.mono ?_;rintro e w1 ⟨rfl,h2⟩;rw[c4.out];have e6:=h2.size;have d6:=Kh h2;have a4:=Kh (zB d9.out h2);have a3:=Kh (zB d8.out h2);have b1:=Kh (qBT B w1 _ d n k (by omega) (a2.out.kept h2 (by simp)) HD.out h5);obtain⟨d0,d1,d2,d3⟩:=zL a4.out;clear h2 a9 c0 c1 c2 c3;go_wp2_with fail;refine b1.out.mono ?_;rintro e w2 ⟨v2,sv,rfl,⟨o,hs,sf,cf,sn,cn,rfl,ho,h9⟩,h8⟩;rw[qNY HD.out]at h9⊢;obtain⟨R,hR⟩:=Nm (minD d k);rw[<-hR]at h9⊢;have H7:R.letters=k:=by rw[hR];exact(gO HD.out).hk
 have H6:R.start=0:=by rw[hR];rfl
 obtain⟨FL,H9⟩:=Nm R.final.length;obtain⟨NL,H8⟩:=Nm R.next.length;rw[H7,H6,<-H9,<-H8];obtain⟨b0,c7,c6,a1,a0,d7⟩:=K6 hR H7 H6 H9 H8 h9;have d5:=Kh h8;obtain⟨T3,H5⟩:=Nm w2.heap.size;obtain⟨w3,H2⟩:=Nm (w2.alloc (.cells #[.int .i64 (k:Int),.int .i64 0,.slice sf FL cf,.slice sn NL cn] 29));have h3:=Ga w2 (.cells #[.int .i64 (k:Int),.int .i64 0,.slice sf FL cf,.slice sn NL cn] 29) none;have H0:=heap_alloc_new w2 (.cells #[.int .i64 (k:Int),.int .i64 0,.slice sf FL cf,.slice sn NL cn] 29);rw[<-H2]at h3 H0;rw[<-H5]at H0;have e5:=h8.size;have e4:=h3.size;obtain⟨b9,c5,b2⟩:=K3 H2 H5 h3;have h1:=zB (zB a3.out h8) h3;have b3:=Kh h1;obtain⟨e0,e1,e2,e3⟩:=zL H0;obtain⟨q0,q1,q2,q3⟩:=zL h1;have f0:=zA h1 0;have f1:=zA h1 1;have f2:=zA h1 2;have f3:=zA h1 3;have e8:Q<T3:=by omega
 clear hR H7 H6 H9 H8 h9 h8 H2 H5 h3 H0 h1 d0 d1 d2 d3 b1 a2;go_upto_region 4 with fail;rw[<-b9.out,<-c5.out];go_wp2;obtain⟨a8,H3⟩:=uF b3.out (.int .i64 (k:Int)) (.int .i64 0) (.slice sf FL cf) (.slice sn NL cn);obtain⟨wz,a6⟩:=Nm ((((w3.setCell ⟨Q,0,none⟩ (.int .i64 (k:Int))).setCell ⟨Q,1,none⟩ (.int .i64 0)).setCell ⟨Q,2,none⟩ (.slice sf FL cf)).setCell ⟨Q,3,none⟩ (.slice sn NL cn));rw[<-a6]at a8 H3⊢;clear a6;obtain⟨r0,r1,r2,r3⟩:=zL a8;clear e0 e1 e2 e3 q0 q1 q2 q3 f0 f1 f2 f3;refine bodyPost_ret (v:=.agg #[.int .i64 (k:Int),.int .i64 0,.slice sf FL cf,.slice sn NL cn]) (by simp[results,Tryz.results50,go_sem,r0,r1,r2,r3]) rfl ?_;have b4:w.grownBy wz none:=zC (zC (zC (zC d4.out d6.out) d5.out) b2.out) H3 (fun k e=>by have h7:Q=k:=Oj e;omega);have b5:=(d7.out.grow b2.out).far H3 b3.out (by omega);refine⟨_,rfl,⟨o,hs,sf,cf,sn,cn,?_,by omega,by rw[<-b0.out];exact b5⟩,b4⟩;rw[<-b0.out,c6.out,c7.out,a1.out,a0.out]
def qIH:DfaV:=⟨0,0,[],[]⟩
def qL (M:Nat)(p q:List Nat):List Nat:=List.zipWith (fun a b=>a*M+b) p q
theorem rG {M:Nat}{p q:List Nat}(h:q.length=p.length):(qL M p q).length=p.length:=by simp[qL,h]
theorem qHD {M:Nat}{p q:List Nat}(h:q.length=p.length){i:Nat}(hi:i<p.length):(qL M p q).getD i 0=p.getD i 0*M+q.getD i 0:=by
 rw[zN (by rw[rG h];exact hi),zN hi,zN (show i<q.length by omega)];simp[qL]
theorem qJW {M c:Nat}{p q:List Nat}(hp:∀x∈p,x<c)(hq:∀x∈q,x<M):∀x∈qL M p q,x<c*M:=by
 intro x hx;obtain⟨i,hi,rfl⟩:=List.getElem_of_mem hx;simp only[qL,List.getElem_zipWith];have h0:i<p.length/\i<q.length:=by simp only[qL,List.length_zipWith]at hi;omega
 have h1:=hp _ (List.getElem_mem h0.1);have h2:=hq _ (List.getElem_mem h0.2)
 generalize p[i]=a at h1⊢
 generalize q[i]=b at h2⊢
 have:a*M+M<=c*M:=by rw[<-Nat.succ_mul];exact Nat.mul_le_mul_right M h1
 omega
theorem qEB {M:Nat}{p q:List Nat}(h:q.length=p.length)(hq:∀x∈q,x<M)(a9:∀x∈q,x<p.length):numb (qL M p q)=fE p q:=by
 refine lU _ _ (by rw[rG h,qI h]) fun i j hi hj=>?_;rw[rG h]at hi hj;simp only[qL,lG,List.getElem_zipWith];rw[cY (Nat.le_of_lt (a9 _ (List.getElem_mem _))) (Nat.le_of_lt (a9 _ (List.getElem_mem _)))];have h1:=hq _ (List.getElem_mem (show i<q.length by omega));have h2:=hq _ (List.getElem_mem (show j<q.length by omega));constructor
 ·intro e
  have e1:(p[i]*M+q[i]) / M=p[i]:=by rw[Nat.mul_comm,Nat.mul_add_div (by omega),Nat.div_eq_of_lt h1];omega
  have e2:(p[j]*M+q[j]) / M=p[j]:=by rw[Nat.mul_comm,Nat.mul_add_div (by omega),Nat.div_eq_of_lt h2];omega
  have e3:p[i]=p[j]:=by rw[<-e1,<-e2,e]
  rw[e3]at e;exact⟨e3,by omega⟩
 rintro ⟨e1,e2⟩;rw[e1,e2]
def numA (L:List Nat)(K:Nat):List Nat:=(List.range K).map fun i=>if i∈L then L.idxOf i+1 else 0
theorem nO (L:List Nat)(K:Nat):(numA L K).length=K:=by simp[numA]
theorem qFS {L:List Nat}{K i:Nat}(hi:i<K):(numA L K).getD i 0=if i∈L then L.idxOf i+1 else 0:=by
 rw[zN (by rw[nO];exact hi)];simp[numA]
theorem qNP (K:Nat):numA [] K=List.replicate K 0:=by
 refine List.ext_getElem (by simp[numA]) fun i h1 h2=>by simp[numA]
theorem qNO {L:List Nat}{K i:Nat}(hi:i ∉ L):(numA L K).set i (L.length+1)=numA (L++[i]) K:=by
 refine List.ext_getElem (by simp[numA]) fun j h1 h2=>?_;rw[List.getElem_set];have hj:j<K:=by simpa [numA] using h2
 simp only[numA,List.getElem_map,List.getElem_range]
 split
 ·rename_i e
  subst e;rw[if_pos (by simp),List.idxOf_append,if_neg hi];simp
 rename_i e
 by_cases hj:j∈L
 ·rw[if_pos hj,if_pos (by simp[hj]),List.idxOf_append,if_pos hj]
 rw[if_neg hj,if_neg (by simp[hj];omega)]
def midC (l p:List Nat)(k:Nat):List Nat:=(numb l).take k++p.drop k
theorem nT {l p:List Nat}{k:Nat}(h:l.length=p.length)(hk:k<=p.length):(midC l p k).length=p.length:=by simp[midC,yW,h];omega
theorem qOD {l p:List Nat}{k:Nat}(h:l.length=p.length)(hk:k<p.length):(midC l p k).getD k 0=p.getD k 0:=by
 have hl:((numb l).take k).length=k:=by rw[List.length_take,yW];omega
 rw[List.getD_eq_getElem?_getD,midC,List.getElem?_append_right (by omega),hl];simp[List.getD]
theorem qOC {l p:List Nat}{k:Nat}(h:l.length=p.length)(hk:k<p.length):(midC l p k).set k ((numb l).getD k 0)=midC l p (k+1):=by
 have hl:((numb l).take k).length=k:=by rw[List.length_take,yW];omega
 rw[midC,List.set_append_right _ _ (by omega),hl,Nat.sub_self,midC,yB (d:=0) (by rw[yW];omega),List.append_assoc];rw[List.drop_eq_getElem_cons hk,List.set_cons_zero];rfl
theorem qOE {l p:List Nat}{k:Nat}(h:l.length=p.length)(hk:k=p.length):midC l p k=numb l:=by
 subst hk;rw[midC,List.drop_length,List.append_nil,List.take_of_length_le (by rw[yW];omega)]
theorem qIW {am b x K:Nat}(hx:x=am+b)(a9:x<K)(hK:K<=1000000):wrap64 (am:Int)=(am:Int)/\wrap64 ((am:Int)+(b:Int))=(x:Int)/\IntKind.i64.wrap ((am:Int)+(b:Int))=(x:Int)/\IntKind.i64.wrap (am:Int)=(am:Int):=by
 have e3:(am:Int)+(b:Int)=(x:Int):=by omega
 rw[e3];exact⟨IntWalk.wrap64_in _ (by omega),IntWalk.wrap64_in _ (by omega),xJ (by omega),xJ (by omega)⟩
theorem qBI (w:World)(g gm n c M:Nat)(p q:List Nat)(hp:p.length=n)(hq:q.length=n)(a8:∀x∈p,x<c)(a9:∀x∈q,x<M)(a7:c*M<=1000000)(hc:c<=1000000)(hM:M<=1000000)(hn:n<=1000000)(a6:g≠gm)(hA:Arr w g 3 (nats p))(hB:Arr w gm 3 (nats q)):Calls Tryz.prog 132 #[.slice (some ⟨g,0,none⟩) n n,.slice (some ⟨gm,0,none⟩) n n,.int .i64 (c:Int),.int .i64 (M:Int)] w fun e w'=>e=.returned (.int .i64 ((cls (numb (qL M p q)):Nat):Int))/\Arr w' g 3 (nats (numb (qL M p q)))/\w.grownBy w' (some g):=by
 have hK:=qJW a8 a9;have a3:=rG (M:=M) (p:=p) (q:=q) (by omega);have H8:=Kh (fun(i:Nat) (hi:i<p.length)=>qHD (M:=M) (p:=p) (q:=q) (by omega) hi);obtain⟨l,hl⟩:=Nm (qL M p q);rw[<-hl]at hK a3 H8⊢;obtain⟨K,b5⟩:=Nm (c*M);rw[<-b5]at hK a7;have a0:(c:Int)*(M:Int)=(K:Int):=by rw[b5];simp
 have b4:IntKind.i64.wrap ((c:Int)*(M:Int))=(K:Int):=by rw[a0];exact xJ (by omega)
 obtain⟨h6,d1,h8,HK,HA,HB⟩:=K6 hp hq a3 hK hA hB;have e3:=hA.lt;have c7:=hB.lt;have f2:=Kh a9;have f3:=Kh a8;clear hp hq a3 hK hA hB hl b5 a9 a8;go_enter Tryz.func132,Tryz.ntmps132;go_wp2_with (first|(at_make;refine qG rfl _ _ _ rfl yH rfl .i64 .i64 _ _ K rfl rfl (by first|exact a0|exact b4|rfl) (by first|exact a0|exact b4|rfl) ?b1 ?b2 ?_;(case b1=>omega);(case b2=>(unfold maxLen;omega));intro w2 H1 c8 d8)|fail);clear a0 b4;obtain⟨NB,b3⟩:=Nm w.heap.size;rw[<-b3]at H1⊢;obtain⟨d2,a2,f4⟩:=K3 H1 c8 b3;have b0:g≠NB:=by omega
 have a5:gm≠NB:=by omega
 clear H1 c8 b3
 go_loopg [10,11,12,19] n (fun gh v10 a11 a12 i wr=>∃(k:Nat),gh+k=n/\i=.int .i64 k/\v10=.int .i64 (((yQ (l.take k)).length:Nat):Int)/\Arr wr NB 3 (nats (numA (yQ (l.take k)) K))/\Arr wr g 3 (nats (midC l p k))/\Arr wr gm 3 (nats q)/\w.grownBy wr (some g))
 case atStart=>exact⟨0,rfl,rfl,rfl,by rw[show yQ (l.take 0)=[] from rfl,qNP,yN];exact d2.out,by rw[show midC l p 0=p by simp[midC]];exact HA.out.kept a2.out (by simp),HB.out.kept a2.out (by simp),xY a2.out⟩
 clear d2 a2;obtain⟨k,hg,rfl,rfl,hN,hC,hQ,a4⟩:=hrel;obtain⟨HG,HN,HC,HQ,b6⟩:=K5 hg hN hC hQ a4;clear hg;by_cases hk:k<n
 ·have d9:(k:Int)<n:=by omega
  have h9:k<p.length:=(by rw[h6.out];exact hk);have H4:k<l.length:=(by rw[h8.out];exact h9);have c1:=Arr.nat hC (i:=k) (by rw[nT h8.out (by omega)];exact h9);rw[qOD h8.out h9]at c1;have c2:=Arr.nat hQ (i:=k) (by rw[d1.out];exact hk);have hx:=H8.out k h9;have h5:l.getD k 0<K:=HK.out _ (by rw[zN H4];exact List.getElem_mem _);have c3:=Arr.nat hN (i:=l.getD k 0) (by rw[nO];exact h5);rw[qFS h5]at c3;have fN:=hN.frozen (l.getD k 0);have fC:=hC.frozen k;have H5:=jB H4;have h0:=bD H4;rw[<-zN (d:=0) H4]at H5 h0;have c0:=qOC h8.out h9;have c9:(yQ (l.take k)).length<=k:=by have:=uX (l.take k);rw[List.length_take]at this;omega
  obtain⟨x,b7⟩:=Nm (l.getD k 0);obtain⟨a,ha⟩:=Nm (p.getD k 0);obtain⟨b,hb⟩:=Nm (q.getD k 0);obtain⟨F,hF⟩:=Nm (yQ (l.take k));rw[<-b7]at hx h5 c3 fN H5 h0;rw[<-ha]at c1 hx;rw[<-hb]at c2 hx;rw[<-hF]at c3 H5 h0 c9 HN;obtain⟨d5,d3,f7⟩:=K3 H5 c0 hF;have f1:a<c:=(by rw[ha];exact f3.out _ (by rw[zN h9];exact List.getElem_mem _));have f0:b<M:=(by rw[hb];exact f2.out _ (by rw[zN (show k<q.length by rw[d1.out];exact hk)];exact List.getElem_mem _));have d7:(x:Int)<K:=(by exact_mod_cast h5);have d0:a*M<=1000000:=Nat.le_trans (Nat.le_trans (hx ▸ Nat.le_add_right _ _) (Nat.le_of_lt h5)) a7;obtain⟨am,H2⟩:=Nm (a*M);have e1:(a:Int)*(M:Int)=(am:Int):=by rw[H2];simp
  rw[<-H2]at hx d0;have E1:=Kh e1;clear e1 H2;obtain⟨e5,e6,e4,e0⟩:=qIW hx h5 a7;have e2:IntKind.i64.wrap ((a:Int)*(M:Int))=(am:Int):=by rw[E1.out];exact e0
  clear hx c0 H5 b7 ha hb hF f1 f0 d0 h9 H4 hN hC hQ a4 e0;rw[<-f7.out];by_cases hm:x∈F
  ·rw[if_pos hm]at c3 h0
   have HM:=Kh hm;obtain⟨y,hy⟩:=Nm (F.idxOf x);have g3:y<F.length:=(by rw[hy];exact List.idxOf_lt_length_of_mem hm);rw[<-hy]at c3 h0;have h7:=Kh h0;have b9:¬((y+1:Nat):Int)=0:=by omega
   clear hm hy h0;obtain⟨z,hz⟩:=Nm (y+1);rw[<-hz]at c3 b9;have g2:((z:Int) == 0)=false:=by rw[beq_eq_false_iff_ne];exact b9
   have d6:(z:Int)-1=(y:Int):=by omega
   have g1:IntKind.i64.wrap ((z:Int)-1)=(y:Int):=by rw[d6];exact xJ (by omega)
   have HZ:=Kh hz;clear hz;have e1:=E1.out;go_wp2
   go_quiet (fail)
   go_wp2;go_roundg (n-(k+1))
   case measure=>have:=HG.out;omega
   have e8:∀W:World,W.heap=wr.heap->W.os=wr.os->W.tape=wr.tape->W.output=wr.output->wr.grownBy (W.setCell ⟨g,k,none⟩ (.int .i64 (y:Int))) (some g):=fun W h1 h2 h3 h4=>zG (wW (zU wr (some g)) h2 h3 h4 h1) (zF W _ _);have H0:=e8 (wr.drewN nq) rfl rfl rfl rfl;have H6:yQ (l.take (k+1))=F:=by rw[d5.out,tD HM.out]
   refine⟨k+1,by have:=HG.out;omega,by go_num,by rw[H6],?_,?_,HQ.out.kept H0 (fun e=>a6 (Oj e)),zG b6.out H0⟩
   ·rw[H6];exact HN.out.kept H0 (fun e=>b0 (Oj e))
   rw[<-d3.out,h7.out];exact(HC.out.of_heap rfl).nat_set k (by rw[nT h8.out (by rw[h6.out];omega),h6.out];exact hk) y
  rw[if_neg hm]at c3 h0;have HM:=Kh hm;have h7:=Kh h0;obtain⟨L,hL⟩:=Nm F.length;rw[<-hL]at c9 h0 h7⊢;have a1:=Kh hL;have g4:L<=1000000:=by omega
  clear hm h0 hL;have e1:=E1.out;go_upto_region 6 with fail
  go_quiet (fail)
  go_upto_region 10 with fail;have H9:wr.grownBy ((wr.drewN nq).setCell ⟨NB,x,none⟩ (.int .i64 ((L:Int)+1))) (some NB):=zG (zQ wr nq (some NB)) (zF (wr.drewN nq) ⟨NB,x,none⟩ _);have H3:=((HN.out.of_heap (w':=wr.drewN nq) rfl).nat_set x (by rw[nO];exact h5) (L+1));rw[a1.out,qNO HM.out,<-a1.out]at H3;rw[show ((L+1:Nat):Int)=(L:Int)+1 by omega]at H3;obtain⟨w5,b8⟩:=Nm ((wr.drewN nq).setCell ⟨NB,x,none⟩ (.int .i64 ((L:Int)+1)));rw[<-b8]at H9 H3⊢;have f6:=Kh H3;have d4:=Kh H9
  have c5:w5.cell? ⟨NB,x,none⟩=some (.int .i64 ((L:Int)+1)):=by
   have:=Arr.nat H3 x (by rw[nO];exact h5);rw[qFS h5,if_pos (by simp),List.idxOf_append,if_neg HM.out]at this;rw[this];simp[a1.out]
  have H7:=HC.out.kept H9 (fun e=>b0 (Oj e).symm);have f5:=H7.frozen k;have c6:=Arr.nat H7 k (by rw[nT h8.out (by rw[h6.out];omega),h6.out];exact hk);have e7:=H7.lt;have g0:=Kh H7;have e9:(L:Int)+1-1=(L:Int):=by omega
  have e10:wrap64 (L:Int)=(L:Int):=IntWalk.wrap64_in _ (by omega);clear b8 H9 H3 H7 c1 c2 c3 fN fC e1 e2 e4 e5 e6;go_wp2;go_roundg (n-(k+1))
  case measure=>have:=HG.out;omega
  have H0:=zF w5 ⟨g,k,none⟩ (.int .i64 (L:Int));have H6:yQ (l.take (k+1))=F++[x]:=by rw[d5.out,vO HM.out]
  refine⟨k+1,by have:=HG.out;omega,by go_num,by rw[H6,List.length_append,<-a1.out];simp,?_,?_,(HQ.out.kept d4.out (fun e=>a5 (Oj e).symm)).kept H0 (fun e=>a6 (Oj e)),zG (yG b6.out d4.out (by show _<=NB;have:=f4.out;omega)) H0⟩
  ·rw[H6];exact f6.out.kept H0 (fun e=>b0 (Oj e))
  rw[<-d3.out,h7.out];exact g0.out.nat_set k (by rw[nT h8.out (by rw[h6.out];omega),h6.out];exact hk) L
 have c4:k=n:=by have:=HG.out;omega
 have d9:¬(k:Int)<n:=(by omega);have HE:Hid (l.take k=l):=Kh (List.take_of_length_le (by rw[h8.out,h6.out];omega));have f8:Hid (midC l p k=numb l):=Kh (qOE h8.out (by rw[h6.out];exact c4));have f9:=Kh (qGB l);rw[f8.out]at HC;clear c4 a4 hN hC hQ;go_wp2;go_ret;exact⟨by rw[f9.out,HE.out];rfl,HC.out,b6.out⟩
end Go.Proofs.YtobakifdllameaaGreat
