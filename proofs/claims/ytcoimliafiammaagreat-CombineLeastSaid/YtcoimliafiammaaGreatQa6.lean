/- Part 6 of the proof. -/
import Derived.Test.YtcoimliafiammaaGreatQa5
import Derived.Deep.OwnRows
set_option linter.unusedVariables false
set_option linter.unusedSimpArgs false
set_option maxRecDepth 100000
set_option maxHeartbeats 16000000
namespace Go.Proofs.YtcoimliafiammaaGreat
open Go.Maps Go.RowKit
def numF {α:Type}[DecidableEq α](l:List α)(L:α):Option Nat:=if L∈l then some (l.idxOf L) else none
theorem qVX {α:Type}[DecidableEq α]{l:List α}{L:α}(h:L ∉ l):(fun q=>if q=L then some l.length else numF l q)=numF (l++[L]):=by
 funext q;unfold numF;by_cases e:q=L
 ·subst e
  rw[if_pos rfl,if_pos (by simp),List.idxOf_append,if_neg h];simp
 rw[if_neg e];by_cases hq:q∈l
 ·rw[if_pos hq,if_pos (by simp[hq]),List.idxOf_append,if_pos hq]
 rw[if_neg hq,if_neg (by simp[hq,e])]
theorem qVV {α:Type}[DecidableEq α]{l:List α}{L:α}(h:L∈l):numF l L=some (if L∈l then l.idxOf L else l.length):=by rw[numF,if_pos h,if_pos h]
theorem qZS {α:Type}[DecidableEq α]{l:List α}{L:α}(h:L ∉ l):numF l L=none:=if_neg h
theorem qVR {α:Type}[DecidableEq α]{l:List α}{L:α}{v:Nat}(hv:v=if L∈l then l.idxOf L else l.length)(h:L∈l):numF l L=some v:=by rw[hv,qVV h]
theorem qVS {α:Type}[DecidableEq α]{l:List α}{L:α}{v:Nat}(hv:v=if L∈l then l.idxOf L else l.length)(h:L ∉ l):v=l.length:=by rw[hv,if_neg h]
theorem xDB {L:List Nat}(h:L.length=7):∃y0 y1 y2 y3 y4 y5 y6,L=[y0,y1,y2,y3,y4,y5,y6]:=by
 match L,h with
 | [y0,y1,y2,y3,y4,y5,y6],_=>exact⟨y0,y1,y2,y3,y4,y5,y6,rfl⟩
theorem qLW {w:World}{g e y0 y1 y2 y3 y4 y5 y6:Nat}(h:Arr w g e (nats [y0,y1,y2,y3,y4,y5,y6])):w.cell? ⟨g,0,none⟩=some (.int .i64 (y0:Int))/\w.cell? ⟨g,1,none⟩=some (.int .i64 (y1:Int))/\w.cell? ⟨g,2,none⟩=some (.int .i64 (y2:Int))/\w.cell? ⟨g,3,none⟩=some (.int .i64 (y3:Int))/\w.cell? ⟨g,4,none⟩=some (.int .i64 (y4:Int))/\w.cell? ⟨g,5,none⟩=some (.int .i64 (y5:Int))/\w.cell? ⟨g,6,none⟩=some (.int .i64 (y6:Int)) :=
 ⟨h.cell 0 (by simp[nats]),h.cell 1 (by simp[nats]),h.cell 2 (by simp[nats]),h.cell 3 (by simp[nats]),h.cell 4 (by simp[nats]),h.cell 5 (by simp[nats]),h.cell 6 (by simp[nats])⟩
theorem qVW:(fun _=>none)=numF ([]:List (List Nat)):=by funext L;simp[numF]
theorem qDY (B:Nat)(w:World)(v:Value)(d:DfaV)(n k:Nat)(hB:B<=w.heap.size)(h:tM B w v d)(hd:VD d n k)(h5:n<=512):Calls Tryz.prog 85 #[v] w (xAY w (yX d k)):=by
 have r7:=@run_makeMap Tryz.prog;have b6:=h;obtain⟨fb,fo,fc,b,off,cap,RB,RO,RC,rfl,c4⟩:=h.at hd;have hn:=hd.hn;have o0:=hd.n1;have l2:=hd.k6;have s0:=hd.k1;have s6:=c4.fcap.1;have d4:=c4.fcap.2;have s9:=c4.cap.1;have d5:=c4.cap.2;have o2:fc<=9223372036854775807:=by unfold maxLen at d4;omega
 have o1:cap<=9223372036854775807:=by unfold maxLen at d5;omega
 obtain⟨S,hS⟩:=Nm (st0 d);have j8:dAgg k (st0 d) fb fo fc b off cap n=.agg #[.int .i64 (k:Int),.int .i64 (S:Int),.slice (some ⟨fb,fo,none⟩) n fc,.slice (some ⟨b,off,none⟩) n cap]:=by rw[hS];rfl
 rw[j8]at b6⊢;obtain⟨wA,j0⟩:=Nm (w.alloc (.cells #[.int .i64 (k:Int),.int .i64 (S:Int),.slice (some ⟨fb,fo,none⟩) n fc,.slice (some ⟨b,off,none⟩) n cap] 30));have f6:=Ga w (.cells #[.int .i64 (k:Int),.int .i64 (S:Int),.slice (some ⟨fb,fo,none⟩) n fc,.slice (some ⟨b,off,none⟩) n cap] 30) none;have b9:=heap_alloc_new w (.cells #[.int .i64 (k:Int),.int .i64 (S:Int),.slice (some ⟨fb,fo,none⟩) n fc,.slice (some ⟨b,off,none⟩) n cap] 30);rw[<-j0]at b9 f6;obtain⟨P,hP⟩:=Nm w.heap.size;rw[<-hP]at b9;obtain⟨c0,c1,c2,c3⟩:=zE b9;have t1:=zM b9;have p0:B<=wA.heap.size:=by omega
 have p7:=Kh hP;have t2:w.heap.size<=P:=by omega
 obtain⟨m9,q5,p3⟩:=K3 b9 f6 j0;have c8:Hid (∀W:World,w.grownBy W none->DAt B W d n k fb fo fc b off cap RB RO RC):=Kh (fun W hg=>c4.kept hg (by simp));have HN:=Kh hn;have HD:=Kh hd;have l7:=Kh (sK B wA _ d p0 (b6.kept f6 (by simp)));have p4:=Kh (eG hd h5);clear b9 f6 j0 c4 hn hd h b6 j8 d4 d5 hS hP;go_enter Tryz.func85,Tryz.ntmps85;go_upto_region 1 with fail;rw[<-p3.out,<-p7.out];go_wp2_with fail;refine l7.out.mono ?_;rintro e w1 ⟨rfl,f9⟩;rw[p4.out];have r3:=f9.size;have q6:=Kh (zA q5.out f9);have g3:=Kh (zB m9.out f9);obtain⟨d0,d1,d2,d3⟩:=zE g3.out;have t9:B<=w.heap.size:=hB;clear f9 l7 c0 c1 c2 c3 m9;go_wp2_with (first|(at_make;refine kW rfl _ _ _ rfl yP rfl .i64 .i64 _ _ n rfl rfl rfl rfl ?b1 ?b2 ?_;(case b1=>omega);(case b2=>(unfold maxLen;omega));intro w2 h0 f8 i5;(obtain⟨e0,e1,e2,e3⟩:=zE (zB g3.out f8)))|fail);obtain⟨G,hG⟩:=Nm w1.heap.size;rw[<-hG]at h0 i5⊢;have t6:P<G:=by omega
 have o9:w.heap.size<=G:=by omega
 have n3:Hid (Arr w2 G 3 (nats (fstF d n 0))):=Kh (by
  rw[show fstF d n 0=List.replicate n 0 by simp[fstF,vT],xJ];exact h0)
 have m3:=Kh (zA q6.out f8);have m8:=Kh (zB g3.out f8);clear h0 f8 hG g3 d0 d1 d2 d3 e0 e1 e2 e3
 go_loopg [4,5,6,26] n (fun gh a4 a5 a6 i wr=>∃q:Nat,gh+q=n/\i=.int .i64 q/\a4=.int .i64 (fstC d q:Nat)/\Arr wr G 3 (nats (fstF d n q))/\wr.heap[P]?=some (.cells #[.int .i64 (k:Int),.int .i64 (S:Int),.slice (some ⟨fb,fo,none⟩) n fc,.slice (some ⟨b,off,none⟩) n cap] 30 (0,0))/\w.grownBy wr none)
 case atStart=>exact⟨0,rfl,rfl,rfl,n3.out,m8.out,m3.out⟩
 clear n3 m8 m3;obtain⟨q,a1,rfl,rfl,h0,h6,h3⟩:=hrel;obtain⟨h7,HA,H5,H4⟩:=K4 a1 h0 h6 h3;obtain⟨d0,d1,d2,d3⟩:=zE h6;clear a1;by_cases hq:q<n
 ·have n9:(q:Int)<n:=by omega
  have cf0:=(c8.out _ h3).fin (q:=0) (by omega);have cfq:=(c8.out _ h3).fin hq;have s5:=h0.frozen q;have t0:=h0.nat q (by rw[kZ (by omega)];exact hq);have i9:(nats (fstF d n q)).length=n:=by rw[zV,kZ (by omega)]
  rw[Nat.add_zero]at cf0;by_cases e:d.final.getD q false=d.final.getD 0 false
  ·obtain⟨h1,h2⟩:=qSD hq e
   have H1:=Kh h1;have H2:=Kh h2;rw[e]at cfq
   generalize d.final.getD 0 false=b0 at cf0 cfq
   have e1:(b0 != b0)=false:=by simp
   clear h1 h2 e h0 h6;go_wp2;go_roundg (n-(q+1))
   case measure=>have:=h7.out;omega
   exact⟨q+1,by have:=h7.out;omega,by go_num,by rw[H2.out],by rw[H1.out];exact HA.out,H5.out,H4.out⟩
  obtain⟨h1,h2⟩:=qSE hq e;have H1:=Kh h1;have H2:=Kh h2;have e1:(d.final.getD q false == d.final.getD 0 false)=false:=by rw[beq_eq_false_iff_ne];exact e
  generalize d.final.getD 0 false=b0 at cf0 e1
  generalize d.final.getD q false=b1 at cfq e1
  clear h1 h2 e h0 h6;go_wp2;go_roundg (n-(q+1))
  case measure=>have:=h7.out;omega
  exact⟨q+1,by have:=h7.out;omega,by go_num,by rw[H2.out];rfl,by rw[H1.out];exact HA.out.nat_set q (by rw[kZ (by omega)];exact hq) 1,zB H5.out (zD wr ⟨G,q,none⟩ _) (fun e=>by have e:G=P:=Oj e;omega),zY H4.out (zD wr ⟨G,q,none⟩ _) (by show _<=G;omega)⟩
 have f3:q=n:=by have:=h7.out;omega
 obtain⟨l1,l4⟩:=qSC HD.out
 have n4:Hid (Arr wr G 3 (nats (yY d k 0))):=Kh (by
  rw[show yY d k 0=fstF d n q by rw[f3,fstF,l1];simp[yY]];exact h0)
 have r0:Hid (fstC d q=cls (yY d k 0)):=Kh (by rw[f3,l4];rfl);rw[r0.out];have H8:=Kh f3;clear f3 l1 l4 HA h7 h0 h6 h3;obtain⟨w3,rfl⟩:=Nm (wr:World);go_wp2_with fail
 go_loopg [3,4,7,8,9,10,11,12,13,14,15] (n-cls (yY d k 0)) (fun gh a3 a4 a7 a8 a9 a10 a11 a12 a13 a14 a15 wr=>∃(m g:Nat),gh=n-cls (yY d k m)/\m<=cls (yY d k m)/\a3=.slice (some ⟨g,0,none⟩) n n/\a4=.int .i64 (cls (yY d k m):Nat)/\Arr wr g 3 (nats (yY d k m))/\w.heap.size<=g/\g≠P/\wr.heap[P]?=some (.cells #[.int .i64 (k:Int),.int .i64 (S:Int),.slice (some ⟨fb,fo,none⟩) n fc,.slice (some ⟨b,off,none⟩) n cap] 30 (0,0))/\w.grownBy wr none)
 case atStart=>exact⟨0,G,rfl,by omega,rfl,rfl,n4.out,o9,by omega,H5.out,H4.out⟩
 clear n4 H5 H4;obtain⟨m,g,rfl,o3,rfl,rfl,h0,s1,s3,h6,h3⟩:=hrel;obtain⟨p,hp⟩:=Nm (yY d k m);have l0:p.length=n:=by rw[hp,yZ,HN.out]
 have o7:=qXP HD.out m;have c9:∀c∈p,c<n:=(by have:=mQ (tJ d k m);rw[<-hp,l0]at this;exact this);have j2:Hid (numb (sigL d k p)=yY d k (m+1)):=Kh (by rw[hp];exact qSY HD.out m);have d8:Hid (cls (yY d k (m+1))=cls (yY d k m)->yY d k (m+1)=yX d k):=Kh (qNV HD.out (by omega));have e7:Hid (cls (yY d k (m+1))≠cls (yY d k m)->cls (yY d k m)<cls (yY d k (m+1))):=Kh (qNW HD.out);rw[<-hp]at h0;obtain⟨C,hC⟩:=Nm (cls (yY d k m));rw[<-hC]at d8 e7 o3 o7⊢;obtain⟨x2,j3,q9,HA,H5,H4⟩:=K6 hp c9 hC h0 h6 h3;have k7:(sigL d k p).length=n:=by rw[kS,l0]
 obtain⟨wm,f1⟩:=Nm (wr.alloc (.map #[] 0));obtain⟨mb,i3⟩:=Nm wr.heap.size;have i8:wr.grownBy wm none:=by rw[f1];exact Ga wr _ none
 have e6:Hid (MapK 150 qXZ sigV wm mb 0 0 (numF [])):=Kh (by
  rw[f1,i3,<-qVW];exact MapK.made _ _ _ _)
 have t3:=zM h6;have s2:=h0.lt;obtain⟨p1,c6,q0⟩:=K3 f1 i8 i3;have r2:=i8.size;have r6:=e6.out.lt;have t4:P<mb:=(by omega);have o4:g<mb:=(by omega);have n7:w.heap.size<=mb:=by have:=h3.size;omega
 clear hp c9 hC h0 h6 h3 i8 f1 i3;obtain⟨wo,rfl⟩:=Nm (wr:World);go_upto_region 11 with fail;rw[<-p1.out,<-q0.out];obtain⟨d0,d1,d2,d3⟩:=zE (zB H5.out c6.out);go_wp2_with (first|(at_make;refine kW rfl _ _ _ rfl yP rfl .i64 .i64 _ _ n rfl rfl rfl rfl ?b1 ?b2 ?_;(case b1=>omega);(case b2=>(unfold maxLen;omega));intro w4 h0 b8 i4;(obtain⟨e0,e1,e2,e3⟩:=zE (zB (zB H5.out c6.out) b8)))|fail);obtain⟨F,hF⟩:=Nm wm.heap.size;rw[<-hF]at h0 i4⊢;obtain⟨sg,g5⟩:=Nm (sigL d k p);rw[<-g5]at j2 k7;have s4:g<F:=(by omega);have t5:P<F:=(by omega);have r8:mb<F:=(by omega);have l6:w.heap.size<=F:=by omega
 have i2:(numb sg).length=n:=by rw[yW,k7]
 have p5:=Kh g5;have g0:=Kh i2
 have m4:Hid (Arr w4 F 3 (nats (uT (numb sg) 0))):=Kh (by
  rw[nM,i2,xJ];exact h0)
 have l8:=Kh (e6.out.kept b8 (by simp));have n2:=Kh ((HA.out.kept c6.out (by simp)).kept b8 (by simp));have m7:=Kh (zB (zB H5.out c6.out) b8);have m2:=Kh (zA (zA H4.out c6.out) b8);clear g5 i2 h0 b8 hF e6 HA H5 H4 c6 d0 d1 d2 d3 e0 e1 e2 e3
 go_loopg [9,10,11,12,13,14,15,48] n (fun gh a9 a10 a11 a12 a13 a14 a15 i wr=>∃(q c:Nat),gh+q=n/\i=.int .i64 q/\Arr wr F 3 (nats (uT (numb sg) q))/\MapK 150 qXZ sigV wr mb q c (numF (yE (sg.take q)))/\c=(yE (sg.take q)).length/\Arr wr g 3 (nats p)/\wr.heap[P]?=some (.cells #[.int .i64 (k:Int),.int .i64 (S:Int),.slice (some ⟨fb,fo,none⟩) n fc,.slice (some ⟨b,off,none⟩) n cap] 30 (0,0))/\w.grownBy wr none)
 case atStart=>exact⟨0,0,rfl,rfl,m4.out,by simpa [yE] using l8.out,by simp[yE],n2.out,m7.out,m2.out⟩
 clear m4 l8 n2 m7 m2;obtain⟨q,c,a1,rfl,h0,H0,hc,d7,h6,h3⟩:=hrel;obtain⟨h7,HF,e6,HA,H5,H4⟩:=K6 a1 h0 H0 d7 h6 h3;have e9:=Kh hc;obtain⟨d0,d1,d2,d3⟩:=zE h6;have r1:=h3.size;have t7:=h0.lt;have s8:c<=q:=by rw[hc];have:=tW (sg.take q);rw[List.length_take]at this;omega
 clear a1;by_cases hq:q<n
 ·have n9:(q:Int)<n:=by omega
  have hh:=(c8.out _ h3).hd q hq;have g9:=(c8.out _ h3).rcap q hq;have n8:=(c8.out _ h3).rlt q hq;have g8:=g9.1;have g7:RC q<=9223372036854775807:=by have:=g9.2;unfold maxLen at this;omega
  have d6:=d7.nat q (by omega);obtain⟨rb,i0⟩:=Nm (RB q);obtain⟨ro,g6⟩:=Nm (RO q);obtain⟨rc,a2⟩:=Nm (RC q);rw[<-i0,<-g6,<-a2]at hh;rw[<-a2]at g8 g7;have q8:Hid (∀W:World,w.grownBy W none->∀a,a<k->W.cell? ⟨rb,ro+a,none⟩=some (.int .i64 ((nx d q a:Nat):Int))):=Kh (fun W hg a ha=>by rw[i0,g6];exact(c8.out W hg).el q a hq ha);obtain⟨pq,f4⟩:=Nm (p.getD q 0);rw[<-f4]at d6;have x1:=Kh f4;obtain⟨wk,f2⟩:=Nm (wr.alloc (.cells #[.int .i64 (pq:Int),.int .i64 0,.int .i64 0,.int .i64 0,.int .i64 0,.int .i64 0,.int .i64 0] 150));obtain⟨kb,i7⟩:=Nm wr.heap.size;have b7:wr.grownBy wk none:=by rw[f2];exact Ga wr _ none
  have m0:Hid (Arr wk kb 150 (nats (kB d p q 0))):=Kh (by
   rw[f2,i7];have:=Arr.new wr 150 #[.int .i64 (pq:Int),.int .i64 0,.int .i64 0,.int .i64 0,.int .i64 0,.int .i64 0,.int .i64 0];rw[show nats (kB d p q 0)=#[Value.int .i64 (pq:Int),.int .i64 0,.int .i64 0,.int .i64 0,.int .i64 0,.int .i64 0,.int .i64 0].toList by rw[kB,<-f4];rfl]
   exact this)
  have p2:=Kh f2;have q2:=Kh i7;have q3:=Kh (zA h3 b7);have m5:=Kh (h0.kept b7 (by simp));have l9:=Kh (H0.kept b7 (by simp));have j7:=Kh (d7.kept b7 (by simp));have f0:=Kh (zB h6 b7);have t8:F<kb:=(by omega);clear h0 H0 d7 h6 h3 i0 g6 a2 f4 f2 i7 b7 g9 n8 hc;go_upto_region 16 with fail;rw[<-p2.out,<-q2.out];clear d0 d1 d2 d3 d6 hh HF e6 HA H5 H4;have r5:g<kb:=(by omega);go_wp2_with fail
  go_loopg [12,13,60] k (fun gh a12 a13 i wr=>∃x:Nat,gh+x=k/\i=.int .i64 x/\Arr wr kb 150 (nats (kB d p q x))/\wk.grownBy wr (some kb))
  case atStart=>exact⟨0,rfl,rfl,m0.out,zH _ _⟩
  clear m0;obtain⟨x,a1,rfl,h0,h3⟩:=hrel;obtain⟨H8,HK,H4⟩:=K3 a1 h0 h3;have H6:=zY q3.out h3 (by show _<=kb;omega);have m1:=Kh H6;clear a1;by_cases hx:x<k
  ·have r4:(x:Int)<k:=by omega
   have cel:=q8.out wr H6 x hx;have n6:=mP HD.out hq hx;obtain⟨y,hy⟩:=Nm (nx d q x);rw[<-hy]at cel n6;have n5:(y:Int)<n:=(by omega);have cy:=(j7.out.kept h3 (fun e=>by have e:kb=g:=Oj e;omega)).nat y (by omega);have h4:=qPJ (d:=d) (p:=p) (q:=q) (x:=x) (by omega);rw[<-hy]at h4;have H3:=Kh h4;have k8:=mG (d:=d) (p:=p) (q:=q) (x:=x) (by omega);have ck:=h0.nat (1+x) (by omega);have fk:=h0.frozen (1+x);have p6:=Kh k8;obtain⟨z,hz⟩:=Nm (p.getD y 0);rw[<-hz]at cy;have HZ:=Kh hz;clear h4 k8 hz hy h0 h3 H6;go_wp2;go_roundg (k-(x+1))
   case measure=>have:=H8.out;omega
   exact⟨x+1,by have:=H8.out;omega,by go_num,by rw[<-H3.out,<-HZ.out];exact HK.out.nat_set (1+x) (by rw[p6.out];omega) z,zC H4.out (zD wr ⟨kb,1+x,none⟩ _)⟩
  have g4:x=k:=by have:=H8.out;omega
  have x0:=Kh g4;rw[g4]at h0 HK;have c7:=Kh (m5.out.kept h3 (fun e=>by have e:kb=F:=Oj e;omega));have e4:=Kh (l9.out.kept h3 (fun e=>by have e:kb=mb:=Oj e;omega));have n0:=Kh (j7.out.kept h3 (fun e=>by have e:kb=g:=Oj e;omega));have m6:=Kh (zB f0.out h3 (fun e=>by have e:kb=P:=Oj e;omega));have k9:q<sg.length:=by omega
  have j9:sg[q]=kB d p q k:=by
   have e:=p5.out;subst e;exact qBA (by omega)
  have b4:=qMY k9;have H7:=dZ k9;rw[j9]at b4 H7;obtain⟨y0,y1,y2,y3,y4,y5,y6,hL⟩:=xDB (mG (d:=d) (p:=p) (q:=q) (x:=k) l2)
  have i1:qXZ [y0,y1,y2,y3,y4,y5,y6]:=by
   rw[<-hL];exact⟨mG l2,fun z hz=>by have:=qUO j3.out o0 z hz;omega⟩
  rw[hL]at h0 HK b4 H7;obtain⟨k0,k1,k2,k3,k4,k5,k6⟩:=qLW h0;have h4:=lU (l:=numb sg) (k:=q) (by have:=g0.out;omega);have i9:=xZ (l:=numb sg) (k:=q) (by have:=g0.out;omega);have g2:Hid ((uT (numb sg) q).length=n):=Kh (by rw[i9,g0.out]);have cF:=c7.out.nat q (by rw[g2.out];exact hq);have fF:=c7.out.frozen q;have b5:=e4.out.lookup qAZ i1;obtain⟨Fs,j1⟩:=Nm (yE (sg.take q));rw[<-j1]at b4 H7 b5 e4 e9;have x4:=Kh j1;have p8:=Kh i1;clear hL j9 i9 h0 h3 H6 j1 i1 g4 m5 l9 j7 f0;by_cases hin:[y0,y1,y2,y3,y4,y5,y6]∈Fs
  ·obtain⟨I,hI⟩:=Nm ((numb sg).getD q 0)
   have H9:=qVR (hI.trans b4) hin;rw[tK hin]at H7;rw[H9]at b5;rw[<-hI]at h4;replace b5:(Instr.lookup 148 (.map (some mb)) (.agg #[.int .i64 (y0:Int),.int .i64 (y1:Int),.int .i64 (y2:Int),.int .i64 (y3:Int),.int .i64 (y4:Int),.int .i64 (y5:Int),.int .i64 (y6:Int)]) true).run Tryz.prog wr=.ok (.tuple #[.int .i64 (I:Int),.bool true]) wr:=b5;have H3:=Kh h4;have e8:=Kh H7;clear h4 H7 b4 hI hin H9;go_wp2;go_roundg (n-(q+1))
   case measure=>have:=h7.out;omega
   refine⟨q+1,c,by have:=h7.out;omega,by go_num,by rw[<-H3.out];exact c7.out.nat_set q (by rw[g2.out];exact hq) I,?_,by rw[e8.out];exact e9.out,n0.out.kept (zD wr ⟨F,q,none⟩ _) (fun e=>by have e:F=g:=Oj e;omega),zB m6.out (zD wr ⟨F,q,none⟩ _) (fun e=>by have e:F=P:=Oj e;omega),zY m1.out (zD wr ⟨F,q,none⟩ _) (by show _<=F;omega)⟩;rw[e8.out];exact(e4.out.mono (by omega)).kept (zD wr ⟨F,q,none⟩ _) (fun e=>by have e:F=mb:=Oj e;omega)
  obtain⟨I,hI⟩:=Nm ((numb sg).getD q 0);have h8:=qZS hin;have l5:=qVS (hI.trans b4) hin;rw[vK hin]at H7;rw[h8]at b5;rw[<-hI]at h4;have o8:I=c:=by rw[l5];exact e9.out.symm
  have o5:c<4611686018427387904:=(by omega);have h9:=qVX hin;rw[<-e9.out]at h9;subst o8;replace b5:(Instr.lookup 148 (.map (some mb)) (.agg #[.int .i64 (y0:Int),.int .i64 (y1:Int),.int .i64 (y2:Int),.int .i64 (y3:Int),.int .i64 (y4:Int),.int .i64 (y5:Int),.int .i64 (y6:Int)]) true).run Tryz.prog wr=.ok (.tuple #[.int .i64 0,.bool false]) wr:=b5;have i6:=e4.out.len qAZ;obtain⟨H3,e8,j4,d9⟩:=K4 h4 H7 h9 h8;clear h4 H7 b4 hI hin h8 l5 h9;go_wp2_with (first|(at_mapUpdate;refine oH qAZ rfl _ _ _ rfl mb q I (numF Fs) [y0,y1,y2,y3,y4,y5,y6] I rfl rfl rfl e4.out (by unfold maxLen;omega) p8.out o5 ?_;intro w5 a0 f7;(have c5:=Kh a0);(have g1:=Kh f7);(have fF5:=(c7.out.kept f7 (fun e=>by have e:mb=F:=Oj e;omega)).frozen q);(have cF5:=(c7.out.kept f7 (fun e=>by have e:mb=F:=Oj e;omega)).nat q (by rw[g2.out];exact hq));clear a0 f7)|fail);rw[d9.out]at c5;replace c5:=c5.out;have e5:(if (none:Option Nat).isSome=true then I else I+1)=I+1:=rfl;rw[e5,j4.out]at c5;have q1:=Kh c5;clear c5 e5;go_roundg (n-(q+1))
  case measure=>have:=h7.out;omega
  have f5:=zD w5 ⟨F,q,none⟩ (.int .i64 (I:Int));refine⟨q+1,I+1,by have:=h7.out;omega,by go_num,?_,?_,by rw[e8.out,List.length_append,<-e9.out];rfl,(n0.out.kept g1.out (fun e=>by have e:mb=g:=Oj e;omega)).kept f5 (fun e=>by have e:F=g:=Oj e;omega),zB (zB m6.out g1.out (fun e=>by have e:mb=P:=Oj e;omega)) f5 (fun e=>by have e:F=P:=Oj e;omega),zY (zY m1.out g1.out (by show _<=mb;omega)) f5 (by show _<=F;omega)⟩
  ·rw[<-H3.out]
   exact(c7.out.kept g1.out (fun e=>by have e:mb=F:=Oj e;omega)).nat_set q (by rw[g2.out];exact hq) I
  rw[e8.out];exact q1.out.kept f5 (fun e=>by have e:F=mb:=Oj e;omega)
 have b3:q=n:=by have:=h7.out;omega
 have l3:c=cls (yY d k (m+1)):=by
  rw[hc,b3,List.take_of_length_le (by omega),<-j2.out,qXN]
 have i6:=H0.len qAZ
 have j5:Hid (Arr wr F 3 (nats (yY d k (m+1)))):=Kh (by
  have e:uT (numb sg) q=yY d k (m+1):=by rw[b3,<-j2.out,<-g0.out];exact lV _
  rw[<-e];exact h0)
 have j6:=Kh l3;rw[<-l3]at d8 e7;have o6:c<=n:=by omega
 clear h0 H0 hc d7 b3;by_cases he:c=C
 ·have q7:=Kh (d8.out he)
  have p9:Hid ((yX d k).length=n):=Kh (by rw[vD,HN.out]);subst he;clear d8 e7 j6;go_wp2;go_ret;rw[q7.out]at j5;exact⟨F,by rw[p9.out];rfl,l6,j5.out,h3⟩
 have r9:=e7.out he;have s7:((c:Int) == (C:Int))=false:=by rw[beq_eq_false_iff_ne];omega
 have x3:=Kh he;have q4:=Kh h3;clear d8 e7 he h3;go_wp2;go_roundg (n-cls (yY d k (m+1)))
 case measure=>have:=j6.out;have:=q9.out;omega
 exact⟨m+1,F,rfl,by have:=j6.out;omega,rfl,rfl,j5.out,l6,by omega,h6,q4.out⟩
def xCV (w:World)(m:DfaV)(e:Ending)(w':World):Prop:=∃v sv,e=.returned (.tuple #[v,sv])/\sZ w w' v m/\w.grownBy w' none
def fN (d:DfaV)(p:List Nat)(k q x:Nat):List Nat:=(List.range x).map (fun a=>p.getD (nx d q a) 0)++List.replicate (k-x) 0
theorem mS {d:DfaV}{p:List Nat}{k q x:Nat}(h:x<=k):(fN d p k q x).length=k:=by simp[fN];omega
theorem qRT {d:DfaV}{p:List Nat}{k q x:Nat}(h:x<k):(fN d p k q x).set x (p.getD (nx d q x) 0)=fN d p k q (x+1):=by
 unfold fN;rw[List.set_append_right _ _ (by simp),List.range_succ,List.map_append,show k-x=(k-(x+1))+1 by omega,List.replicate_succ];simp
theorem qNC {d:DfaV}{n k q:Nat}{p:List Nat}(hd:VD d n k)(hq:q<n):nats (fN d p k q k)=ints (uJ p (d.next.getD q [])):=by
 have e:(fN d p k q k).map (fun(x:Nat)=>(x:Int))=uJ p (d.next.getD q []):=by
  refine List.ext_getElem (by rw[List.length_map,mS (Nat.le_refl k),uJ,List.length_map,hd.row q hq]) fun i h1 h2=>?_;have hi:i<k:=by rw[List.length_map,mS (Nat.le_refl k)]at h1;exact h1
  rw[<-zG (d:=0) h2,gA (by rw[hd.row q hq];exact hi)];simp[fN,hi,nx,entN,ent]
 rw[<-e];simp[nats,ints]
theorem qDX (B:Nat)(w:World)(v:Value)(d:DfaV)(n k:Nat)(hB:B<=w.heap.size)(h:tM B w v d)(hd:VD d n k)(h5:n<=512):Calls Tryz.prog 66 #[v] w (xCV w (minD (xY d k) k)):=by
 have c8:=h;obtain⟨fb,fo,fc,b,off,cap,RB,RO,RC,rfl,z2⟩:=h.at hd;have E0:=hd.n1;have E1:=hd.k6;have E2:=hd.k1;have i2:=kP hd;have z7:=(xW hd).2;obtain⟨T,hT⟩:=Nm (xY d k);obtain⟨N,hN⟩:=Nm ((yB d k).length);rw[<-hT,<-hN]at i2;rw[<-hN]at z7;rw[<-hT];have F2:=i2.n1;obtain⟨H0,o2,B7⟩:=K3 i2 hT hN;obtain⟨p,hp⟩:=Nm (yX T k);have e9:p.length=N:=by rw[hp,vD,i2.hn]
 have q6:Norm p:=by rw[hp];exact sU T k
 have f5:minD T k=xY (tO T p) k:=by rw[hp];rfl
 obtain⟨HP,c4,o7⟩:=K3 hp q6 f5;obtain⟨S,hS⟩:=Nm (st0 d);have p9:dAgg k (st0 d) fb fo fc b off cap n=.agg #[.int .i64 (k:Int),.int .i64 (S:Int),.slice (some ⟨fb,fo,none⟩) n fc,.slice (some ⟨b,off,none⟩) n cap]:=by rw[hS];rfl
 rw[p9]at c8⊢;obtain⟨b7,j6,j2,p6⟩:=rL w #[.int .i64 (k:Int),.int .i64 (S:Int),.slice (some ⟨fb,fo,none⟩) n fc,.slice (some ⟨b,off,none⟩) n cap] #[.int .i64 0,.int .i64 0,.slice none 0 0,.slice none 0 0] 30;obtain⟨wA,m7⟩:=Nm ((w.alloc (.cells #[.int .i64 (k:Int),.int .i64 (S:Int),.slice (some ⟨fb,fo,none⟩) n fc,.slice (some ⟨b,off,none⟩) n cap] 30)).alloc (.cells #[.int .i64 0,.int .i64 0,.slice none 0 0,.slice none 0 0] 30));rw[<-m7]at b7 j6 j2 p6;obtain⟨c0,c1,c2,c3⟩:=zE b7;obtain⟨P,hP⟩:=Nm w.heap.size;obtain⟨Q,hQ⟩:=Nm (w.heap.size+1);have B4:=Kh hP;have B2:Hid (Q=P+1):=Kh (by omega);have F1:P<Q:=by omega
 have E8:Q<wA.heap.size:=by omega
 have F0:w.heap.size<=P:=by omega
 have A3:B<=wA.heap.size:=by omega
 rw[<-hQ]at j6;rw[<-hP]at b7 c0 c1 c2 c3 hB;obtain⟨t8,t7,C1,A6⟩:=K4 b7 j6 j2 m7;have i3:=Kh (qDS B wA _ d n k A3 (c8.kept j2 (by simp)) hd h5);clear b7 j6 j2 m7 z2 hd h c8 p9 hS p6 hP hQ hT hN hp q6 f5 i2;go_enter Tryz.func66,Tryz.ntmps66;go_upto_region 1 with fail;rw[<-A6.out,<-B4.out,<-B2.out];go_wp2_with fail;refine i3.out.mono ?_;rintro e w1 ⟨v1,G,rfl,⟨o,hs,sf,cf,sn,cn,rfl,ho,c9⟩,F5,s0,f7⟩;rw[<-o2.out]at c9⊢;have h6:T.letters=k:=H0.out.hk;have i1:T.start=0:=by rw[o2.out];rfl
 have m9:T.final.length=N:=H0.out.hn;have m8:T.next.length=N:=H0.out.nl
 have j4:tM w1.heap.size w1 (.agg #[.int .i64 (k:Int),.int .i64 0,.slice sf N cf,.slice sn N cn]) T:=by
  have:=c9.dfa;rw[h6,i1,m9,m8]at this;have e:(⟨(k:Int),0,T.final,T.next⟩:DfaV)=T:=by rw[<-h6,<-i1]
  rwa [e]at this
 rw[h6,i1,m9,m8];obtain⟨tfb,tfo,tfc,tb,toff,tcap,TRB,TRO,TRC,ev,a6⟩:=j4.at H0.out;have k8:(st0 T:Int)=0:=by rw[qAX H0.out];exact i1
 rw[dAgg,k8,Value.agg.injEq]at ev;have ev:=congrArg Array.toList ev;simp only[List.cons.injEq,Value.slice.injEq,true_and,and_true]at ev;obtain⟨⟨rfl,rfl⟩,rfl,rfl⟩:=ev;have x8:=a6.fcap;have x9:=a6.cap;unfold maxLen at x8 x9;have H7:Hid (∀W:World,w1.grownBy W none->DAt w1.heap.size W T N k tfb tfo cf tb toff cn TRB TRO TRC):=Kh (fun W hg=>a6.kept hg (by simp));clear a6
 obtain⟨zs,k0,k2⟩:∃zs:List Int,Arr w1 G 3 (ints zs)/\zs.length=n/\∀q,q<n->zs.getD q 0 = -1\/∃i:Nat,i<N/\zs.getD q 0=(i:Int):=⟨_,s0,vM _ _,fun q hq=>by
  rw[aR hq,rX]
  split
  ·rename_i hm
   exact .inr ⟨_,by rw[B7.out];exact List.idxOf_lt_length_of_mem hm,rfl⟩
  exact .inl rfl⟩
 have A4:=Kh k2.2;have D2:=k2.1;obtain⟨T4,n0⟩:=Nm w1.heap.size;obtain⟨w2,k5⟩:=Nm (w1.alloc (.cells #[.int .i64 (k:Int),.int .i64 0,.slice (some ⟨tfb,tfo,none⟩) N cf,.slice (some ⟨tb,toff,none⟩) N cn] 30));have H8:=Ga w1 (.cells #[.int .i64 (k:Int),.int .i64 0,.slice (some ⟨tfb,tfo,none⟩) N cf,.slice (some ⟨tb,toff,none⟩) N cn] 30) none;have e7:=heap_alloc_new w1 (.cells #[.int .i64 (k:Int),.int .i64 0,.slice (some ⟨tfb,tfo,none⟩) N cf,.slice (some ⟨tb,toff,none⟩) N cn] 30);rw[<-k5]at H8 e7;rw[<-n0]at e7;have D5:=f7.size;have x1:=H8.size;have z4:=zM e7;have E9:Q<T4:=by omega
 obtain⟨d0,d1,d2,d3⟩:=zE e7;have e4:=Kh (zB (zB t8.out f7) H8);have i7:=Kh (zB (zB t7.out f7) H8);obtain⟨t6,A8,A9⟩:=K3 e7 k5 n0;have s1:=Kh (k0.kept H8 (by simp));have E5:=k0.lt;have s9:=Kh (j4.kept H8 (by simp));have C6:=Kh (zA (zA C1.out f7) H8);have p0:=Kh H8;have t4:=Kh (qDY w1.heap.size w2 _ T N k x1 (j4.kept H8 (by simp)) H0.out (by omega));clear c9 s0 h6 i1 m9 m8 j4 k0 k2 e7 k5 H8 f7 i3 t8 t7 c0 c1 c2 c3 n0;obtain⟨a0,a1,a2,a3⟩:=zE e4.out;go_upto_region 2 with fail;rw[<-A8.out,<-A9.out];go_wp2_with fail;refine t4.out.mono ?_;rintro e w3 ⟨G6,rfl,F6,h4,a4⟩;rw[<-HP.out]at h4⊢;rw[e9];have D4:=a4.size;have i9:=Kh (zB e4.out a4);have p3:=Kh (zB i7.out a4);have d9:=Kh (zB t6.out a4);have n9:=Kh (s1.out.kept a4 (by simp));have C7:=Kh (s9.out.kept a4 (by simp));have C5:=Kh (zA C6.out a4);have H6:=Kh (zA p0.out a4);have p5:=Kh h4;have A2:=h4.lt;clear t4 h4 a4 d0 d1 d2 d3 a0 a1 a2 a3 e4 i7 t6 s1 s9;obtain⟨a0,a1,a2,a3⟩:=zE i9.out;obtain⟨oQ,l5⟩:=Nm w3.heap.size;obtain⟨w5,k4⟩:=Nm (w3.alloc (.cells #[.int .i64 (k:Int),.int .i64 0,.slice none 0 0,.slice none 0 0] 30));have m0:=Ga w3 (.cells #[.int .i64 (k:Int),.int .i64 0,.slice none 0 0,.slice none 0 0] 30) none;have g0:=heap_alloc_new w3 (.cells #[.int .i64 (k:Int),.int .i64 0,.slice none 0 0,.slice none 0 0] 30);rw[<-k4]at m0 g0;rw[<-l5]at g0;have A7:=Kh k4;have B5:=Kh l5;have b3:Hid (BX w3 w5 oQ (fun _=>False) k (tT T p 0) (sY T p 0) [] none 0 none 0):=Kh (BX.start g0 (by omega) m0);have y2:=zM g0;clear k4 l5 m0 g0;go_upto_region 4 with fail;rw[<-A7.out,<-B5.out];go_wp2_with fail
 go_loopg [8,9,10,11,12,30] N (fun gh a8 a9 a10 a11 a12 i wr=>∃(q:Nat) (X:Nat->Prop) (hs:List Value) (sf:Option Addr) (cf:Nat) (sn:Option Addr) (cn:Nat),gh+q=N/\i=.int .i64 q/\BX w3 wr oQ X k (tT T p q) (sY T p q) hs sf cf sn cn)
 case atStart=>exact⟨0,_,_,_,_,_,_,rfl,rfl,b3.out⟩
 clear b3;obtain⟨q,X,hs,sf,cf,sn,cn,H9,rfl,e6⟩:=hrel;have e8:=Kh H9;have b3:=Kh e6;have h9:=e6.grown;have d7:=Kh h9;obtain⟨d0,d1,d2,d3⟩:=zE e6.box;obtain⟨t0,t1,t2,t3⟩:=zE (zB d9.out h9);obtain⟨a0,a1,a2,a3⟩:=zE (zB i9.out h9);by_cases hq:q<N
 ·have D8:(q:Int)<N:=by omega
  have cq:=(p5.out.kept h9 (by simp)).nat q (by omega);obtain⟨f4,l6,y6⟩:=iC c4.out (q:=q) (by omega);have a7:=aJ (d:=T) c4.out (show q<=p.length by omega);have h6:=aI (d:=T) c4.out (show q<=p.length by omega);obtain⟨M,hM⟩:=Nm (cls (p.take q));obtain⟨c,hc⟩:=Nm (p.getD q 0);have F3:M<=q:=by rw[hM];have:=fE (p.take q);rw[List.length_take]at this;omega
  rw[<-hM]at a7 h6 f4 l6;rw[<-hc]at cq f4 l6;obtain⟨HM,HC,j9,o1⟩:=K4 hM hc a7 h6;rw[a7]at d2;rw[h6]at d3;clear H9 e6 h9 l6 y6 hM hc a7 h6;by_cases m4:c<M
  ·have f9:(c:Int)<M:=by omega
   have e1:Hid (tT T p (q+1)=tT T p q/\sY T p (q+1)=sY T p q):=Kh (by
    have:p.getD q 0≠cls (p.take q):=by rw[<-HC.out,<-HM.out];omega
    exact⟨qML this,qMJ this⟩)
   go_wp2;go_roundg (N-(q+1))
   case measure=>have:=e8.out;omega
   exact⟨q+1,X,hs,sf,cf,sn,cn,by have:=e8.out;omega,by go_num,by rw[e1.out.1,e1.out.2];exact b3.out⟩
  have z0:c=M:=by omega
  have f9:¬(c:Int)<M:=by omega
  have e1:Hid (tT T p (q+1)=tT T p q++[T.final.getD q false]/\sY T p (q+1)=sY T p q++[uJ p (T.next.getD q [])]):=Kh (by
   have:p.getD q 0=cls (p.take q):=by rw[<-HC.out,<-HM.out];exact z0
   exact⟨qMM this,qMK this⟩)
  have i0:=H7.out wr (zA H6.out d7.out);have H1:=i0.rcap q hq;have l1:=H1.1;have l0:TRC q<=9223372036854775807:=by have:=H1.2;unfold maxLen at this;omega
  obtain⟨rb,l3⟩:=Nm (TRB q);obtain⟨ro,k9⟩:=Nm (TRO q);obtain⟨rc,l2⟩:=Nm (TRC q);have s6:Hid (∀W:World,w3.grownBy W none->W.cell? ⟨tb,toff+q,none⟩=some (.slice (some ⟨rb,ro,none⟩) k rc)):=Kh (fun W hg=>by rw[l3,k9,l2];exact(H7.out W (zA H6.out hg)).hd q hq);have s8:Hid (∀W:World,w3.grownBy W none->∀a,a<k->W.cell? ⟨rb,ro+a,none⟩=some (.int .i64 ((nx T q a:Nat):Int))):=Kh (fun W hg a ha=>by rw[l3,k9];exact(H7.out W (zA H6.out hg)).el q a hq ha);have i5:Hid (∀W:World,w3.grownBy W none->W.cell? ⟨tfb,tfo+q,none⟩=some (.bool (T.final.getD q false))):=Kh (fun W hg=>(H7.out W (zA H6.out hg)).fin hq);rw[<-l2]at l1 l0;clear i0 H1 l3 k9 l2;go_wp2_with (first|(at_make;refine kW rfl _ _ _ rfl yP rfl .i64 .i64 _ _ k rfl rfl rfl rfl ?b1 ?b2 ?_;(case b1=>omega);(case b2=>(unfold maxLen;omega));intro w7 h0 e5 l8;(obtain⟨u0,u1,u2,u3⟩:=zE (zB (zB d9.out d7.out) e5));(have chd:=s6.out _ (zA d7.out e5)))|fail);obtain⟨g,hg⟩:=Nm wr.heap.size;rw[<-hg]at h0 l8⊢
  have p4:Hid (Arr w7 g 3 (nats (fN T p k q 0))):=Kh (by
   rw[show fN T p k q 0=List.replicate k 0 by simp[fN],xJ];exact h0)
  have i6:=Kh (b3.out.grow e5);have q8:∀j,X j->j<g:=fun j hj=>by have:=b3.out.lt j hj;omega
  have B8:=Kh q8;have E7:oQ<g:=(by have:=zM b3.out.box;omega);have m1:w3.heap.size<=g:=by have:=d7.out.size;omega
  have C2:=Kh (zA d7.out e5);have F7:=Kh e5.size;have E6:wr.heap.size<=g:=by omega
  clear h0 e5 q8 hg d0 d1 d2 d3 t0 t1 t2 t3 a0 a1 a2 a3 u0 u1 u2 u3 chd cq
  go_loopg [11,12,49] k (fun gh a11 a12 i wr=>∃x:Nat,gh+x=k/\i=.int .i64 x/\Arr wr g 3 (nats (fN T p k q x))/\w7.grownBy wr (some g))
  case atStart=>exact⟨0,rfl,rfl,p4.out,zH _ _⟩
  obtain⟨x,H9,rfl,h0,h9⟩:=hrel;obtain⟨d8,HA,o9⟩:=K3 H9 h0 h9;have h3:=zY C2.out h9 (by show _<=g;omega);have C4:=Kh h3;clear H9;by_cases hx:x<k
  ·have D7:(x:Int)<k:=by omega
   have cel:=s8.out wr h3 x hx;have x4:=mP H0.out hq hx;obtain⟨y,hy⟩:=Nm (nx T q x);rw[<-hy]at cel x4;have x3:(y:Int)<N:=(by omega);have cy:=(p5.out.kept h3 (by simp)).nat y (by omega);have c6:=qRT (d:=T) (p:=p) (q:=q) hx;rw[<-hy]at c6;have o4:=Kh c6;have s5:=Kh (mS (d:=T) (p:=p) (q:=q) (k:=k) (x:=x) (by omega));have ck:=h0.nat x (by rw[s5.out];exact hx);have fk:=h0.frozen x;obtain⟨z,hz⟩:=Nm (p.getD y 0);rw[<-hz]at cy;have HZ:=Kh hz;clear c6 hz hy h0 h9 h3;go_wp2;go_roundg (k-(x+1))
   case measure=>have:=d8.out;omega
   exact⟨x+1,by have:=d8.out;omega,by go_num,by rw[<-o4.out,<-HZ.out];exact HA.out.nat_set x (by rw[s5.out];exact hx) z,zC o9.out (zD wr ⟨g,x,none⟩ _)⟩
  have x5:x=k:=by have:=d8.out;omega
  subst x5;obtain⟨cur,rest,f8,_⟩:=p4.out;have z3:¬X g:=fun hx=>by have:=B8.out g hx;omega
  have H3:=i6.out.put h9 f8 z3 m1;have p2:=Kh H3;have t9:Hid (Arr wr g 3 (ints (uJ p (T.next.getD q [])))):=Kh (by rw[<-qNC H0.out hq];exact h0);obtain⟨d0,d1,d2,d3⟩:=zE H3.box;have fz2:=zF H3.box 2;have d5:=zB d9.out h3;obtain⟨t0,t1,t2,t3⟩:=zE d5;have cfin:=i5.out wr h3;have z5:=zM d5;have y3:=zM H3.box
  have x7:tfb<wr.heap.size:=by
   have:=(H7.out wr (zA H6.out h3)).frow.1;exact this
  rw[j9.out]at d2;rw[o1.out]at d3;obtain⟨bf,m5⟩:=Nm (T.final.getD q false);rw[<-m5]at cfin;have C9:=Kh m5;have o5:Hid (∀W1:World,wr.grownBy W1 none->W1.ownsRow oQ 4 1 (.slice sf M cf) M (bls (tT T p q))/\oQ<=W1.heap.size):=Kh (fun W1 hg=>⟨by have:=zP p2.out.ownF hg;rwa [j9.out]at this,by have:=hg.size;omega⟩)
  have b9:Hid (∀(W1 w':World) (sf':Option Addr) (cf':Nat),w'.ownsRow oQ 4 1 (.slice sf' (M+1) cf') (M+1) (bls (tT T p q)++[.bool bf])->W1.grownBy w' (Value.slice sf M cf).ownBlock->wr.grownBy W1 none ->
    BX w3 (w'.setCell ⟨oQ,2,none⟩ (.slice sf' (M+1) cf')) oQ X x (tT T p q++[bf]) (sY T p q) hs sf' cf' sn cn/\Arr (w'.setCell ⟨oQ,2,none⟩ (.slice sf' (M+1) cf')) g 3 (ints (uJ p (T.next.getD q [])))/\w'.frozen? ⟨oQ,2,none⟩=false/\w'.cell? ⟨oQ,2,none⟩=some (.slice sf M cf)):=Kh (fun W1 w' sf' cf' ho hg h1=>by
   have n2:=p2.out.grow h1;have n8:=n2.ownF;have m6:=n2.box;rw[j9.out]at n8 m6;have b7:=zB m6 hg (zO n8 m6 (by decide));have hp:=n2.pushF (b:=bf) j9.out ho hg rfl;have r6:=t9.out.kept h1 (by simp);obtain⟨cg,rg,y9,_⟩:=id r6
   exact⟨hp,(r6.kept hg (zO n8 y9 (by decide))).kept (zD w' ⟨oQ,2,none⟩ _) (fun e=>by have e:oQ=g:=Oj e;omega),zF b7 2,(zE b7).2.2.1⟩)
  obtain⟨wo,rfl⟩:=Nm (wr:World);clear f8 H3 h0 h9 h3 d5 m5 p4;go_wp2_with fail
  go_region_law (first|(refine oI ?g1 (.tmp 63) (.tmp 69) 27 ?g2 xL oQ (.slice sf M cf) M (bls (tT T p q)) ?g3 ?g4 (.bool bf) wo.heap.size (0,0) ?g5 ?g6 ?g7 ?g8 ?g9 ?g10 ?_;(case g1=>rfl);(case g2=>rfl);(case g3=>rfl);(case g4=>(refine(o5.out _ ?_).1;exact vI (o:=.cells #[.bool bf] 4) rfl rfl rfl rfl));(case g5=>rfl);(case g6=>exact heap_alloc_new (wo.drew) _);(case g7=>rfl);(case g8=>(unfold maxLen;omega));(case g9=>omega);(case g10=>(refine(o5.out _ ?_).2;exact vI (o:=.cells #[.bool bf] 4) rfl rfl rfl rfl));intro sf8 cf8 w8 b4 q9;have j0:=b9.out _ _ _ _ b4 q9 (vI (o:=.cells #[.bool bf] 4) rfl rfl rfl rfl);have m2:=j0.2.2.1;have m3:=j0.2.2.2;have j8:=Kh j0;clear j0 b4 q9)|fail)
  all_goals
   clear b9 o5 m2 m3 d0 d1 d2 d3 fz2 t0 t1 t2 t3 cfin p2 t9 i6 b3 s6 s8 i5;obtain⟨w9,p8⟩:=Nm (w8.setCell ⟨oQ,2,none⟩ (.slice sf8 (M+1) cf8));rw[<-p8]at j8⊢;have H4:=j8.out.1;have x0:=Kh j8.out.2.1;have j7:=Kh H4;have n6:=H4.ownN;obtain⟨d0,d1,d2,d3⟩:=zE H4.box;rw[o1.out]at d3 n6;have s4:=Kh n6;have y1:=zM H4.box;clear p8 j8 H4 n6;go_wp2_with (first|(at_builtin;refine qGF rfl _ _ _ rfl vX oQ (.slice sn M cn) M hs rfl s4.out (.slice (some ⟨g,0,none⟩) x x) rfl rfl ?a1 ?a2 ?a3 ?_;(case a1=>(unfold maxLen;omega));(case a2=>omega);(case a3=>omega);intro sn6 cn6 w10 b5 l9 D3 l7;(have B6:=Kh b5);(have C3:=Kh l9);(have r5:=zB j7.out.box l9 (zO s4.out j7.out.box (by decide)));(obtain⟨e0,e1',e2,e3⟩:=zE r5);(have fz6:=zF r5 3);clear b5 l9 l7)|fail);go_roundg (N-(q+1))
   case measure=>have:=e8.out;omega
   have hp:=j7.out.pushN (Y:=fun j=>X j\/j=g) o1.out (fun j hj=>.inl hj) (fun j hj=>by
    rcases hj with hj|rfl
    ·exact j7.out.lt j hj
    exact x0.out.lt) B6.out C3.out (RowX.of_arr x0.out (by rw[yF,uJ,List.length_map,H0.out.row q hq]) (by unfold maxLen;omega) (.inr rfl)) rfl
   rw[C9.out,<-e1.out.1,<-e1.out.2]at hp;exact⟨q+1,_,_,_,_,_,_,by have:=e8.out;omega,by go_num,hp⟩
 have l4:q=N:=by have:=e8.out;omega
 have a7:(tT T p q).length=cls p:=by rw[aJ c4.out (by omega),l4,<-e9,List.take_length]
 have h6:(sY T p q).length=cls p:=by rw[aI c4.out (by omega),l4,<-e9,List.take_length]
 have q5:(⟨(k:Int),0,tT T p q,sY T p q⟩:DfaV)=tO T p:=by
  have:=qPY (d:=T) (p:=p) (q:=q) (by omega) (by
   have e:st0 T=0:=by rw[o2.out];rfl
   rw[e];exact qRD c4.out)
  rw[<-this,H0.out.hk]
 have j3:=(e6.built (a7.trans h6.symm)).dfa;rw[q5,a7,h6]at j3;obtain⟨M,hM⟩:=Nm (cls p);have F4:M<=N:=by rw[hM,<-e9];exact fE p
 have q4:VD (tO T p) M k:=(by rw[hM];exact qHB H0.out e9 c4.out);rw[<-hM]at j3;rw[a7,<-hM]at d2;rw[h6,<-hM]at d3;have B3:Hid (∀i,i<N->p.getD i 0<M):=Kh (fun i hi=>by rw[hM];exact qS c4.out (by omega));have i3:=Kh (qDS wr.heap.size wr _ (tO T p) M k (Nat.le_refl _) j3 q4 (by omega));have C0:Hid (w.grownBy wr none):=Kh (zA C5.out h9);clear H9 e6 a7 h6 q5 j3 q4 hM l4 e8 t0 t1 t2 t3 a0 a1 a2 a3;go_wp2_with fail;refine i3.out.mono ?_;rintro e wt ⟨vt,Gt,rfl,⟨ot,y0,sft,cft,snt,cnt,rfl,D9,j5⟩,z8,b8,j1⟩;rw[<-o7.out]at j5⊢;obtain⟨R,hR⟩:=Nm (minD T k);rw[<-hR]at j5⊢;have n4:R.letters=k:=by rw[hR];exact(qEQ H0.out).hk
 have n3:R.start=0:=by rw[hR];rfl
 obtain⟨FL,n7⟩:=Nm R.final.length;obtain⟨NL,n5⟩:=Nm R.next.length;rw[n4,n3,<-n7,<-n5];obtain⟨ys,k3,D6⟩:∃ys:List Int,Arr wt Gt 3 (ints ys)/\ys.length=M:=⟨_,b8,vM _ _⟩;obtain⟨s3,B1,B0,p1,o6,C8⟩:=K6 hR n4 n3 n7 n5 j5;have A5:=Kh k3;have B9:=Kh (zA C0.out j1);have o8:=Kh (zA d7.out j1);obtain⟨T13,d6⟩:=Nm wt.heap.size;obtain⟨w13,c5⟩:=Nm (wt.alloc (.cells #[.int .i64 (k:Int),.int .i64 0,.slice sft FL cft,.slice snt NL cnt] 30));have a5:=Ga wt (.cells #[.int .i64 (k:Int),.int .i64 0,.slice sft FL cft,.slice snt NL cnt] 30) none;have H5:=heap_alloc_new wt (.cells #[.int .i64 (k:Int),.int .i64 0,.slice sft FL cft,.slice snt NL cnt] 30);rw[<-c5]at a5 H5;rw[<-d6]at H5;have D1:=d7.out.size;have D0:=j1.size;have x2:=a5.size;have r7:=zM H5;have y7:=k3.lt;obtain⟨i8,o0,o3,h8⟩:=K4 H5 c5 d6 a5;have z6:Q<T13:=(by omega);have r8:w3.heap.size<=T13:=by omega
 clear hR n4 n3 n7 n5 j5 b8 k3 j1 H5 c5 d6 a5 d0 d1 d2 d3 b3 i3;go_upto_region 18 with fail;rw[<-o0.out,<-o3.out];go_wp2_with (first|(at_make;refine kW rfl _ _ _ rfl yP rfl .i64 .i64 _ _ n rfl rfl rfl rfl ?b1 ?b2 ?_;(case b1=>omega);(case b2=>(unfold maxLen;omega));intro ws h0 q7 f6)|fail);obtain⟨Gs,r9⟩:=Nm w13.heap.size;rw[<-r9]at h0 f6⊢;have s2:Hid (Arr ws Gs 3 (ints (List.replicate n 0))):=Kh (by simpa [oB] using h0);have A1:T13<Gs:=(by omega);have z9:Gt<Gs:=(by omega);have s7:=Kh q7;have A0:w13.heap.size<=Gs:=by omega
 clear h0 q7 r9 f6
 go_loopg [16,17,89] n (fun gh a16 a17 i wr=>∃(j:Nat) (vs:List Int),gh+j=n/\i=.int .i64 j/\vs.length=n/\Arr wr Gs 3 (ints vs)/\w13.grownBy wr none)
 case atStart=>exact⟨0,_,rfl,rfl,by simp,s2.out,s7.out⟩
 clear s2 s7;obtain⟨j,vs,H9,rfl,k7,h0,h2⟩:=hrel;obtain⟨b0,HA,i4⟩:=K3 H9 h0 h2;have H2:=zA (zA o8.out h8.out) h2;clear H9;by_cases hj:j<n
 ·have E3:(j:Int)<n:=by omega
  have cz:=(n9.out.kept H2 (by simp)).int j (by omega);have cs:=h0.int j (by omega);have fs:=h0.frozen j;have b6:=A4.out j hj;obtain⟨z,hz⟩:=Nm (zs.getD j 0);rw[<-hz]at cz b6;have x6:(ints vs).length=n:=by rw[yF,k7]
  rcases b6 with rfl|⟨i,hi,rfl⟩
  ·clear hz h0 h2 H2
   go_wp2;go_roundg (n-(j+1))
   case measure=>have:=b0.out;omega
   exact⟨j+1,vs.set j (-1),by have:=b0.out;omega,by go_num,by rw[List.length_set,k7],HA.out.int_set j (by omega) (-1),zY i4.out (zD wr ⟨Gs,j,none⟩ _) (by show _<=Gs;omega)⟩
  have E4:(i:Int)<N:=by omega
  have cp:=(p5.out.kept H2 (by simp)).nat i (by omega);have m4:=B3.out i hi;obtain⟨c,hc⟩:=Nm (p.getD i 0);rw[<-hc]at cp m4;have f9:(c:Int)<M:=(by omega);have cy:=((A5.out.kept h8.out (by simp)).kept h2 (by simp)).int c (by omega);obtain⟨y,hy⟩:=Nm (ys.getD c 0);rw[<-hy]at cy;have F8:=Kh (And.intro hi m4);clear hz hc hy h0 h2 H2;have y5:G6≠Gs:=(by omega);have y4:Gt≠Gs:=(by omega);go_wp2;go_roundg (n-(j+1))
  case measure=>have:=b0.out;omega
  exact⟨j+1,(vs.set j (-1)).set j y,by have:=b0.out;omega,by go_num,by rw[List.length_set,List.length_set,k7],(HA.out.int_set j (by omega) (-1)).int_set j (by rw[List.length_set];omega) y,zY (zY i4.out (zD wr ⟨Gs,j,none⟩ _) (by show _<=Gs;omega)) (zD (wr.setCell ⟨Gs,j,none⟩ (.int .i64 (-1))) ⟨Gs,j,none⟩ _) (by show _<=Gs;omega)⟩
 obtain⟨e0,e1,e2,e3⟩:=zE (zB i8.out h2);have d4:=zB p3.out H2;obtain⟨q0,q1,q2,q3⟩:=zE d4;have f0:=zF d4 0;have f1:=zF d4 1;have f2:=zF d4 2;have f3:=zF d4 3;have t5:=Kh d4;clear d4;go_wp2;obtain⟨r4,c7⟩:=vY t5.out (.int .i64 (k:Int)) (.int .i64 0) (.slice sft FL cft) (.slice snt NL cnt);obtain⟨wz,p7⟩:=Nm ((((wr.setCell ⟨Q,0,none⟩ (.int .i64 (k:Int))).setCell ⟨Q,1,none⟩ (.int .i64 0)).setCell ⟨Q,2,none⟩ (.slice sft FL cft)).setCell ⟨Q,3,none⟩ (.slice snt NL cnt));rw[<-p7]at r4 c7⊢;clear p7;obtain⟨r0,r1,r2,r3⟩:=zE r4;clear e0 e1 e2 e3 q0 q1 q2 q3 f0 f1 f2 f3;refine bodyPost_ret (v:=.tuple #[.agg #[.int .i64 (k:Int),.int .i64 0,.slice sft FL cft,.slice snt NL cnt],.slice (some ⟨Gs,0,none⟩) n n]) (by simp[results,Tryz.results66,go_sem,r0,r1,r2,r3]) rfl ?_;have y8:w.grownBy wz none:=zA (zA (zA B9.out h8.out) h2) c7 (fun k e=>by have h7:Q=k:=Oj e;omega);have z1:=((C8.out.grow h8.out).grow h2).far c7 t5.out (by omega);refine⟨_,_,rfl,⟨ot,y0,sft,cft,snt,cnt,?_,by omega,by rw[<-s3.out];exact z1⟩,y8⟩;rw[<-s3.out,B0.out,B1.out,p1.out,o6.out]
end Go.Proofs.YtcoimliafiammaaGreat
namespace Go.Proofs.YtcoimliafiammaaGreat
open Go.RowKit
def fL (d:DfaV)(p:List Nat)(i:Nat):List Bool:=(tR p i).map fun q=>d.final.getD q false
def fK (d:DfaV)(p:List Nat)(i:Nat):List (List Int):=(tR p i).map fun q=>uJ p (d.next.getD q [])
theorem qRQ {d:DfaV}{p:List Nat}{i:Nat}(h:p.getD i 0=cls (p.take i)):fL d p (i+1)=fL d p i++[d.final.getD i false]:=by simp only[fL,uC h,List.map_append,List.map_cons,List.map_nil]
theorem qRN {d:DfaV}{p:List Nat}{i:Nat}(h:p.getD i 0=cls (p.take i)):fK d p (i+1)=fK d p i++[uJ p (d.next.getD i [])]:=by simp only[fK,uC h,List.map_append,List.map_cons,List.map_nil]
theorem qRP {d:DfaV}{p:List Nat}{i:Nat}(h:p.getD i 0≠cls (p.take i)):fL d p (i+1)=fL d p i:=by simp only[fL,uB h]
theorem qRM {d:DfaV}{p:List Nat}{i:Nat}(h:p.getD i 0≠cls (p.take i)):fK d p (i+1)=fK d p i:=by simp only[fK,uB h]
theorem iE {d:DfaV}{n k:Nat}(hd:VD d n k){p:List Nat}{q:Nat}(hq:q<n):(uJ p (d.next.getD q [])).length=k:=by rw[uJ,List.length_map,hd.row q hq]
theorem qRU {d:DfaV}{n k:Nat}(hd:VD d n k){p:List Nat}{q a:Nat}(hq:q<n)(ha:a<k):(uJ p (d.next.getD q [])).getD a 0=((p.getD (nx d q a) 0:Nat):Int):=by
 rw[gA (by rw[hd.row q hq];exact ha)];rfl
def qTV (w:World)(m:DfaV)(e:Ending)(w':World):Prop:=∃v,e=.returned v/\sZ w w' v m/\w.grownBy w' none
theorem dQ (B:Nat)(w:World)(v:Value)(d:DfaV)(n k:Nat)(hB:B<=w.heap.size)(h:tM B w v d)(hd:VD d n k):Calls Tryz.prog 72 #[v] w (qTV w (minD d k)):=by
 have a3:=h;obtain⟨fb,fo,fc,b,off,cap,RB,RO,RC,rfl,b4⟩:=h.at hd;have hn:=hd.hn;have o8:=hd.n1;have i6:=hd.nbig;have p1:=hd.k6;have p2:=hd.k1;have p6:=b4.fcap.1;have c5:=b4.fcap.2;have p7:=b4.cap.1;have c6:=b4.cap.2;have l6:fc<=9223372036854775807:=by unfold maxLen at c5;omega
 have l5:cap<=9223372036854775807:=by unfold maxLen at c6;omega
 obtain⟨S,hS⟩:=Nm (st0 d);have m3:S<n:=by rw[hS];exact oJ hd
 have m9:=Kh hS;have i3:dAgg k (st0 d) fb fo fc b off cap n=.agg #[.int .i64 (k:Int),.int .i64 (S:Int),.slice (some ⟨fb,fo,none⟩) n fc,.slice (some ⟨b,off,none⟩) n cap]:=by rw[hS];rfl
 rw[i3]at a3⊢;obtain⟨c8,e6,b9,i2⟩:=rL w #[.int .i64 (k:Int),.int .i64 (S:Int),.slice (some ⟨fb,fo,none⟩) n fc,.slice (some ⟨b,off,none⟩) n cap] #[.int .i64 0,.int .i64 0,.slice none 0 0,.slice none 0 0] 30;obtain⟨wA,f6⟩:=Nm ((w.alloc (.cells #[.int .i64 (k:Int),.int .i64 (S:Int),.slice (some ⟨fb,fo,none⟩) n fc,.slice (some ⟨b,off,none⟩) n cap] 30)).alloc (.cells #[.int .i64 0,.int .i64 0,.slice none 0 0,.slice none 0 0] 30));rw[<-f6]at c8 e6 b9 i2;obtain⟨c0,c1,c2,c3⟩:=zE c8;obtain⟨P,hP⟩:=Nm w.heap.size;have f0:=Kh hP;rw[<-hP]at c8 e6 c0 c1 c2 c3 i2 hB;obtain⟨i0,n9,n5,m6⟩:=K4 c8 e6 b9 f6;have o0:=Kh (b4.kept b9 (by simp));have HN:=Kh hn;have HD:=Kh hd;have k9:=Kh (qII B wA _ d n k (by omega) (a3.kept b9 (by simp)) hd);clear c8 e6 b9 f6 b4 hn hd h a3 i3 c5 c6 hS;go_enter Tryz.func72,Tryz.ntmps72;go_upto_region 1 with fail;rw[<-m6.out,<-f0.out];clear hP;go_wp2_with fail;refine k9.out.mono ?_;rintro e w1 ⟨G,rfl,m0,h7,e5⟩;have b1:(yX d k).length=n:=by rw[vD,HN.out]
 have e0:=sU d k;obtain⟨p,hp⟩:=Nm (yX d k);have HP:=Kh hp;rw[<-hp]at h7 b1 e0⊢;rw[b1];have H9:=mQ e0;rw[b1]at H9;obtain⟨k5,d6,e9,a8,n3⟩:=K5 h7 e5 e0 b1 H9;have o2:=e5.size;have p4:=h7.1;obtain⟨d0,d1,d2,d3⟩:=zE (zB i0.out e5);have cp:=h7.nat S (by rw[b1];exact m3);rw[Nat.zero_add]at cp;obtain⟨ps,f2⟩:=Nm (p.getD S 0);have n2:=Kh f2;rw[<-f2]at cp;have m2:(S:Int)<n:=by omega
 have i8:=World.new_ne w1 _ d0;have b7:=World.new_ne w1 _ d1;have i7:=World.new_ne w1 _ cp;have f3:=World.block_lt_of_cell? w1 _ d0;simp only at i8 b7 i7 f3;have m4:P<w1.heap.size:=f3;clear hp h7 e5 b1 e0 H9 k9 c0 c1 c2 c3 d2 d3 f2;go_upto_region 2 with fail
 go_region_held3 (fun w'=>w'.cell? ⟨P,0,none⟩=some (.int .i64 (k:Int))/\w'.cell? ⟨P,1,none⟩=some (.int .i64 (S:Int))/\w'.cell? ⟨G,S,none⟩=some (.int .i64 (ps:Int))) (first|go_keep|fail) (fail)
 obtain⟨w4,rfl⟩:=Nm (w1:World);obtain⟨O,hO⟩:=Nm w4.heap.size;obtain⟨w6,d9⟩:=Nm ((w4.alloc (.cells #[.int .i64 (k:Int),.int .i64 (ps:Int),.slice none 0 0,.slice none 0 0] 30)).drew);rw[<-d9,<-hO];have a2:w4.grownBy w6 none:=by rw[d9];exact zC (Ga w4 _ none) (zN _ _)
 have j7:w6.heap[O]?=some (.cells #[.int .i64 (k:Int),.int .i64 (ps:Int),.slice none 0 0,.slice none 0 0] 30 (0,0)):=by rw[d9,hO];exact heap_alloc_new w4 _
 have k4:Built O w6 O k ps [] [] [] none 0 none 0:=⟨j7,World.ownsRow_nil _ _ _ _,World.ownsRow_nil _ _ _ _,wO.nil,rfl⟩;obtain⟨l0,d5,g0⟩:=K3 k4 a2 hO;have q1:G<O:=by omega
 have p9:P+1<O:=by omega
 have l2:=a2.size;clear j7 k4 a2 d9 hO i8 b7 i7 f3 m4 d0 d1 cp;go_wp2
 go_loopg [5,6,7,23] n (fun gh v5 a6 a7 i wr=>∃(i':Nat) (hs:List Value) (sf:Option Addr) (cf:Nat) (sn:Option Addr) (cn:Nat),gh+i'=n/\i=.int .i64 i'/\v5=.int .i64 (cls (p.take i'):Nat)/\Built O wr O k ps (fL d p i') (fK d p i') hs sf cf sn cn/\w4.grownBy wr (some O))
 case atStart=>exact⟨0,[],none,0,none,0,rfl,rfl,rfl,l0.out,wP d5.out⟩
 clear l0 d5;obtain⟨i,hs,sf,cf,sn,cn,hg,rfl,rfl,H2,h4⟩:=hrel;obtain⟨g5,H4,d4⟩:=K3 hg H2 h4;have o1:=h4.size;clear hg;by_cases hi:i<n
 ·have p3:(i:Int)<n:=by omega
  have a5:O≠P:=(by omega);have k2:O≠G:=(by omega);have j5:=(k5.out.kept h4 (fun e=>k2 (Oj e))).nat i (by rw[a8.out];exact hi);rw[Nat.zero_add]at j5;obtain⟨H1,h9,h8⟩:=iC e9.out (q:=i) (by rw[a8.out];exact hi);have j4:=fE (p.take i);rw[List.length_take]at j4;obtain⟨c,hc⟩:=Nm (cls (p.take i));rw[<-hc]at H1 h9 h8 j4⊢;obtain⟨x,hx⟩:=Nm (p.getD i 0);rw[<-hx]at j5 H1 h9 h8;by_cases hxc:x=c
  ·have d7:=Kh (qRQ (d:=d) (hx.symm.trans (hxc.trans hc)));have e8:=Kh (qRN (d:=d) (hx.symm.trans (hxc.trans hc)))
   have g7:Hid (cls (p.take (i+1))=c+1):=Kh (h9 hxc);have e1:((x:Int) != (c:Int))=false:=by rw[hxc];simp
   have b2:(fL d p i).length=c:=by simp only[fL,List.length_map];rw[uL e9.out i (by rw[a8.out];omega),hc]
   have H8:(fK d p i).length=c:=by simp only[fK,List.length_map];rw[uL e9.out i (by rw[a8.out];omega),hc]
   have hA:=(o0.out.kept d6.out (by simp)).kept h4 (fun k e=>by have:=Oj e;omega);have ch:=hA.hd i hi;obtain⟨d0,d1,d2,d3⟩:=zE (zB (zB i0.out d6.out) h4 (fun e=>a5 (Oj e)));obtain⟨wo,rfl⟩:=Nm (wr:World);have i1:=Kh hA;clear hA H2 h4 H1 h9 h8 hx hxc hc;go_wp2
   go_loopg [8,39] k (fun gh ov i' wr=>∃(a:Nat) (sr:Option Addr) (cr:Nat),gh+a=k/\i'=.int .i64 a/\ov=.slice sr a cr/\wr.ownsRow wo.heap.size 3 1 (.slice sr a cr) a (ints ((uJ p (d.next.getD i [])).take a))/\wo.grownBy wr none)
   case atStart=>exact⟨0,none,0,rfl,rfl,rfl,by simpa [ints] using World.ownsRow_nil _ _ _ _,zH _ _⟩
   obtain⟨a,sr,cr,hg,rfl,rfl,b6,h4⟩:=hrel;obtain⟨k8,H3,g2⟩:=K3 hg b6 h4;clear hg b6 d0 d1 d2 d3;by_cases ha:a<k
   ·have p8:(a:Int)<k:=by omega
    have hA:=i1.out.kept h4 (by simp);have ce:=hA.el i a hi ha;have o5:=(hA.rcap i hi).1;have i5:=mP HD.out hi ha;have cp:=((k5.out.kept d4.out (fun e=>k2 (Oj e))).kept h4 (by simp)).nat (nx d i a) (by rw[a8.out];exact i5);rw[Nat.zero_add]at cp
    have f8:Hid ((uJ p (d.next.getD i [])).take (a+1)=(uJ p (d.next.getD i [])).take a++[((p.getD (nx d i a) 0:Nat):Int)]):=Kh (by
     rw[zT (d:=0) (by rw[iE HD.out hi];exact ha),qRU HD.out hi ha])
    obtain⟨s,hs⟩:=Nm (nx d i a);rw[<-hs]at ce i5 cp f8;obtain⟨y,hy⟩:=Nm (p.getD s 0);rw[<-hy]at cp f8;have l9:=h4.size;have l4:(s:Int)<n:=(by omega);clear hA hs hy h4;go_wp2_with (first|(at_builtin;refine app1 rfl _ _ _ rfl yP wo.heap.size _ a (ints ((uJ p (d.next.getD i [])).take a)) rfl H3.out _ rfl rfl ?c1 ?c2 ?c3 ?_)|fail)
    case c1=>unfold maxLen;omega
    case c2=>omega
    case c3=>exact l9
    intro sa' sc' w6 H5 j3 l8;have n4:=Kh H5;have n6:=Kh j3;clear H5 j3;go_wp2;go_roundg (k-(a+1))
    case measure=>have:=k8.out;omega
    refine⟨a+1,sa',sc',by omega,by go_num,rfl,?_,zA g2.out n6.out (fun q e=>(H3.out.lt q e).1)⟩;rw[f8.out,qFA];exact n4.out
   have j9:a=k:=by have:=k8.out;omega
   have i4:(uJ p (d.next.getD i [])).take a=uJ p (d.next.getD i []):=by rw[j9,<-iE HD.out (p:=p) hi];exact List.take_length
   rw[i4]at H3;obtain⟨w5,f1⟩:=Nm wr.drew;have m7:=Kh f1;have a1:wr.grownBy w5 none:=(by rw[f1];exact zN wr none);have a9:=Kh ((H4.out.grow h4).grow a1);have f9:Hid (RowT w5.heap.size 3 w5 (.slice sr a cr) (ints (uJ p (d.next.getD i [])))):=Kh (RowT.of_owns (zX H3.out a1 (by simp)));have n7:=Kh (zC d4.out (wP (zC h4 a1) (row:=some O)));have k3:=a9.out.box;have H0:=Kh k3;have k7:=Kh a9.out.notbox;have b0:O<=w5.heap.size:=by have:=h4.size;have:=a1.size;have:=g0.out;omega
   have cq:=(((i1.out.kept h4 (by simp)).kept a1 (by simp))).fin hi;obtain⟨_,_,d2,_⟩:=zE (zB (zB (zB (zB i0.out d6.out) d4.out (fun e=>a5 (Oj e))) h4) a1);have p5:=i1.out.flt;have m1:O≠fb:=(by omega);obtain⟨bq,j6⟩:=Nm (d.final.getD i false);rw[<-j6]at cq d7;obtain⟨fsl,c4⟩:=Nm (fL d p i);obtain⟨tsl,b5⟩:=Nm (fK d p i);rw[<-c4]at a9 H0 d7 b2;rw[<-b5]at a9 H0 e8 H8;obtain⟨m,hm⟩:=Nm c;rw[<-hm]at b2 H8;have f7:=Kh H8;have k0:=a9.out.many
   have hM:Many w5 (FB sf sn) w5 [⟨O,22,.slice sn m cn,m,hs,1⟩,⟨O,4,.slice sf m cf,m,bls fsl,1⟩] [] []:=by
    have h1:=k0;simp only[rN,rF,b2,H8]at h1;exact h1
   have l1:Hid (∀W:World,(W.cell? ⟨P,2,none⟩=some (.slice (some ⟨fb,fo,none⟩) n fc)/\W.cell? ⟨fb,fo+i,none⟩=some (.bool bq))->∀(c:Nat) (X:Value),(W.setCell ⟨O,c,none⟩ X).cell? ⟨P,2,none⟩=some (.slice (some ⟨fb,fo,none⟩) n fc)/\(W.setCell ⟨O,c,none⟩ X).cell? ⟨fb,fo+i,none⟩=some (.bool bq)):=Kh (fun W h c X =>
    ⟨by rw[World.cell?_setCell_far W ⟨O,c,none⟩ ⟨P,2,none⟩ X a5];exact h.1,by rw[World.cell?_setCell_far W ⟨O,c,none⟩ ⟨fb,fo+i,none⟩ X m1];exact h.2⟩)
   have h0:Hid (∀W rs ls,Many w5 (FB sf sn) W rs ls []->(W.cell? ⟨P,2,none⟩=some (.slice (some ⟨fb,fo,none⟩) n fc)/\W.cell? ⟨fb,fo+i,none⟩=some (.bool bq))/\(W.cell? ⟨O,3,none⟩=some (.slice sn m cn)/\W.cell? ⟨O,2,none⟩=some (.slice sf m cf))):=Kh (fun W rs ls h=>by
    have j1:=a9.out.ge;have hb:=h.but.heap H0.out k7.out;rw[b2,H8]at hb;obtain⟨_,_,e2,e3⟩:=zE hb
    exact⟨⟨h.but.cell d2 (fun hf=>by have:=j1 _ hf;simp only at this;omega),h.but.cell cq (fun hf=>by have:=j1 _ hf;simp only at this;omega)⟩,e3,e2⟩)
   rw[b2,H8]at H0;have o9:Hid (m=c):=Kh hm;have p0:m<=4194304:=by omega
   clear k0 k3 i4 j9 f1 a1 h4 j6 c4 b5 hm b2 H8 ch d2 cq;go_upto_region 15 with fail;refine wp_region_noPanic ?_;refine xE (G:=vU 15 (fun W=>W.cell? ⟨P,2,none⟩=some (.slice (some ⟨fb,fo,none⟩) n fc)/\W.cell? ⟨fb,fo+i,none⟩=some (.bool bq)) (fun W=>W.cell? ⟨O,3,none⟩=some (.slice sn m cn)/\W.cell? ⟨O,2,none⟩=some (.slice sf m cf))) (by kernel_rfl) ?_;rw[<-m7.out];refine wE 0 ⟨(h0.out _ _ _ hM).1,fun _=>(h0.out _ _ _ hM).2⟩ ?_;refine qOY 1 ⟨(h0.out _ _ _ hM).1,fun _=>(h0.out _ _ _ hM).2⟩ ?_;refine wE 2 ⟨(h0.out _ _ _ hM).1,fun _=>(h0.out _ _ _ hM).2⟩ ?_;refine wE 5 ⟨(h0.out _ _ _ hM).1,fun _=>(h0.out _ _ _ hM).2⟩ ?_;refine qOY 6 ⟨(h0.out _ _ _ hM).1,fun _=>(h0.out _ _ _ hM).2⟩ ?_;refine wE 7 ⟨(h0.out _ _ _ hM).1,fun _=>(h0.out _ _ _ hM).2⟩ ?_;refine wE 8 ⟨(h0.out _ _ _ hM).1,fun _=>(h0.out _ _ _ hM).2⟩ ?_;refine wE 9 ⟨(h0.out _ _ _ hM).1,fun _=>(h0.out _ _ _ hM).2⟩ ?_;refine wE 10 ⟨(h0.out _ _ _ hM).1,fun _=>(h0.out _ _ _ hM).2⟩ ?_;refine wE 11 ⟨(h0.out _ _ _ hM).1,fun _=>(h0.out _ _ _ hM).2⟩ ?_;refine twoG (i:=3) (j:=12) (by kernel_rfl) rfl rfl (fun K hK=>?_) (fun K hK=>?_);go_simp;refine hK.out _ _ ⟨(h0.out _ _ _ (hM.alloc _)).1,fun _=>(h0.out _ _ _ (hM.alloc _)).2⟩ ?_;clear hK K
   try simp only[Act.put,sPa,sPb,sPc]
   refine twoG (i:=4) (j:=12) (by kernel_rfl) rfl rfl (fun K hK=>?_) (fun K hK=>?_);refine uS rfl (.tmp 52) (.tmp 54) 28 rfl vX 0 _ _ rfl ⟨_,_,_,_,_,(hM.alloc _),_,rfl,rfl,rfl,rfl,?g3,?g4,b0,_,_,_,List.Mem.head _,(by first|rfl|simp),rfl,?_⟩
   case g3=>(simp only[];unfold maxLen;omega)
   case g4=>(simp only[];omega)
   intro sa1 sc1 w1x h3;have a0:=h3.litcell (List.Mem.head _)
   try simp only[zL]at a0
   refine hK.out _ _ ⟨(h0.out _ _ _ h3).1,fun _=>(h0.out _ _ _ h3).2⟩ ?_;clear hK K
   try simp only[Act.put,sPa,sPb,sPc]
   refine wE 14 ⟨(h0.out _ _ _ h3).1,fun _=>(h0.out _ _ _ h3).2⟩ ?_;refine oneG (i:=12) (by kernel_rfl) rfl (fun K hK=>?_);go_simp;refine hK.out _ _ ⟨(h0.out _ _ _ (h3.alloc _)).1,fun _=>(h0.out _ _ _ (h3.alloc _)).2⟩ ?_;clear hK K
   try simp only[Act.put,sPa,sPb,sPc]
   rotate_left;go_simp;refine hK.out _ _ ⟨(h0.out _ _ _ ((hM.alloc _).alloc _)).1,fun _=>(h0.out _ _ _ ((hM.alloc _).alloc _)).2⟩ ?_;clear hK K
   try simp only[Act.put,sPa,sPb,sPc]
   refine oneG (i:=4) (by kernel_rfl) rfl (fun K hK=>?_);refine uS rfl (.tmp 52) (.tmp 54) 28 rfl vX 0 _ _ rfl ⟨_,_,_,_,_,((hM.alloc _).alloc _),_,rfl,rfl,rfl,rfl,?g3,?g4,b0,_,_,_,List.Mem.tail _ (List.Mem.head _),(by first|rfl|simp),rfl,?_⟩
   case g3=>(simp only[];unfold maxLen;omega)
   case g4=>(simp only[];omega)
   intro sa1 sc1 w1x h3;have a0:=h3.litcell (List.Mem.head _)
   try simp only[zL]at a0
   have b8:=h3.litcell (List.Mem.tail _ (List.Mem.head _))
   try simp only[zL]at b8
   refine hK.out _ _ ⟨(h0.out _ _ _ h3).1,fun _=>(h0.out _ _ _ h3).2⟩ ?_;clear hK K
   try simp only[Act.put,sPa,sPb,sPc]
   refine wE 14 ⟨(h0.out _ _ _ h3).1,fun _=>(h0.out _ _ _ h3).2⟩ ?_;rotate_left;go_simp;refine hK.out _ _ ⟨(h0.out _ _ _ (hM.alloc _)).1,fun _=>(h0.out _ _ _ (hM.alloc _)).2⟩ ?_;clear hK K
   try simp only[Act.put,sPa,sPb,sPc]
   refine oneG (i:=3) (by kernel_rfl) rfl (fun K hK=>?_);go_simp;refine hK.out _ _ ⟨(h0.out _ _ _ ((hM.alloc _).alloc _)).1,fun _=>(h0.out _ _ _ ((hM.alloc _).alloc _)).2⟩ ?_;clear hK K
   try simp only[Act.put,sPa,sPb,sPc]
   refine oneG (i:=4) (by kernel_rfl) rfl (fun K hK=>?_);refine uS rfl (.tmp 52) (.tmp 54) 28 rfl vX 0 _ _ rfl ⟨_,_,_,_,_,((hM.alloc _).alloc _),_,rfl,rfl,rfl,rfl,?g3,?g4,b0,_,_,_,List.Mem.head _,(by first|rfl|simp),rfl,?_⟩
   case g3=>(simp only[];unfold maxLen;omega)
   case g4=>(simp only[];omega)
   intro sa1 sc1 w1x h3;have a0:=h3.litcell (List.Mem.head _)
   try simp only[zL]at a0
   have b8:=h3.litcell (List.Mem.tail _ (List.Mem.head _))
   try simp only[zL]at b8
   refine hK.out _ _ ⟨(h0.out _ _ _ h3).1,fun _=>(h0.out _ _ _ h3).2⟩ ?_;clear hK K
   try simp only[Act.put,sPa,sPb,sPc]
   refine wE 14 ⟨(h0.out _ _ _ h3).1,fun _=>(h0.out _ _ _ h3).2⟩ ?_
   all_goals
    refine oneG (i:=13) (by kernel_rfl) rfl (fun K hK=>?_)
    first
    | refine uS rfl (.tmp 57) (.tmp 63) 27 rfl xL 1 _ _ rfl ⟨_,_,_,_,_,(h3.alloc _),_,rfl,rfl,rfl,rfl,?g3,?g4,b0,_,_,_,List.Mem.head _,(by first|rfl|simp),rfl,?_⟩
    | refine uS rfl (.tmp 57) (.tmp 63) 27 rfl xL 1 _ _ rfl ⟨_,_,_,_,_,h3,_,rfl,rfl,rfl,rfl,?g3,?g4,b0,_,_,_,List.Mem.head _,(by first|rfl|simp),rfl,?_⟩
    | refine uS rfl (.tmp 57) (.tmp 63) 27 rfl xL 1 _ _ rfl ⟨_,_,_,_,_,h3,_,rfl,rfl,rfl,rfl,?g3,?g4,b0,_,_,_,List.Mem.tail _ (List.Mem.head _),(by first|rfl|simp),rfl,?_⟩
    case g3=>(simp only[];unfold maxLen;omega)
    case g4=>(simp only[];omega)
    intro sa2 sc2 w2x H7;have a0:=H7.litcell (List.Mem.head _)
    try simp only[zL]at a0
    have b8:=H7.litcell (List.Mem.tail _ (List.Mem.head _))
    try simp only[zL]at b8
    refine hK.out _ _ ⟨(h0.out _ _ _ H7).1,fun _=>(h0.out _ _ _ H7).2⟩ ?_;clear hK K
    try simp only[Act.put,sPa,sPb,sPc]
    refine oneG (i:=15) (by kernel_rfl) rfl (fun K hK=>?_);have b3:=H7.but.heap H0.out k7.out;have cb3:=zJ b3 3;have cb2:=zJ b3 2;have fb3:=zF b3 3;have fb2:=zF b3 2;simp only[sPd,sPe,sPf]at cb3 cb2;go_simp;have a4:=heap_setCell_same _ O 3 _ _ (.slice sa1 (m+1) sc1) b3;have cb22:=zJ a4 2;have fb22:=zF a4 2;simp at cb22;have e7:=l1.out _ (h0.out _ _ _ H7).1 3 (.slice sa1 (m+1) sc1);refine hK.out _ _ ⟨e7,fun h=>by simp at h⟩ ?_;clear hK K
    try simp only[Act.put,sPa,sPb,sPc]
    refine wE 16 ⟨e7,fun h=>by simp at h⟩ ?_;refine oneG (i:=17) (by kernel_rfl) rfl (fun K hK=>?_);go_simp;have c9:=l1.out _ e7 2 (.slice sa2 (m+1) sc2);refine hK.out _ _ ⟨c9,fun h=>by simp at h⟩ ?_;clear hK K
    try simp only[Act.put,sPa,sPb,sPc]
    refine nO (by kernel_rfl) ?_ _;refine NoPanic.normal ?_;obtain⟨H2,j0⟩:=a9.out.push (b:=bq) (row:=uJ p (d.next.getD i [])) f7.out H7 f9.out rfl;have g8:=Kh H2;have g6:=Kh (j0 w4 n7.out (by have:=g0.out;omega));clear H2 j0 cb3 cb2 fb3 fb2 b3 a4 cb22 fb22 e7 c9 H7
    (try clear h3)
    go_wp2;go_roundg (n-(i+1))
    case measure=>have:=g5.out;omega
    exact⟨i+1,_,_,_,_,_,by omega,by go_num,by rw[g7.out];rfl,g8.out.congr d7.out e8.out,g6.out⟩
  have d7:=Kh (qRP (d:=d) (fun e=>hxc (hx.trans (e.trans hc.symm))));have e8:=Kh (qRM (d:=d) (fun e=>hxc (hx.trans (e.trans hc.symm))));have g7:Hid (cls (p.take (i+1))=c):=Kh (h8 hxc);have e1:((x:Int) != (c:Int))=true:=by rw[bne_iff_ne];omega
  clear H2 h4 H1 h9 h8 hx hc hxc;go_wp2;go_roundg (n-(i+1))
  case measure=>have:=g5.out;omega
  exact⟨i+1,hs,sf,cf,sn,cn,by omega,by go_num,by rw[g7.out],H4.out.congr d7.out e8.out,d4.out⟩
 have i9:i=n:=by have:=g5.out;omega
 have hE:(⟨(k:Int),(ps:Int),fL d p i,fK d p i⟩:DfaV)=tO d p:=by
  have h1:=HD.out.hk;have h2:reps p=tR p i:=by rw[reps,a8.out,i9]
  simp only[tO,fL,fK,h1,h2,n2.out,m9.out]
 have n0:=Kh (qHB HD.out a8.out e9.out);have f5:=H2.dfa;rw[hE]at f5;have m8:=Kh (qUF wr.heap.size wr _ (tO d p) (cls p) k (Nat.le_refl _) f5 n0.out);obtain⟨d0,d1,d2,d3⟩:=zE H2.box;have a5:O≠P+1:=(by omega);have m5:P+1≠O:=(by omega);clear hE f5 H2 i9;go_wp2_with fail;refine m8.out.mono ?_;rintro e w7 ⟨v7,pv7,rfl,H6,e4⟩;have l7:xY (tO d p) k=minD d k:=by rw[HP.out];rfl
 rw[l7]at H6;obtain⟨o7,l3,sf7,cf7,sn7,cn7,rfl,o6,j8⟩:=H6;have h6:=zB H4.out.box e4;have h5:=zB (zB (zB n9.out d6.out) h4 (fun e=>a5 (Oj e))) e4;obtain⟨d8,g9,n8,g6⟩:=K4 h6 h5 j8 e4;obtain⟨x0,x1,x2,x3⟩:=zE h6;obtain⟨y0,y1,y2,y3⟩:=zE h5;have fx0:=zF h6 0;have fx1:=zF h6 1;have fx2:=zF h6 2;have fx3:=zF h6 3;have fy0:=zF h5 0;have fy1:=zF h5 1;have fy2:=zF h5 2;have fy3:=zF h5 3;clear h6 h5 j8 e4 h4 d0 d1 d2 d3;go_wp2;refine bodyPost_ret (v:=.agg #[.int .i64 (minD d k).letters,.int .i64 (minD d k).start,.slice sf7 (minD d k).final.length cf7,.slice sn7 (minD d k).next.length cn7]) (by simp[results,Tryz.results72,go_sem,y0,y1,y2,y3,a5,m5]) rfl ?_;obtain⟨o4,f4⟩:=vY d8.out (.int .i64 (minD d k).letters) (.int .i64 (minD d k).start) (.slice sf7 (minD d k).final.length cf7) (.slice sn7 (minD d k).next.length cn7);have c7:=zB g9.out f4 (fun e=>a5 (Oj e));obtain⟨o3,j2⟩:=vY c7 (.int .i64 (minD d k).letters) (.int .i64 (minD d k).start) (.slice sf7 (minD d k).final.length cf7) (.slice sn7 (minD d k).next.length cn7);have q0:O<wr.heap.size:=zM H4.out.box;refine⟨_,rfl,⟨o7,l3,sf7,cf7,sn7,cn7,rfl,by have:=f0.out;omega,(n8.out.far f4 d8.out (by omega)).far j2 c7 (by omega)⟩,?_⟩;have g1:w.grownBy wr none:=zC n5.out (zC d6.out (zA (zH _ _) d4.out (fun x e=>by have:=Oj e;have:=g0.out;omega)));refine zA (zA (zC g1 g6.out) f4 (fun x e=>by have:=Oj e;have:=f0.out;omega)) j2 (fun x e=>by have:=Oj e;have:=f0.out;omega)
theorem qJS (B:Nat)(w:World)(v:Value)(d:DfaV)(n k:Nat)(hB:B<=w.heap.size)(h:tM B w v d)(hd:VD d n k)(h5:n<=512):Calls Tryz.prog 48 #[v] w (qTV w (minD d k)):=by
 have h0:=h;obtain⟨fb,fo,fc,b,off,cap,RB,RO,RC,rfl,b6⟩:=h.at hd;obtain⟨S,hS⟩:=Nm (st0 d);have a7:dAgg k (st0 d) fb fo fc b off cap n=.agg #[.int .i64 (k:Int),.int .i64 (S:Int),.slice (some ⟨fb,fo,none⟩) n fc,.slice (some ⟨b,off,none⟩) n cap]:=by rw[hS];rfl
 rw[a7]at h0⊢;obtain⟨h4,H1,h6,a5⟩:=rL w #[.int .i64 (k:Int),.int .i64 (S:Int),.slice (some ⟨fb,fo,none⟩) n fc,.slice (some ⟨b,off,none⟩) n cap] #[.int .i64 0,.int .i64 0,.slice none 0 0,.slice none 0 0] 30;obtain⟨wA,H4⟩:=Nm ((w.alloc (.cells #[.int .i64 (k:Int),.int .i64 (S:Int),.slice (some ⟨fb,fo,none⟩) n fc,.slice (some ⟨b,off,none⟩) n cap] 30)).alloc (.cells #[.int .i64 0,.int .i64 0,.slice none 0 0,.slice none 0 0] 30));rw[<-H4]at h4 H1 h6 a5;obtain⟨c0,c1,c2,c3⟩:=zE h4;obtain⟨P,hP⟩:=Nm w.heap.size;obtain⟨Q,hQ⟩:=Nm (w.heap.size+1);have c9:=Kh hP;have c8:Hid (Q=P+1):=Kh (by omega);have f4:P<Q:=by omega
 have e7:Q<wA.heap.size:=by omega
 have e9:w.heap.size<=P:=by omega
 have b7:B<=wA.heap.size:=by omega
 rw[<-hQ]at H1;rw[<-hP]at h4 c0 c1 c2 c3 hB;obtain⟨d9,d8,d4,b8,HD⟩:=K5 h4 H1 h6 H4 hd;have a2:=Kh (h0.kept h6 (by simp));have a9:=Kh (sK B wA _ d b7 a2.out);have c4:=Kh (eG hd h5);clear h4 H1 h6 H4 b6 hd h h0 a7 hS a5 hP hQ;go_enter Tryz.func48,Tryz.ntmps48;go_upto_region 1 with fail;rw[<-b8.out,<-c9.out,<-c8.out];go_wp2_with fail;refine a9.out.mono ?_;rintro e w1 ⟨rfl,h2⟩;rw[c4.out];have e6:=h2.size;have d6:=Kh h2;have a4:=Kh (zB d9.out h2);have a3:=Kh (zB d8.out h2);have b1:=Kh (qDX B w1 _ d n k (by omega) (a2.out.kept h2 (by simp)) HD.out h5);obtain⟨d0,d1,d2,d3⟩:=zE a4.out;clear h2 a9 c0 c1 c2 c3;go_wp2_with fail;refine b1.out.mono ?_;rintro e w2 ⟨v2,sv,rfl,⟨o,hs,sf,cf,sn,cn,rfl,ho,h9⟩,h8⟩;rw[qWG HD.out]at h9⊢;obtain⟨R,hR⟩:=Nm (minD d k);rw[<-hR]at h9⊢;have H7:R.letters=k:=by rw[hR];exact(qEQ HD.out).hk
 have H6:R.start=0:=by rw[hR];rfl
 obtain⟨FL,H9⟩:=Nm R.final.length;obtain⟨NL,H8⟩:=Nm R.next.length;rw[H7,H6,<-H9,<-H8];obtain⟨b0,c7,c6,a1,a0,d7⟩:=K6 hR H7 H6 H9 H8 h9;have d5:=Kh h8;obtain⟨T3,H5⟩:=Nm w2.heap.size;obtain⟨w3,H2⟩:=Nm (w2.alloc (.cells #[.int .i64 (k:Int),.int .i64 0,.slice sf FL cf,.slice sn NL cn] 30));have h3:=Ga w2 (.cells #[.int .i64 (k:Int),.int .i64 0,.slice sf FL cf,.slice sn NL cn] 30) none;have H0:=heap_alloc_new w2 (.cells #[.int .i64 (k:Int),.int .i64 0,.slice sf FL cf,.slice sn NL cn] 30);rw[<-H2]at h3 H0;rw[<-H5]at H0;have e5:=h8.size;have e4:=h3.size;obtain⟨b9,c5,b2⟩:=K3 H2 H5 h3;have h1:=zB (zB a3.out h8) h3;have b3:=Kh h1;obtain⟨e0,e1,e2,e3⟩:=zE H0;obtain⟨q0,q1,q2,q3⟩:=zE h1;have f0:=zF h1 0;have f1:=zF h1 1;have f2:=zF h1 2;have f3:=zF h1 3;have e8:Q<T3:=by omega
 clear hR H7 H6 H9 H8 h9 h8 H2 H5 h3 H0 h1 d0 d1 d2 d3 b1 a2;go_upto_region 4 with fail;rw[<-b9.out,<-c5.out];go_wp2;obtain⟨a8,H3⟩:=vY b3.out (.int .i64 (k:Int)) (.int .i64 0) (.slice sf FL cf) (.slice sn NL cn);obtain⟨wz,a6⟩:=Nm ((((w3.setCell ⟨Q,0,none⟩ (.int .i64 (k:Int))).setCell ⟨Q,1,none⟩ (.int .i64 0)).setCell ⟨Q,2,none⟩ (.slice sf FL cf)).setCell ⟨Q,3,none⟩ (.slice sn NL cn));rw[<-a6]at a8 H3⊢;clear a6;obtain⟨r0,r1,r2,r3⟩:=zE a8;clear e0 e1 e2 e3 q0 q1 q2 q3 f0 f1 f2 f3;refine bodyPost_ret (v:=.agg #[.int .i64 (k:Int),.int .i64 0,.slice sf FL cf,.slice sn NL cn]) (by simp[results,Tryz.results48,go_sem,r0,r1,r2,r3]) rfl ?_;have b4:w.grownBy wz none:=zA (zA (zA (zA d4.out d6.out) d5.out) b2.out) H3 (fun k e=>by have h7:Q=k:=Oj e;omega);have b5:=(d7.out.grow b2.out).far H3 b3.out (by omega);refine⟨_,rfl,⟨o,hs,sf,cf,sn,cn,?_,by omega,by rw[<-b0.out];exact b5⟩,b4⟩;rw[<-b0.out,c6.out,c7.out,a1.out,a0.out]
theorem qZV (n:Nat)(h:n<=4096):∀w:World,(Instr.makeSlice 27 (.int .i64 (n:Int)) (.int .i64 (n:Int))).run Tryz.prog w=.ok (.slice (some ⟨w.heap.size,0,none⟩) n n) (w.alloc (.cells (madeCells #[.bool false] n) 4)) :=
 fun w=>run_make_row' 27 4 (.bool false) 1 Tryz.underlying27 (by kernel_rfl) rfl .i64 .i64 n (by omega) (by omega) w
theorem qEU (n:Nat):(madeCells #[.bool false] n).toList=bls (List.replicate n false):=by
 have:=mU (z:=.bool false) rfl n;rw[Nat.mul_one]at this;rw[show bls (List.replicate n false)=List.replicate n (.bool false) by simp[bls]];exact this
theorem qB {x:Int}(h:-9223372036854775808<=x/\x<=9223372036854775807):IntKind.i64.wrap x=x:=by
 unfold IntKind.wrap;simp[IntKind.bits,IntKind.signed];omega
def qTZ:DfaV:=⟨0,0,[],[]⟩
end Go.Proofs.YtcoimliafiammaaGreat
