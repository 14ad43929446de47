/- Part 16 of the proof: PClasses. -/
import Derived.Test.YtjfdomfendbhfaaQe14
import Derived.Test.YtjfdomfendbhfaaQe15
set_option linter.unusedVariables false
set_option linter.unusedSimpArgs false
namespace Go.Proofs.Ytjfdomfendbhfaa
open Go.RowKit Go.Maps
def numF {α:Type} [DecidableEq α] (l:List α) (L:α):Option Nat:=if L∈l then some (l.idxOf L) else none
theorem numF_new {α:Type} [DecidableEq α] {l:List α} {L:α} (h:L ∉ l):(fun q=>if q=L then some l.length else numF l q)=numF (l ++ [L]):=by
 funext q
 unfold numF
 by_cases e:q=L
 ·subst e
  rw[if_pos rfl,if_pos (by simp),List.idxOf_append,if_neg h];simp
 ·rw[if_neg e]
  by_cases hq:q∈l
  ·rw[if_pos hq,if_pos (by simp[hq]),List.idxOf_append,if_pos hq]
  ·rw[if_neg hq,if_neg (by simp[hq,e])]
theorem numF_old {α:Type} [DecidableEq α] {l:List α} {L:α} (h:L∈l):numF l L=some (if L∈l then l.idxOf L else l.length):=by rw[numF,if_pos h,if_pos h]
theorem numF_no {α:Type} [DecidableEq α] {l:List α} {L:α} (h:L ∉ l):numF l L=none:=if_neg h
theorem numb_old {α:Type} [DecidableEq α] {l:List α} {L:α} {v:Nat} (hv:v=if L∈l then l.idxOf L else l.length) (h:L∈l):numF l L=some v:=by rw[hv,numF_old h]
theorem numb_new {α:Type} [DecidableEq α] {l:List α} {L:α} {v:Nat} (hv:v=if L∈l then l.idxOf L else l.length) (h:L ∉ l):v=l.length:=by rw[hv,if_neg h]
theorem seven {L:List Nat} (h:L.length=7):∃ y0 y1 y2 y3 y4 y5 y6,L=[y0,y1,y2,y3,y4,y5,y6]:=by
 match L,h with
 | [y0,y1,y2,y3,y4,y5,y6],_=>exact⟨y0,y1,y2,y3,y4,y5,y6,rfl⟩
theorem sig7_cells {w:World} {g e y0 y1 y2 y3 y4 y5 y6:Nat} (h:Arr w g e (nats [y0,y1,y2,y3,y4,y5,y6])):w.cell? ⟨g,0,none⟩=some (.int .i64 (y0:Int))/\w.cell? ⟨g,1,none⟩=some (.int .i64 (y1:Int))/\w.cell? ⟨g,2,none⟩=some (.int .i64 (y2:Int))/\w.cell? ⟨g,3,none⟩=some (.int .i64 (y3:Int))/\w.cell? ⟨g,4,none⟩=some (.int .i64 (y4:Int))/\w.cell? ⟨g,5,none⟩=some (.int .i64 (y5:Int))/\w.cell? ⟨g,6,none⟩=some (.int .i64 (y6:Int)) :=
 ⟨h.cell 0 (by simp[nats]),h.cell 1 (by simp[nats]),h.cell 2 (by simp[nats]),h.cell 3 (by simp[nats]),h.cell 4 (by simp[nats]),h.cell 5 (by simp[nats]),h.cell 6 (by simp[nats])⟩
theorem numF_nil:(fun _=>none)=numF ([]:List (List Nat)):=by funext L;simp[numF]
set_option maxRecDepth 100000 in
set_option maxHeartbeats 2000000 in
theorem pclasses_any (B:Nat) (w:World) (v:Value) (d:DfaV) (n k:Nat) (hB:B<=w.heap.size) (h:tE B w v d) (hd:VD d n k) (h5:n<=512) :
  Calls Try.prog 111 #[v] w (NumOk w (zR d k)):=by
 have r7:=@run_makeMap Try.prog
 have b6:=h
 obtain⟨fb,fo,fc,b,off,cap,RB,RO,RC,rfl,c4⟩:=h.at hd
 have hn:=hd.hn
 have o0:=hd.n1
 have l2:=hd.k6
 have s0:=hd.k1
 have s6:=c4.fcap.1
 have d4:=c4.fcap.2
 have s9:=c4.cap.1
 have d5:=c4.cap.2
 have o2:fc<=9223372036854775807:=by unfold maxLen at d4;omega
 have o1:cap<=9223372036854775807:=by unfold maxLen at d5;omega
 obtain⟨S,hS⟩:∃ S,S=st0 d:=⟨_,rfl⟩
 have j8:dAgg k (st0 d) fb fo fc b off cap n=.agg #[.int .i64 (k:Int),.int .i64 (S:Int),.slice (some ⟨fb,fo,none⟩) n fc,.slice (some ⟨b,off,none⟩) n cap]:=by rw[hS];rfl
 rw[j8]at b6 ⊢
 obtain⟨wA,j0⟩:∃ wA,wA=w.alloc (.cells #[.int .i64 (k:Int),.int .i64 (S:Int),.slice (some ⟨fb,fo,none⟩) n fc,.slice (some ⟨b,off,none⟩) n cap] 42):=⟨_,rfl⟩
 have f6:=Ga w (.cells #[.int .i64 (k:Int),.int .i64 (S:Int),.slice (some ⟨fb,fo,none⟩) n fc,.slice (some ⟨b,off,none⟩) n cap] 42) none
 have b9:=heap_alloc_new w (.cells #[.int .i64 (k:Int),.int .i64 (S:Int),.slice (some ⟨fb,fo,none⟩) n fc,.slice (some ⟨b,off,none⟩) n cap] 42)
 rw[<- j0]at b9 f6
 obtain⟨P,hP⟩:∃ P,P=w.heap.size:=⟨_,rfl⟩
 rw[<- hP]at b9
 obtain⟨c0,c1,c2,c3⟩:=zG b9
 have t1:=zH b9
 have p0:B<=wA.heap.size:=by omega
 have p7:=Kh hP
 have t2:w.heap.size<=P:=by omega
 have m9:=Kh b9;have q5:=Kh f6;have p3:=Kh j0;have c8:Hid (∀ W:World,w.grownBy W none->DAt B W d n k fb fo fc b off cap RB RO RC):=Kh (fun W hg=>c4.kept hg (by simp));have HN:=Kh hn;have HD:=Kh hd
 have l7:=Kh (vQ B wA _ d p0 (b6.kept f6 (by simp)))
 have p4:=Kh (qH hd h5)
 clear b9 f6 j0 c4 hn hd h b6 j8 d4 d5 hS hP
 go_enter Try.func111,Try.ntmps111
 go_upto_region 1 with fail
 rw[<- p3.out,<- p7.out]
 go_wp2_with fail
 refine l7.out.mono ?_
 rintro e w1 ⟨rfl,f9⟩
 rw[p4.out]
 have r3:=f9.size
 have q6:=Kh (zB q5.out f9 (by simp))
 have g3:=Kh (zA m9.out f9 (by simp))
 obtain⟨d0,d1,d2,d3⟩:=zG g3.out
 have t9:B<=w.heap.size:=hB
 clear f9 l7 c0 c1 c2 c3 m9
 go_wp2_with (first|(at_make;refine kZ rfl _ _ _ rfl xQ rfl .i64 .i64 _ _ n rfl rfl rfl rfl ?b1 ?b2 ?_;(case b1=>omega);(case b2=>(unfold maxLen;omega));intro w2 h0 f8 i5;(obtain⟨e0,e1,e2,e3⟩:=zG (zA g3.out f8 (by simp))))|fail)
 obtain⟨G,hG⟩:∃ G,G=w1.heap.size:=⟨_,rfl⟩
 rw[<- hG]at h0 i5 ⊢
 have t6:P < G:=by omega
 have o9:w.heap.size<=G:=by omega
 have n3:Hid (Arr w2 G 3 (nats (fstF d n 0))):=Kh (by
  rw[show fstF d n 0=List.replicate n 0 by simp[fstF,xV],yR];exact h0)
 have m3:=Kh (zB q6.out f8 (by simp))
 have m8:=Kh (zA g3.out f8 (by simp))
 clear h0 f8 hG g3 d0 d1 d2 d3 e0 e1 e2 e3
 go_loopg [4,5,6,26] n (fun gh a4 a5 a6 i wr=>∃ q:Nat,gh+q=n/\i=.int .i64 q/\a4=.int .i64 (fstC d q:Nat)/\Arr wr G 3 (nats (fstF d n q))/\wr.heap[P]?=some (.cells #[.int .i64 (k:Int),.int .i64 (S:Int),.slice (some ⟨fb,fo,none⟩) n fc,.slice (some ⟨b,off,none⟩) n cap] 42 (0,0))/\w.grownBy wr none)
 case atStart=>exact⟨0,rfl,rfl,rfl,n3.out,m8.out,m3.out⟩
 case round =>
  clear n3 m8 m3
  obtain⟨q,a1,rfl,rfl,h0,h6,h3⟩:=hrel
  have h7:=Kh a1;have HA:=Kh h0;have H5:=Kh h6;have H4:=Kh h3
  obtain⟨d0,d1,d2,d3⟩:=zG h6
  clear a1
  by_cases hq:q < n
  ·have n9:(q:Int) < n:=by omega
   have cf0:=(c8.out _ h3).fin (q:=0) (by omega)
   have cfq:=(c8.out _ h3).fin hq
   have s5:=h0.frozen q
   have t0:=h0.nat q (by rw[oT (by omega)];exact hq)
   have i9:(nats (fstF d n q)).length=n:=by rw[yB,oT (by omega)]
   rw[Nat.add_zero]at cf0
   by_cases e:d.final.getD q false=d.final.getD 0 false
   ·obtain⟨h1,h2⟩:=fstF_same hq e
    have H1:=Kh h1;have H2:=Kh h2
    rw[e]at cfq
    generalize d.final.getD 0 false=b0 at cf0 cfq
    have e1:(b0 != b0)=false:=by simp
    clear h1 h2 e h0 h6
    go_wp2
    go_roundg (n - (q+1))
    case measure=>have:=h7.out;omega
    case rel=>exact⟨q+1,by have:=h7.out;omega,by go_num,by rw[H2.out],by rw[H1.out];exact HA.out,H5.out,H4.out⟩
   ·obtain⟨h1,h2⟩:=fstF_diff hq e
    have H1:=Kh h1;have H2:=Kh h2
    have e1:(d.final.getD q false == d.final.getD 0 false)=false:=by rw[beq_eq_false_iff_ne];exact e
    generalize d.final.getD 0 false=b0 at cf0 e1
    generalize d.final.getD q false=b1 at cfq e1
    clear h1 h2 e h0 h6
    go_wp2
    go_roundg (n - (q+1))
    case measure=>have:=h7.out;omega
    case rel=>exact⟨q+1,by have:=h7.out;omega,by go_num,by rw[H2.out];rfl,by rw[H1.out];exact HA.out.nat_set q (by rw[oT (by omega)];exact hq) 1,zA H5.out (zC wr ⟨G,q,none⟩ _) (fun e=>by have e:G=P:=Oj e;omega),zB H4.out (zC wr ⟨G,q,none⟩ _) (fun k e=>by have e:G=k:=Oj e;omega)⟩
  ·have f3:q=n:=by have:=h7.out;omega
   obtain⟨l1,l4⟩:=fst_part0 HD.out
   have n4:Hid (Arr wr G 3 (nats (yG d k 0))):=Kh (by
    rw[show yG d k 0=fstF d n q by rw[f3,fstF,l1];simp[yG]];exact h0)
   have r0:Hid (fstC d q=cls (yG d k 0)):=Kh (by rw[f3,l4];rfl)
   rw[r0.out]
   have H8:=Kh f3
   clear f3 l1 l4 HA h7 h0 h6 h3
   obtain⟨w3,rfl⟩:∃ w3:World,w3=wr:=⟨_,rfl⟩
   go_wp2_with fail
   go_loopg [3,4,7,8,9,10,11,12,13,14,15] (n - cls (yG d k 0)) (fun gh a3 a4 a7 a8 a9 a10 a11 a12 a13 a14 a15 wr=>∃ (m g:Nat),gh=n - cls (yG d k m)/\m<=cls (yG d k m)/\a3=.slice (some ⟨g,0,none⟩) n n/\a4=.int .i64 (cls (yG d k m):Nat)/\Arr wr g 3 (nats (yG d k m))/\w.heap.size<=g/\g≠P/\wr.heap[P]?=some (.cells #[.int .i64 (k:Int),.int .i64 (S:Int),.slice (some ⟨fb,fo,none⟩) n fc,.slice (some ⟨b,off,none⟩) n cap] 42 (0,0))/\w.grownBy wr none)
   case atStart=>exact⟨0,G,rfl,by omega,rfl,rfl,n4.out,o9,by omega,H5.out,H4.out⟩
   case round =>
    clear n4 H5 H4
    obtain⟨m,g,rfl,o3,rfl,rfl,h0,s1,s3,h6,h3⟩:=hrel
    obtain⟨p,hp⟩:∃ p,p=yG d k m:=⟨_,rfl⟩
    have l0:p.length=n:=by rw[hp,yK,HN.out]
    have o7:=cls_le_n HD.out m
    have c9:∀ c∈p,c < n:=by have:=oO (vO d k m);rw[<- hp,l0]at this;exact this
    have j2:Hid (numb (sigL d k p)=yG d k (m+1)):=Kh (by rw[hp];exact clsIt_sig HD.out m)
    have d8:Hid (cls (yG d k (m+1))=cls (yG d k m)->yG d k (m+1)=zR d k):=Kh (clsIt_stop HD.out (by omega))
    have e7:Hid (cls (yG d k (m+1))≠cls (yG d k m)->cls (yG d k m) < cls (yG d k (m+1))):=Kh (clsIt_more HD.out)
    rw[<- hp]at h0
    obtain⟨C,hC⟩:∃ C,C=cls (yG d k m):=⟨_,rfl⟩
    rw[<- hC]at d8 e7 o3 o7 ⊢
    have x2:=Kh hp;have j3:=Kh c9;have q9:=Kh hC
    have HA:=Kh h0;have H5:=Kh h6;have H4:=Kh h3
    have k7:(sigL d k p).length=n:=by rw[oI,l0]
    obtain⟨wm,f1⟩:∃ wm,wm=wr.alloc (.map #[] 0):=⟨_,rfl⟩
    obtain⟨mb,i3⟩:∃ mb,mb=wr.heap.size:=⟨_,rfl⟩
    have i8:wr.grownBy wm none:=by rw[f1];exact Ga wr _ none
    have e6:Hid (MapK 176 qCH sigV wm mb 0 0 (numF [])):=Kh (by
     rw[f1,i3,<- numF_nil];exact MapK.made _ _ _ _)
    have t3:=zH h6
    have s2:=h0.lt
    have p1:=Kh f1;have c6:=Kh i8;have q0:=Kh i3
    have r2:=i8.size
    have r6:=e6.out.lt
    have t4:P < mb:=by omega
    have o4:g < mb:=by omega
    have n7:w.heap.size<=mb:=by have:=h3.size;omega
    clear hp c9 hC h0 h6 h3 i8 f1 i3
    obtain⟨wo,rfl⟩:∃ wo:World,wo=wr:=⟨_,rfl⟩
    go_upto_region 11 with fail
    rw[<- p1.out,<- q0.out]
    obtain⟨d0,d1,d2,d3⟩:=zG (zA H5.out c6.out (by simp))
    go_wp2_with (first|(at_make;refine kZ rfl _ _ _ rfl xQ rfl .i64 .i64 _ _ n rfl rfl rfl rfl ?b1 ?b2 ?_;(case b1=>omega);(case b2=>(unfold maxLen;omega));intro w4 h0 b8 i4;(obtain⟨e0,e1,e2,e3⟩:=zG (zA (zA H5.out c6.out (by simp)) b8 (by simp))))|fail)
    obtain⟨F,hF⟩:∃ F,F=wm.heap.size:=⟨_,rfl⟩
    rw[<- hF]at h0 i4 ⊢
    obtain⟨sg,g5⟩:∃ sg,sg=sigL d k p:=⟨_,rfl⟩
    rw[<- g5]at j2 k7
    have s4:g < F:=by omega
    have t5:P < F:=by omega
    have r8:mb < F:=by omega
    have l6:w.heap.size<=F:=by omega
    have i2:(numb sg).length=n:=by rw[yA,k7]
    have p5:=Kh g5;have g0:=Kh i2
    have m4:Hid (Arr w4 F 3 (nats (rH (numb sg) 0))):=Kh (by
     rw[fillTo_zero,i2,yR];exact h0)
    have l8:=Kh (e6.out.kept b8 (by simp));have n2:=Kh ((HA.out.kept c6.out (by simp)).kept b8 (by simp));have m7:=Kh (zA (zA H5.out c6.out (by simp)) b8 (by simp))
    have m2:=Kh (zB (zB H4.out c6.out (by simp)) b8 (by simp))
    clear g5 i2 h0 b8 hF e6 HA H5 H4 c6 d0 d1 d2 d3 e0 e1 e2 e3
    go_loopg [9,10,11,12,13,14,15,48] n (fun gh a9 a10 a11 a12 a13 a14 a15 i wr=>∃ (q c:Nat),gh+q=n/\i=.int .i64 q/\Arr wr F 3 (nats (rH (numb sg) q))/\MapK 176 qCH sigV wr mb q c (numF (zV (sg.take q)))/\c=(zV (sg.take q)).length/\Arr wr g 3 (nats p)/\wr.heap[P]?=some (.cells #[.int .i64 (k:Int),.int .i64 (S:Int),.slice (some ⟨fb,fo,none⟩) n fc,.slice (some ⟨b,off,none⟩) n cap] 42 (0,0))/\w.grownBy wr none)
    case atStart=>exact⟨0,0,rfl,rfl,m4.out,by simpa [zV] using l8.out,by simp[zV],n2.out,m7.out,m2.out⟩
    case round =>
     clear m4 l8 n2 m7 m2
     obtain⟨q,c,a1,rfl,h0,H0,hc,d7,h6,h3⟩:=hrel
     have h7:=Kh a1;have HF:=Kh h0;have e6:=Kh H0;have HA:=Kh d7;have H5:=Kh h6;have H4:=Kh h3;have e9:=Kh hc
     obtain⟨d0,d1,d2,d3⟩:=zG h6
     have r1:=h3.size
     have t7:=h0.lt
     have s8:c<=q:=by rw[hc];have:=vJ (sg.take q);rw[List.length_take]at this;omega
     clear a1
     by_cases hq:q < n
     ·have n9:(q:Int) < n:=by omega
      have hh:=(c8.out _ h3).hd q hq
      have g9:=(c8.out _ h3).rcap q hq
      have n8:=(c8.out _ h3).rlt q hq
      have g8:=g9.1
      have g7:RC q<=9223372036854775807:=by have:=g9.2;unfold maxLen at this;omega
      have d6:=d7.nat q (by omega)
      obtain⟨rb,i0⟩:∃ rb,rb=RB q:=⟨_,rfl⟩
      obtain⟨ro,g6⟩:∃ ro,ro=RO q:=⟨_,rfl⟩
      obtain⟨rc,a2⟩:∃ rc,rc=RC q:=⟨_,rfl⟩
      rw[<- i0,<- g6,<- a2]at hh
      rw[<- a2]at g8 g7
      have q8:Hid (∀ W:World,w.grownBy W none->∀ a,a < k->W.cell? ⟨rb,ro+a,none⟩=some (.int .i64 ((nx d q a:Nat):Int))):=Kh (fun W hg a ha=>by rw[i0,g6];exact(c8.out W hg).el q a hq ha)
      obtain⟨pq,f4⟩:∃ pq,pq=p.getD q 0:=⟨_,rfl⟩
      rw[<- f4]at d6
      have x1:=Kh f4
      obtain⟨wk,f2⟩:∃ wk,wk=wr.alloc (.cells #[.int .i64 (pq:Int),.int .i64 0,.int .i64 0,.int .i64 0,.int .i64 0,.int .i64 0,.int .i64 0] 176):=⟨_,rfl⟩
      obtain⟨kb,i7⟩:∃ kb,kb=wr.heap.size:=⟨_,rfl⟩
      have b7:wr.grownBy wk none:=by rw[f2];exact Ga wr _ none
      have m0:Hid (Arr wk kb 176 (nats (pU d p q 0))):=Kh (by
       rw[f2,i7]
       have:=Arr.new wr 176 #[.int .i64 (pq:Int),.int .i64 0,.int .i64 0,.int .i64 0,.int .i64 0,.int .i64 0,.int .i64 0]
       rw[show nats (pU d p q 0)=#[Value.int .i64 (pq:Int),.int .i64 0,.int .i64 0,.int .i64 0,.int .i64 0,.int .i64 0,.int .i64 0].toList by rw[pU,<- f4];rfl]
       exact this)
      have p2:=Kh f2;have q2:=Kh i7;have q3:=Kh (zB h3 b7 (by simp))
      have m5:=Kh (h0.kept b7 (by simp));have l9:=Kh (H0.kept b7 (by simp));have j7:=Kh (d7.kept b7 (by simp));have f0:=Kh (zA h6 b7 (by simp))
      have t8:F < kb:=by omega
      clear h0 H0 d7 h6 h3 i0 g6 a2 f4 f2 i7 b7 g9 n8 hc
      go_upto_region 16 with fail
      rw[<- p2.out,<- q2.out]
      clear d0 d1 d2 d3 d6 hh HF e6 HA H5 H4
      have r5:g < kb:=by omega
      go_wp2_with fail
      go_loopg [12,13,60] k (fun gh a12 a13 i wr=>∃ x:Nat,gh+x=k/\i=.int .i64 x/\Arr wr kb 176 (nats (pU d p q x))/\wk.grownBy wr (some kb))
      case atStart=>exact⟨0,rfl,rfl,m0.out,zN _ _⟩
      case round =>
       clear m0
       obtain⟨x,a1,rfl,h0,h3⟩:=hrel
       have H8:=Kh a1;have HK:=Kh h0;have H4:=Kh h3
       have H6:=zB q3.out h3 (fun k e=>by have e:kb=k:=Oj e;omega)
       have m1:=Kh H6
       clear a1
       by_cases hx:x < k
       ·have r4:(x:Int) < k:=by omega
        have cel:=q8.out wr H6 x hx
        have n6:=qF HD.out hq hx
        obtain⟨y,hy⟩:∃ y,y=nx d q x:=⟨_,rfl⟩
        rw[<- hy]at cel n6
        have n5:(y:Int) < n:=by omega
        have cy:=(j7.out.kept h3 (fun e=>by have e:kb=g:=Oj e;omega)).nat y (by omega)
        have h4:=sigTo_set (d:=d) (p:=p) (q:=q) (x:=x) (by omega)
        rw[<- hy]at h4
        have H3:=Kh h4
        have k8:=qL (d:=d) (p:=p) (q:=q) (x:=x) (by omega)
        have ck:=h0.nat (1+x) (by omega)
        have fk:=h0.frozen (1+x)
        have p6:=Kh k8
        obtain⟨z,hz⟩:∃ z,z=p.getD y 0:=⟨_,rfl⟩
        rw[<- hz]at cy
        have HZ:=Kh hz
        clear h4 k8 hz hy h0 h3 H6
        go_wp2
        go_roundg (k - (x+1))
        case measure=>have:=H8.out;omega
        case rel=>exact⟨x+1,by have:=H8.out;omega,by go_num,by rw[<- H3.out,<- HZ.out];exact HK.out.nat_set (1+x) (by rw[p6.out];omega) z,zD H4.out (zC wr ⟨kb,1+x,none⟩ _)⟩
       ·have g4:x=k:=by have:=H8.out;omega
        have x0:=Kh g4
        rw[g4]at h0 HK
        have c7:=Kh (m5.out.kept h3 (fun e=>by have e:kb=F:=Oj e;omega))
        have e4:=Kh (l9.out.kept h3 (fun e=>by have e:kb=mb:=Oj e;omega))
        have n0:=Kh (j7.out.kept h3 (fun e=>by have e:kb=g:=Oj e;omega))
        have m6:=Kh (zA f0.out h3 (fun e=>by have e:kb=P:=Oj e;omega))
        have k9:q < sg.length:=by omega
        have j9:sg[q]=pU d p q k:=by
         have e:=p5.out
         subst e
         exact gV (by omega)
        have b4:=iW k9
        have H7:=oU k9
        rw[j9]at b4 H7
        obtain⟨y0,y1,y2,y3,y4,y5,y6,hL⟩:=seven (qL (d:=d) (p:=p) (q:=q) (x:=k) l2)
        have i1:qCH [y0,y1,y2,y3,y4,y5,y6]:=by
         rw[<- hL]
         exact⟨qL l2,fun z hz=>by have:=sigTo_lt j3.out o0 z hz;omega⟩
        rw[hL]at h0 HK b4 H7
        obtain⟨k0,k1,k2,k3,k4,k5,k6⟩:=sig7_cells h0
        have h4:=fillTo_set (l:=numb sg) (k:=q) (by have:=g0.out;omega)
        have i9:=fillTo_length (l:=numb sg) (k:=q) (by have:=g0.out;omega)
        have g2:Hid ((rH (numb sg) q).length=n):=Kh (by rw[i9,g0.out])
        have cF:=c7.out.nat q (by rw[g2.out];exact hq)
        have fF:=c7.out.frozen q
        have b5:=e4.out.lookup gU i1
        obtain⟨Fs,j1⟩:∃ Fs,Fs=zV (sg.take q):=⟨_,rfl⟩
        rw[<- j1]at b4 H7 b5 e4 e9
        have x4:=Kh j1;have p8:=Kh i1
        clear hL j9 i9 h0 h3 H6 j1 i1 g4 m5 l9 j7 f0
        by_cases hin:[y0,y1,y2,y3,y4,y5,y6]∈Fs
        ·obtain⟨I,hI⟩:∃ I,I=(numb sg).getD q 0:=⟨_,rfl⟩
         have H9:=numb_old (hI.trans b4) hin
         rw[uG hin]at H7
         rw[H9]at b5
         rw[<- hI]at h4
         replace b5:(Instr.lookup 174 (.map (some mb)) (.agg #[.int .i64 (y0:Int),.int .i64 (y1:Int),.int .i64 (y2:Int),.int .i64 (y3:Int),.int .i64 (y4:Int),.int .i64 (y5:Int),.int .i64 (y6:Int)]) true).run Try.prog wr=.ok (.tuple #[.int .i64 (I:Int),.bool true]) wr:=b5
         have H3:=Kh h4;have e8:=Kh H7
         clear h4 H7 b4 hI hin H9
         go_wp2
         go_roundg (n - (q+1))
         case measure=>have:=h7.out;omega
         case rel =>
          refine⟨q+1,c,by have:=h7.out;omega,by go_num,by rw[<- H3.out];exact c7.out.nat_set q (by rw[g2.out];exact hq) I,?_,by rw[e8.out];exact e9.out,n0.out.kept (zC wr ⟨F,q,none⟩ _) (fun e=>by have e:F=g:=Oj e;omega),zA m6.out (zC wr ⟨F,q,none⟩ _) (fun e=>by have e:F=P:=Oj e;omega),zB m1.out (zC wr ⟨F,q,none⟩ _) (fun k e=>by have e:F=k:=Oj e;omega)⟩
          rw[e8.out]
          exact(e4.out.mono (by omega)).kept (zC wr ⟨F,q,none⟩ _) (fun e=>by have e:F=mb:=Oj e;omega)
        ·obtain⟨I,hI⟩:∃ I,I=(numb sg).getD q 0:=⟨_,rfl⟩
         have h8:=numF_no hin
         have l5:=numb_new (hI.trans b4) hin
         rw[wT hin]at H7
         rw[h8]at b5
         rw[<- hI]at h4
         have o8:I=c:=by rw[l5];exact e9.out.symm
         have o5:c < 4611686018427387904:=by omega
         have h9:=numF_new hin
         rw[<- e9.out]at h9
         subst o8
         replace b5:(Instr.lookup 174 (.map (some mb)) (.agg #[.int .i64 (y0:Int),.int .i64 (y1:Int),.int .i64 (y2:Int),.int .i64 (y3:Int),.int .i64 (y4:Int),.int .i64 (y5:Int),.int .i64 (y6:Int)]) true).run Try.prog wr=.ok (.tuple #[.int .i64 0,.bool false]) wr:=b5
         have i6:=e4.out.len gU
         have H3:=Kh h4;have e8:=Kh H7;have j4:=Kh h9;have d9:=Kh h8
         clear h4 H7 b4 hI hin h8 l5 h9
         go_wp2_with (first|(at_mapUpdate;refine kO gU rfl _ _ _ rfl mb q I (numF Fs) [y0,y1,y2,y3,y4,y5,y6] I rfl rfl rfl e4.out (by unfold maxLen;omega) p8.out o5 ?_;intro w5 a0 f7;(have c5:=Kh a0);(have g1:=Kh f7);(have fF5:=(c7.out.kept f7 (fun e=>by have e:mb=F:=Oj e;omega)).frozen q);(have cF5:=(c7.out.kept f7 (fun e=>by have e:mb=F:=Oj e;omega)).nat q (by rw[g2.out];exact hq));clear a0 f7)|fail)
         rw[d9.out]at c5
         replace c5:=c5.out
         have e5:(if (none:Option Nat).isSome=true then I else I+1)=I+1:=rfl
         rw[e5,j4.out]at c5
         have q1:=Kh c5
         clear c5 e5
         go_roundg (n - (q+1))
         case measure=>have:=h7.out;omega
         case rel =>
          have f5:=zC w5 ⟨F,q,none⟩ (.int .i64 (I:Int))
          refine⟨q+1,I+1,by have:=h7.out;omega,by go_num,?_,?_,by rw[e8.out,List.length_append,<- e9.out];rfl,(n0.out.kept g1.out (fun e=>by have e:mb=g:=Oj e;omega)).kept f5 (fun e=>by have e:F=g:=Oj e;omega),zA (zA m6.out g1.out (fun e=>by have e:mb=P:=Oj e;omega)) f5 (fun e=>by have e:F=P:=Oj e;omega),zB (zB m1.out g1.out (fun k e=>by have e:mb=k:=Oj e;omega)) f5 (fun k e=>by have e:F=k:=Oj e;omega)⟩
          ·rw[<- H3.out]
           exact(c7.out.kept g1.out (fun e=>by have e:mb=F:=Oj e;omega)).nat_set q (by rw[g2.out];exact hq) I
          ·rw[e8.out]
           exact q1.out.kept f5 (fun e=>by have e:F=mb:=Oj e;omega)
     ·have b3:q=n:=by have:=h7.out;omega
      have l3:c=cls (yG d k (m+1)):=by
       rw[hc,b3,List.take_of_length_le (by omega),<- j2.out,aZ]
      have i6:=H0.len gU
      have j5:Hid (Arr wr F 3 (nats (yG d k (m+1)))):=Kh (by
       have e:rH (numb sg) q=yG d k (m+1):=by rw[b3,<- j2.out,<- g0.out];exact fillTo_end _
       rw[<- e];exact h0)
      have j6:=Kh l3
      rw[<- l3]at d8 e7
      have o6:c<=n:=by omega
      clear h0 H0 hc d7 b3
      by_cases he:c=C
      ·have q7:=Kh (d8.out he)
       have p9:Hid ((zR d k).length=n):=Kh (by rw[xP,HN.out])
       subst he
       clear d8 e7 j6
       go_wp2
       go_ret
       rw[q7.out]at j5
       exact⟨F,by rw[p9.out];rfl,l6,j5.out,h3⟩
      ·have r9:=e7.out he
       have s7:((c:Int) == (C:Int))=false:=by rw[beq_eq_false_iff_ne];omega
       have x3:=Kh he
       have q4:=Kh h3
       clear d8 e7 he h3
       go_wp2
       go_roundg (n - cls (yG d k (m+1)))
       case measure=>have:=j6.out;have:=q9.out;omega
       case rel=>exact⟨m+1,F,rfl,by have:=j6.out;omega,rfl,rfl,j5.out,l6,by omega,h6,q4.out⟩
end Go.Proofs.Ytjfdomfendbhfaa
