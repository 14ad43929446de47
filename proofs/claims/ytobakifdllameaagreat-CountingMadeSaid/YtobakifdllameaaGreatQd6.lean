/- Part 6 of the proof. -/
import Derived.Test.YtobakifdllameaaGreatQd5
import Derived.DeepKeys4
set_option linter.unusedVariables false
set_option linter.unusedSimpArgs false
set_option maxRecDepth 100000
set_option maxHeartbeats 16000000
namespace Go.Proofs.YtobakifdllameaaGreat
open Go.RowKit
def sJ (n:Nat)(l:List Nat):List Int:=(List.range n).map fun q=>qJ l q
theorem vZ (n:Nat)(l:List Nat):(sJ n l).length=n:=by simp[sJ]
theorem cV {n:Nat}{l:List Nat}{q:Nat}(h:q<n):(sJ n l).getD q 0=qJ l q:=by
 rw[zN (by rw[vZ];exact h)];simp[sJ]
theorem cO (n:Nat):sJ n []=List.replicate n (-1):=by
 refine List.ext_getElem (by simp[sJ]) fun i h1 h2=>by simp[sJ,qJ]
theorem cK {n:Nat}{l:List Nat}{q:Nat}(hq:q ∉ l):(sJ n l).set q (l.length:Int)=sJ n (l++[q]):=by
 refine List.ext_getElem (by simp[sJ]) fun i h1 h2=>?_;rw[List.getElem_set];simp only[sJ,List.getElem_map,List.getElem_range,qJ];by_cases e:q=i
 ·subst e
  rw[if_pos rfl,if_pos (by simp),List.idxOf_append,if_neg hq];simp
 rw[if_neg e];by_cases hi:i∈l
 ·rw[if_pos hi,if_pos (by simp[hi]),List.idxOf_append,if_pos hi]
 rw[if_neg hi,if_neg (by simp[hi,Ne.symm e])]
def iW (n k:Nat):List Int:=List.replicate k (-1)++List.replicate (n-k) 0
theorem pS {n k:Nat}(h:k<=n):(iW n k).length=n:=by simp[iW];omega
theorem qCW {n k:Nat}(h:k<n):(iW n k).set k (-1)=iW n (k+1):=by
 unfold iW;rw[List.set_append_right _ _ (by simp),List.length_replicate,Nat.sub_self,show n-k=(n-(k+1))+1 by omega,List.replicate_succ,List.set_cons_zero,List.replicate_succ',List.append_assoc];rfl
def qTK (w:World)(m:DfaV)(e:Ending)(w':World):Prop:=∃v p,e=.returned (.tuple #[v,p])/\tW w w' v m/\w.grownBy w' none
def mG (d:DfaV)(l:List Nat)(i:Nat):List Bool:=(l.take i).map fun q=>d.final.getD q false
def mF (d:DfaV)(l:List Nat)(i:Nat):List (List Int):=(l.take i).map fun q=>vG l (d.next.getD q [])
theorem qDS {d:DfaV}{l:List Nat}{i:Nat}(h:i<l.length):mG d l (i+1)=mG d l i++[d.final.getD (l.getD i 0) false]:=by
 simp only[mG,yB (d:=0) h,List.map_append,List.map_cons,List.map_nil]
theorem qDQ {d:DfaV}{l:List Nat}{i:Nat}(h:i<l.length):mF d l (i+1)=mF d l i++[vG l (d.next.getD (l.getD i 0) [])]:=by
 simp only[mF,yB (d:=0) h,List.map_append,List.map_cons,List.map_nil]
theorem aB {d:DfaV}{l:List Nat}{i:Nat}(h:i<=l.length):(mG d l i).length=i:=by simp[mG];omega
theorem bZ {d:DfaV}{l:List Nat}{i:Nat}(h:i<=l.length):(mF d l i).length=i:=by simp[mF];omega
theorem qDR {d:DfaV}{n k:Nat}(hd:VD d n k){l:List Nat}{q a:Nat}(hq:q<n)(ha:a<k):(vG l (d.next.getD q [])).getD a 0=qJ l (nx d q a):=by
 rw[vG,xZ (x:=0) (by rw[hd.row q hq];exact ha)];rfl
theorem kL {d:DfaV}{n k:Nat}(hd:VD d n k){l:List Nat}{q:Nat}(hq:q<n):(vG l (d.next.getD q [])).length=k:=by rw[vG,List.length_map,hd.row q hq]
theorem eR (l:List Int)(x:Int):ints (l++[x])=ints l++[.int .i64 x]:=by simp[ints]
theorem qMQ (B:Nat)(w:World)(v:Value)(d:DfaV)(n k:Nat)(hB:B<=w.heap.size)(h:tR B w v d)(hd:VD d n k):Calls Tryz.prog 59 #[v] w (qTK w (wR d k)):=by
 have a4:=h;obtain⟨fb,fo,fc,b,off,cap,RB,RO,RC,rfl,b6⟩:=h.at hd;have hn:=hd.hn;have n7:=hd.n1;have i9:=hd.nbig;have o6:=hd.k6;have o7:=hd.k1;have p1:=b6.fcap.1;have c9:=b6.fcap.2;have p2:=b6.cap.1;have d4:=b6.cap.2;have m0:fc<=9223372036854775807:=by unfold maxLen at c9;omega
 have l9:cap<=9223372036854775807:=by unfold maxLen at d4;omega
 obtain⟨S,hS⟩:=Nm (st0 d);have p9:=Kh hS;have i3:dAgg k (st0 d) fb fo fc b off cap n=.agg #[.int .i64 (k:Int),.int .i64 (S:Int),.slice (some ⟨fb,fo,none⟩) n fc,.slice (some ⟨b,off,none⟩) n cap]:=by rw[hS];rfl
 rw[i3]at a4⊢;obtain⟨d5,e8,c7,i2⟩:=qB w #[.int .i64 (k:Int),.int .i64 (S:Int),.slice (some ⟨fb,fo,none⟩) n fc,.slice (some ⟨b,off,none⟩) n cap] #[.int .i64 0,.int .i64 0,.slice none 0 0,.slice none 0 0] 29;obtain⟨wA,f8⟩:=Nm ((w.alloc (.cells #[.int .i64 (k:Int),.int .i64 (S:Int),.slice (some ⟨fb,fo,none⟩) n fc,.slice (some ⟨b,off,none⟩) n cap] 29)).alloc (.cells #[.int .i64 0,.int .i64 0,.slice none 0 0,.slice none 0 0] 29));rw[<-f8]at d5 e8 c7 i2;obtain⟨c0,c1,c2,c3⟩:=zL d5;obtain⟨P,hP⟩:=Nm w.heap.size;have g5:=Kh hP;rw[<-hP]at d5 e8 c0 c1 c2 c3 i2 hB;obtain⟨f1,n2,m7,m4⟩:=K4 d5 e8 c7 f8;have n3:=Kh (b6.kept c7 (by simp));have HN:=Kh hn;have HD:=Kh hd;have l1:=Kh (qIE B wA _ d n k (by omega) (a4.kept c7 (by simp)) hd);clear d5 e8 c7 f8 b6 hn hd h a4 i3 c9 d4 hS;go_enter Tryz.func59,Tryz.ntmps59;go_upto_region 1 with fail;rw[<-m4.out,<-g5.out];clear hP;go_wp2_with fail;refine l1.out.mono ?_;rintro e w1 ⟨sa,sc,vw,rfl,h9,e7⟩;obtain⟨H5,m2⟩:=wJ HD.out;obtain⟨l,hl⟩:=Nm (yJ d k);have HL:=Kh hl;rw[<-hl]at h9 H5 m2⊢;have H4:=H5.hd.1;obtain⟨gl,rfl,o5,o4,d6⟩:=yZ h9 H4;have o9:=(h9.lt gl rfl).1;obtain⟨i1,b8,b3⟩:=K3 d6 e7 H5;have n5:=e7.size;obtain⟨d0,d1,d2,d3⟩:=zL (zB f1.out e7);clear hl h9 d6 e7 H5 l1 c0 c1 c2 c3;go_wp2_with (first|(at_make;refine qG rfl _ _ _ rfl yH rfl .i64 .i64 _ _ n rfl rfl rfl rfl ?b1 ?b2 ?_;(case b1=>omega);(case b2=>(unfold maxLen;omega));intro w2 h4 j4 f5)|fail);obtain⟨G,hG⟩:=Nm w1.heap.size;rw[<-hG]at h4 f5⊢;obtain⟨l2,k7,g8⟩:=K3 h4 j4 hG;have p5:P+1<G:=by omega
 clear h4 j4 hG d0 d1 d2 d3
 go_loopg [7,27] n (fun gh a7 i wr=>∃q:Nat,gh+q=n/\i=.int .i64 q/\Arr wr G 3 (ints (iW n q))/\w1.grownBy wr none)
 case atStart=>exact⟨0,rfl,rfl,by simpa [iW,rY] using l2.out,k7.out⟩
 clear l2 k7;obtain⟨q,hg,rfl,h4,h5⟩:=hrel;obtain⟨HG,HA,H0⟩:=K3 hg h4 h5;clear hg;by_cases hq:q<n
 ·have l7:(q:Int)<n:=by omega
  have cgk:=h4.int q (by rw[pS (by omega)];exact hq);have fgk:=h4.frozen q;have HS:=Kh (qCW hq);clear h4 h5;go_wp2;go_roundg (n-(q+1))
  case measure=>have:=HG.out;omega
  refine⟨q+1,by omega,by go_num,?_,zC H0.out (zF wr ⟨G,q,none⟩ _) (fun q e=>by have h7:G=q:=Oj e;have:=g8.out;omega)⟩;rw[<-HS.out];exact HA.out.int_set q (by rw[pS (by omega)];exact hq) (-1)
 have i5:q=n:=by have:=HG.out;omega
 have HF:Hid (iW n q=sJ n (l.take 0)):=Kh (by rw[i5,List.take_zero,cO];simp[iW]);rw[HF.out]at HA;have g7:=H0;clear i5 h4 h5 HG;obtain⟨w3,rfl⟩:=Nm (wr:World);go_wp2
 go_loopg [8,9,36] l.length (fun gh a8 a9 i wr=>∃q:Nat,gh+q=l.length/\i=.int .i64 q/\Arr wr G 3 (ints (sJ n (l.take q)))/\w1.grownBy wr none)
 case atStart=>exact⟨0,rfl,rfl,HA.out,H0.out⟩
 clear HA H0 HF;obtain⟨q,hg,rfl,h4,h5⟩:=hrel;obtain⟨HG,HA,H0⟩:=K3 hg h4 h5;clear hg;by_cases hq:q<l.length
 ·have l7:(q:Int)<l.length:=by omega
  have cl:=(i1.out.kept h5 (by simp)).nat q hq;have f3:l.getD q 0<n:=b3.out.lt _ (by rw[zN hq];exact List.getElem_mem _);have e5:l.take (q+1)=l.take q++[l.getD q 0]:=yB hq
  have a0:l.getD q 0 ∉ l.take q:=by
   have h1:=b3.out.nd;have h2:(l.take (q+1)).Nodup:=h1.sublist (List.take_sublist _ _);rw[e5,List.nodup_append]at h2;exact fun hm=>h2.2.2 _ hm _ (by simp) rfl
  obtain⟨s,hs⟩:=Nm (l.getD q 0);rw[<-hs]at cl f3 e5 a0;have l4:(s:Int)<n:=(by omega);have cgk:=h4.int s (by rw[vZ];exact f3);have fgk:=h4.frozen s
  have HS:Hid ((sJ n (l.take q)).set s (q:Int)=sJ n (l.take (q+1))):=Kh (by
   have:=cK (n:=n) a0;rw[List.length_take,Nat.min_eq_left (by omega)]at this
   rw[this,e5])
  clear h4 h5 e5 a0 hs;go_wp2;go_roundg (l.length-(q+1))
  case measure=>have:=HG.out;omega
  refine⟨q+1,by omega,by go_num,?_,zC H0.out (zF wr ⟨G,s,none⟩ _) (fun q e=>by have h7:G=q:=Oj e;have:=g8.out;omega)⟩;rw[<-HS.out];exact HA.out.int_set s (by rw[vZ];exact f3) (q:Int)
 have i6:q=l.length:=by have:=HG.out;omega
 have i8:l.take q=l:=by rw[i6];exact List.take_length
 rw[i8]at HA h4;have k2:=Kh h4;have h8:=Kh h5;clear i6 i8 h4 HA HG h5 g7;obtain⟨w4,rfl⟩:=Nm (wr:World);obtain⟨d0,d1,d2,d3⟩:=zL (zB (zB f1.out b8.out) h8.out);go_upto_region 14 with fail;obtain⟨O,hO⟩:=Nm w4.heap.size;obtain⟨w6,e4⟩:=Nm (w4.alloc (.cells #[.int .i64 (k:Int),.int .i64 0,.slice none 0 0,.slice none 0 0] 29));rw[<-e4,<-hO];have a2:w4.grownBy w6 none:=(by rw[e4];exact Ga w4 _ none);have j6:w6.heap[O]?=some (.cells #[.int .i64 (k:Int),.int .i64 0,.slice none 0 0,.slice none 0 0] 29 (0,0)):=by rw[e4,hO];exact heap_alloc_new w4 _
 have k0:Built O w6 O k 0 [] [] [] none 0 none 0:=⟨j6,World.ownsRow_nil _ _ _ _,World.ownsRow_nil _ _ _ _,tP.nil,rfl⟩;obtain⟨k9,e0,d8⟩:=K3 k0 a2 hO;have p6:G<O:=(by rw[hO];have:=k2.out.lt;omega);have p4:P+1<O:=(by omega);have l3:=a2.size;clear d0 d1 d2 d3 j6 k0 a2 e4 hO;go_wp2
 go_loopg [51] l.length (fun gh i wr=>∃(i':Nat) (hs:List Value) (sf:Option Addr) (cf:Nat) (sn:Option Addr) (cn:Nat),gh+i'=l.length/\i=.int .i64 i'/\Built O wr O k 0 (mG d l i') (mF d l i') hs sf cf sn cn/\w4.grownBy wr (some O))
 case atStart=>exact⟨0,[],none,0,none,0,rfl,rfl,k9.out,xY e0.out⟩
 clear k9 e0;obtain⟨i,hs,sf,cf,sn,cn,hg,rfl,a6,h5⟩:=hrel;obtain⟨k5,e1,H0⟩:=K3 hg a6 h5;have n4:=h5.size;clear hg;by_cases hi:i<l.length
 ·have o8:(i:Int)<l.length:=by omega
  have b7:O≠P:=(by omega);have f6:O≠gl:=(by have:=i1.out.lt;have:=g8.out;omega);have c6:∀x,Hid (x<w4.heap.size->x≠O):=fun x=>Kh (fun h e=>by have:=d8.out;omega);have cl:=((i1.out.kept h8.out (by simp)).kept h5 (fun e=>f6 (Oj e))).nat i hi;have H3:l.getD i 0<n:=b3.out.lt _ (by rw[zN hi];exact List.getElem_mem _);have f0:=Kh (qDS (d:=d) hi);have f9:=Kh (qDQ (d:=d) hi);have a3:=aB (d:=d) (Nat.le_of_lt hi);have H7:=bZ (d:=d) (Nat.le_of_lt hi);obtain⟨q0,i7⟩:=Nm (l.getD i 0);rw[<-i7]at cl H3 f0 f9;have l6:(q0:Int)<n:=(by omega);have p7:B<=O:=by omega
  have hA:=((n3.out.kept b8.out (by simp)).kept h8.out (by simp)).kept h5 (fun k e=>by have:=Oj e;omega);have ch:=hA.hd q0 H3;obtain⟨d0,d1,d2,d3⟩:=zL (zB (zB (zB f1.out b8.out) h8.out) h5 (fun e=>b7 (Oj e)));obtain⟨wo,rfl⟩:=Nm (wr:World);have i0:=Kh hA;clear hA a6 h5 i7;go_wp2
  go_loopg [13,61] k (fun gh ov i wr=>∃(a:Nat) (sr:Option Addr) (cr:Nat),gh+a=k/\i=.int .i64 a/\ov=.slice sr a cr/\wr.ownsRow wo.heap.size 3 1 (.slice sr a cr) a (ints ((vG l (d.next.getD q0 [])).take a))/\wo.grownBy wr none)
  case atStart=>exact⟨0,none,0,rfl,rfl,rfl,by simpa [ints] using World.ownsRow_nil _ _ _ _,zU _ _⟩
  obtain⟨a,sr,cr,hg,rfl,rfl,c4,h5⟩:=hrel;obtain⟨k4,H6,g6⟩:=K3 hg c4 h5;clear hg c4 d0 d1 d2 d3;by_cases ha:a<k
  ·have p3:(a:Int)<k:=by omega
   have hA:=i0.out.kept h5 (by simp);have ce:=hA.el q0 a H3 ha;have n6:=(hA.rcap q0 H3).1;have f4:=pB HD.out H3 ha;have cp:=(((k2.out.kept H0.out (fun e=>by have:=Oj e;omega)).kept h5 (by simp))).int (nx d q0 a) (by rw[vZ];exact f4);rw[cV f4]at cp
   have g1:Hid ((vG l (d.next.getD q0 [])).take (a+1)=(vG l (d.next.getD q0 [])).take a++[qJ l (nx d q0 a)]):=Kh (by
    rw[yB (d:=0) (by rw[kL HD.out H3];exact ha),qDR HD.out H3 ha])
   obtain⟨s,hs⟩:=Nm (nx d q0 a);rw[<-hs]at ce f4 cp g1;obtain⟨c,hc⟩:=Nm (qJ l s);rw[<-hc]at cp g1;have e6:=h5.size;have l8:(s:Int)<n:=(by omega);clear hA hs hc h5;go_wp2_with (first|(at_builtin;refine app1 rfl _ _ _ rfl yH wo.heap.size _ a (ints ((vG l (d.next.getD q0 [])).take a)) rfl H6.out _ rfl rfl ?c1 ?c2 ?c3 ?_)|fail)
   case c1=>unfold maxLen;omega
   case c2=>omega
   case c3=>exact e6
   intro sa' sc' w6 H8 j3 m1;have m6:=Kh H8;have m9:=Kh j3;clear H8 j3;go_wp2;go_roundg (k-(a+1))
   case measure=>have:=k4.out;omega
   refine⟨a+1,sa',sc',by omega,by go_num,rfl,?_,zC g6.out m9.out (fun q e=>(H6.out.lt q e).1)⟩;rw[g1.out,eR];exact m6.out
  have j7:a=k:=by have:=k4.out;omega
  have i4:(vG l (d.next.getD q0 [])).take a=vG l (d.next.getD q0 []):=by rw[j7,<-kL HD.out (l:=l) H3];exact List.take_length
  rw[i4]at H6;obtain⟨w5,f2⟩:=Nm wr.drew;have m5:=Kh f2;have a1:wr.grownBy w5 none:=(by rw[f2];exact zS wr none);have b0:=Kh ((e1.out.grow h5).grow a1);have g2:Hid (RowT w5.heap.size 3 w5 (.slice sr a cr) (ints (vG l (d.next.getD q0 [])))):=Kh (RowT.of_owns (wK H6.out a1 (by simp)));have n0:=Kh (zG H0.out (xY (zG h5 a1) (row:=some O)));have j9:=b0.out.box;have H1:=Kh j9;have k3:=Kh b0.out.notbox;have b4:O<=w5.heap.size:=by have:=h5.size;have:=a1.size;have:=d8.out;omega
  have cq:=(((i0.out.kept h5 (by simp)).kept a1 (by simp))).fin H3;obtain⟨_,_,d2,_⟩:=zL (zB (zB (zB (zB (zB f1.out b8.out) h8.out) H0.out (fun e=>b7 (Oj e))) h5) a1);have p0:=i0.out.flt;have m3:O≠fb:=(by omega);obtain⟨bq,j5⟩:=Nm (d.final.getD q0 false);rw[<-j5]at cq f0;obtain⟨fsl,c8⟩:=Nm (mG d l i);obtain⟨tsl,b9⟩:=Nm (mF d l i);rw[<-c8]at b0 H1 f0 a3;rw[<-b9]at b0 H1 f9 H7;have q4:=Kh a3;have p8:=Kh H7;obtain⟨m,hm⟩:=Nm i;rw[<-hm]at a3 H7;have g0:=Kh H7;have j8:=b0.out.many
  have hM:Many w5 (FB sf sn) w5 [⟨O,22,.slice sn m cn,m,hs,1⟩,⟨O,4,.slice sf m cf,m,bls fsl,1⟩] [] []:=by
   have h1:=j8;simp only[rN,rF,a3,H7]at h1;exact h1
  have l0:Hid (∀W:World,(W.cell? ⟨P,2,none⟩=some (.slice (some ⟨fb,fo,none⟩) n fc)/\W.cell? ⟨fb,fo+q0,none⟩=some (.bool bq))->∀(c:Nat) (X:Value),(W.setCell ⟨O,c,none⟩ X).cell? ⟨P,2,none⟩=some (.slice (some ⟨fb,fo,none⟩) n fc)/\(W.setCell ⟨O,c,none⟩ X).cell? ⟨fb,fo+q0,none⟩=some (.bool bq)):=Kh (fun W h c X =>
   ⟨by rw[World.cell?_setCell_far W ⟨O,c,none⟩ ⟨P,2,none⟩ X b7];exact h.1,by rw[World.cell?_setCell_far W ⟨O,c,none⟩ ⟨fb,fo+q0,none⟩ X m3];exact h.2⟩)
  have h0:Hid (∀W rs ls,Many w5 (FB sf sn) W rs ls []->(W.cell? ⟨P,2,none⟩=some (.slice (some ⟨fb,fo,none⟩) n fc)/\W.cell? ⟨fb,fo+q0,none⟩=some (.bool bq))/\(W.cell? ⟨O,3,none⟩=some (.slice sn m cn)/\W.cell? ⟨O,2,none⟩=some (.slice sf m cf))):=Kh (fun W rs ls h=>by
   have j2:=b0.out.ge;have hb:=h.but.heap H1.out k3.out;rw[a3,H7]at hb;obtain⟨_,_,e2,e3⟩:=zL hb
   exact⟨⟨h.but.cell d2 (fun hf=>by have:=j2 _ hf;simp only at this;omega),h.but.cell cq (fun hf=>by have:=j2 _ hf;simp only at this;omega)⟩,e3,e2⟩)
  rw[a3,H7]at H1;have n8:Hid (m=i):=Kh hm;have n9:m<=4194304:=by omega
  clear j8 j9 i4 j7 f2 a1 h5 j5 c8 b9 hm a3 H7 cl ch c6 d2 cq;go_upto_region 23 with fail;refine wp_region_noPanic ?_;refine yM (G:=wH 15 (fun W=>W.cell? ⟨P,2,none⟩=some (.slice (some ⟨fb,fo,none⟩) n fc)/\W.cell? ⟨fb,fo+q0,none⟩=some (.bool bq)) (fun W=>W.cell? ⟨O,3,none⟩=some (.slice sn m cn)/\W.cell? ⟨O,2,none⟩=some (.slice sf m cf))) (by kernel_rfl) ?_;rw[<-m5.out];refine zO 0 ⟨(h0.out _ _ _ hM).1,fun _=>(h0.out _ _ _ hM).2⟩ ?_;refine yY 1 ⟨(h0.out _ _ _ hM).1,fun _=>(h0.out _ _ _ hM).2⟩ ?_;refine zO 2 ⟨(h0.out _ _ _ hM).1,fun _=>(h0.out _ _ _ hM).2⟩ ?_;refine zO 5 ⟨(h0.out _ _ _ hM).1,fun _=>(h0.out _ _ _ hM).2⟩ ?_;refine yY 6 ⟨(h0.out _ _ _ hM).1,fun _=>(h0.out _ _ _ hM).2⟩ ?_;refine zO 7 ⟨(h0.out _ _ _ hM).1,fun _=>(h0.out _ _ _ hM).2⟩ ?_;refine zO 8 ⟨(h0.out _ _ _ hM).1,fun _=>(h0.out _ _ _ hM).2⟩ ?_;refine zO 9 ⟨(h0.out _ _ _ hM).1,fun _=>(h0.out _ _ _ hM).2⟩ ?_;refine zO 10 ⟨(h0.out _ _ _ hM).1,fun _=>(h0.out _ _ _ hM).2⟩ ?_;refine zO 11 ⟨(h0.out _ _ _ hM).1,fun _=>(h0.out _ _ _ hM).2⟩ ?_;refine twoG (i:=3) (j:=12) (by kernel_rfl) rfl rfl (fun K hK=>?_) (fun K hK=>?_);go_simp;refine hK.out _ _ ⟨(h0.out _ _ _ (hM.alloc _)).1,fun _=>(h0.out _ _ _ (hM.alloc _)).2⟩ ?_;clear hK K
  try simp only[Act.put,sPa,sPb,sPc]
  refine twoG (i:=4) (j:=12) (by kernel_rfl) rfl rfl (fun K hK=>?_) (fun K hK=>?_);refine wO rfl (.tmp 74) (.tmp 76) 27 rfl wG 0 _ _ rfl ⟨_,_,_,_,_,(hM.alloc _),_,rfl,rfl,rfl,rfl,?g3,?g4,b4,_,_,_,List.Mem.head _,(by first|rfl|simp),rfl,?_⟩
  case g3=>(simp only[];unfold maxLen;omega)
  case g4=>(simp only[];omega)
  intro sa1 sc1 w1x h6;have H4:=h6.litcell (List.Mem.head _)
  try simp only[zW]at H4
  refine hK.out _ _ ⟨(h0.out _ _ _ h6).1,fun _=>(h0.out _ _ _ h6).2⟩ ?_;clear hK K
  try simp only[Act.put,sPa,sPb,sPc]
  refine zO 14 ⟨(h0.out _ _ _ h6).1,fun _=>(h0.out _ _ _ h6).2⟩ ?_;refine oneG (i:=12) (by kernel_rfl) rfl (fun K hK=>?_);go_simp;refine hK.out _ _ ⟨(h0.out _ _ _ (h6.alloc _)).1,fun _=>(h0.out _ _ _ (h6.alloc _)).2⟩ ?_;clear hK K
  try simp only[Act.put,sPa,sPb,sPc]
  rotate_left;go_simp;refine hK.out _ _ ⟨(h0.out _ _ _ ((hM.alloc _).alloc _)).1,fun _=>(h0.out _ _ _ ((hM.alloc _).alloc _)).2⟩ ?_;clear hK K
  try simp only[Act.put,sPa,sPb,sPc]
  refine oneG (i:=4) (by kernel_rfl) rfl (fun K hK=>?_);refine wO rfl (.tmp 74) (.tmp 76) 27 rfl wG 0 _ _ rfl ⟨_,_,_,_,_,((hM.alloc _).alloc _),_,rfl,rfl,rfl,rfl,?g3,?g4,b4,_,_,_,List.Mem.tail _ (List.Mem.head _),(by first|rfl|simp),rfl,?_⟩
  case g3=>(simp only[];unfold maxLen;omega)
  case g4=>(simp only[];omega)
  intro sa1 sc1 w1x h6;have H4:=h6.litcell (List.Mem.head _)
  try simp only[zW]at H4
  have c5:=h6.litcell (List.Mem.tail _ (List.Mem.head _))
  try simp only[zW]at c5
  refine hK.out _ _ ⟨(h0.out _ _ _ h6).1,fun _=>(h0.out _ _ _ h6).2⟩ ?_;clear hK K
  try simp only[Act.put,sPa,sPb,sPc]
  refine zO 14 ⟨(h0.out _ _ _ h6).1,fun _=>(h0.out _ _ _ h6).2⟩ ?_;rotate_left;go_simp;refine hK.out _ _ ⟨(h0.out _ _ _ (hM.alloc _)).1,fun _=>(h0.out _ _ _ (hM.alloc _)).2⟩ ?_;clear hK K
  try simp only[Act.put,sPa,sPb,sPc]
  refine oneG (i:=3) (by kernel_rfl) rfl (fun K hK=>?_);go_simp;refine hK.out _ _ ⟨(h0.out _ _ _ ((hM.alloc _).alloc _)).1,fun _=>(h0.out _ _ _ ((hM.alloc _).alloc _)).2⟩ ?_;clear hK K
  try simp only[Act.put,sPa,sPb,sPc]
  refine oneG (i:=4) (by kernel_rfl) rfl (fun K hK=>?_);refine wO rfl (.tmp 74) (.tmp 76) 27 rfl wG 0 _ _ rfl ⟨_,_,_,_,_,((hM.alloc _).alloc _),_,rfl,rfl,rfl,rfl,?g3,?g4,b4,_,_,_,List.Mem.head _,(by first|rfl|simp),rfl,?_⟩
  case g3=>(simp only[];unfold maxLen;omega)
  case g4=>(simp only[];omega)
  intro sa1 sc1 w1x h6;have H4:=h6.litcell (List.Mem.head _)
  try simp only[zW]at H4
  have c5:=h6.litcell (List.Mem.tail _ (List.Mem.head _))
  try simp only[zW]at c5
  refine hK.out _ _ ⟨(h0.out _ _ _ h6).1,fun _=>(h0.out _ _ _ h6).2⟩ ?_;clear hK K
  try simp only[Act.put,sPa,sPb,sPc]
  refine zO 14 ⟨(h0.out _ _ _ h6).1,fun _=>(h0.out _ _ _ h6).2⟩ ?_
  all_goals
   refine oneG (i:=13) (by kernel_rfl) rfl (fun K hK=>?_)
   first
   | refine wO rfl (.tmp 79) (.tmp 85) 26 rfl wF 1 _ _ rfl ⟨_,_,_,_,_,(h6.alloc _),_,rfl,rfl,rfl,rfl,?g3,?g4,b4,_,_,_,List.Mem.head _,(by first|rfl|simp),rfl,?_⟩
   | refine wO rfl (.tmp 79) (.tmp 85) 26 rfl wF 1 _ _ rfl ⟨_,_,_,_,_,h6,_,rfl,rfl,rfl,rfl,?g3,?g4,b4,_,_,_,List.Mem.head _,(by first|rfl|simp),rfl,?_⟩
   | refine wO rfl (.tmp 79) (.tmp 85) 26 rfl wF 1 _ _ rfl ⟨_,_,_,_,_,h6,_,rfl,rfl,rfl,rfl,?g3,?g4,b4,_,_,_,List.Mem.tail _ (List.Mem.head _),(by first|rfl|simp),rfl,?_⟩
   case g3=>(simp only[];unfold maxLen;omega)
   case g4=>(simp only[];omega)
   intro sa2 sc2 w2x H9;have H4:=H9.litcell (List.Mem.head _)
   try simp only[zW]at H4
   have c5:=H9.litcell (List.Mem.tail _ (List.Mem.head _))
   try simp only[zW]at c5
   refine hK.out _ _ ⟨(h0.out _ _ _ H9).1,fun _=>(h0.out _ _ _ H9).2⟩ ?_;clear hK K
   try simp only[Act.put,sPa,sPb,sPc]
   refine oneG (i:=15) (by kernel_rfl) rfl (fun K hK=>?_);have b5:=H9.but.heap H1.out k3.out;have cb3:=zH b5 3;have cb2:=zH b5 2;have fb3:=zA b5 3;have fb2:=zA b5 2;simp only[List.getElem_toArray,List.getElem_cons_zero,List.getElem_cons_succ]at cb3 cb2;go_simp;have a5:=heap_setCell_same _ O 3 _ _ (.slice sa1 (m+1) sc1) b5;have cb22:=zH a5 2;have fb22:=zA a5 2;simp at cb22;have e9:=l0.out _ (h0.out _ _ _ H9).1 3 (.slice sa1 (m+1) sc1);refine hK.out _ _ ⟨e9,fun h=>by simp at h⟩ ?_;clear hK K
   try simp only[Act.put,sPa,sPb,sPc]
   refine zO 16 ⟨e9,fun h=>by simp at h⟩ ?_;refine oneG (i:=17) (by kernel_rfl) rfl (fun K hK=>?_);go_simp;have d7:=l0.out _ e9 2 (.slice sa2 (m+1) sc2);refine hK.out _ _ ⟨d7,fun h=>by simp at h⟩ ?_;clear hK K
   try simp only[Act.put,sPa,sPb,sPc]
   refine tT (by kernel_rfl) ?_ _;refine NoPanic.normal ?_;obtain⟨a6,j1⟩:=b0.out.push (b:=bq) (row:=vG l (d.next.getD q0 [])) g0.out H9 g2.out rfl;have g9:=Kh a6;have m8:=Kh (j1 w4 n0.out (by have:=d8.out;omega));clear a6 j1 cb3 cb2 fb3 fb2 b5 a5 cb22 fb22 e9 d7 H9
   (try clear h6)
   go_wp2;go_roundg (l.length-(i+1))
   case measure=>have:=k5.out;omega
   exact⟨i+1,_,_,_,_,_,by omega,by go_num,g9.out.congr f0.out f9.out,m8.out⟩
 have j0:i=l.length:=by have:=k5.out;omega
 have k8:Hid (mG d l i=(wR d k).final/\mF d l i=(wR d k).next):=Kh (by
  rw[j0];simp only[mG,mF,List.take_length];rw[HL.out]
  exact⟨rfl,rfl⟩)
 have b7:O≠P+1:=(by omega);have H2:=zB (zB (zB n2.out b8.out) h8.out) h5 (fun e=>b7 (Oj e));have r0:=zH H2 0;have r1:=zH H2 1;have r2:=zH H2 2;have r3:=zH H2 3;have q0:=zA H2 0;have q1:=zA H2 1;have q2:=zA H2 2;have q3:=zA H2 3;simp only[List.getElem_toArray,List.getElem_cons_zero,List.getElem_cons_succ]at r0 r1 r2 r3;have d9:=Kh H2;obtain⟨o0,o1,o2,o3⟩:=zL a6.box;clear a6 h5 H2 j0;go_wp2;refine bodyPost_ret (v:=.tuple #[.agg #[.int .i64 (k:Int),.int .i64 0,.slice sf (mG d l i).length cf,.slice sn (mF d l i).length cn],.slice (some ⟨G,0,none⟩) n n]) (by simp[results,Tryz.results59,go_sem,r0,r1,r2,r3]) rfl ?_;obtain⟨l5,e6⟩:=uF d9.out (.int .i64 (k:Int)) (.int .i64 0) (.slice sf (mG d l i).length cf) (.slice sn (mF d l i).length cn);have f7:=e1.out.far e6 d9.out (fun e=>b7 e.symm);refine⟨_,_,rfl,?_,?_⟩
 ·have he:wR d k=⟨(k:Int),0,mG d l i,mF d l i⟩:=by
   rw[k8.out.1,k8.out.2];have:=HD.out.hk;simp only[wR,this]
  rw[he];exact⟨O,hs,sf,cf,sn,cn,rfl,by have h1:=h8.out.size;have h2:=d8.out;have h3:=g5.out;omega,f7⟩
 refine zC (zG m7.out (zG b8.out (zG h8.out (zC (zU _ _) H0.out (fun x e=>by have:=Oj e;have:=d8.out;omega))))) e6 (fun x e=>by have:=Oj e;have:=g5.out;omega)
def qSE (w:World)(d:DfaV)(n k:Nat)(e:Ending)(w':World):Prop :=
 ∃v G,e=.returned (.tuple #[v,.slice (some ⟨G,0,none⟩) n n])/\tW w w' v (wR d k)/\w.heap.size<=G/\Arr w' G 3 (ints (sJ n (yJ d k)))/\w.grownBy w' none
theorem qBO (B:Nat)(w:World)(v:Value)(d:DfaV)(n k:Nat)(hB:B<=w.heap.size)(h:tR B w v d)(hd:VD d n k)(h5:n<=512):Calls Tryz.prog 103 #[v] w (qSE w d n k):=by
 have H0:=h;obtain⟨fb,fo,fc,b,off,cap,RB,RO,RC,rfl,H5⟩:=h.at hd;have hn:=hd.hn;have j8:=hd.n1;have k2:=hd.k6;have k3:=hd.k1;have k4:=H5.fcap.1;have H8:=H5.fcap.2;have k5:=H5.cap.1;have H9:=H5.cap.2;have f9:fc<=9223372036854775807:=by unfold maxLen at H8;omega
 have f8:cap<=9223372036854775807:=by unfold maxLen at H9;omega
 obtain⟨S,hS⟩:=Nm (st0 d);have g9:=Kh hS;have d6:dAgg k (st0 d) fb fo fc b off cap n=.agg #[.int .i64 (k:Int),.int .i64 (S:Int),.slice (some ⟨fb,fo,none⟩) n fc,.slice (some ⟨b,off,none⟩) n cap]:=by rw[hS];rfl
 rw[d6]at H0⊢;obtain⟨a1,b4,H6,d4⟩:=qB w #[.int .i64 (k:Int),.int .i64 (S:Int),.slice (some ⟨fb,fo,none⟩) n fc,.slice (some ⟨b,off,none⟩) n cap] #[.int .i64 0,.int .i64 0,.slice none 0 0,.slice none 0 0] 29;obtain⟨wA,c4⟩:=Nm ((w.alloc (.cells #[.int .i64 (k:Int),.int .i64 (S:Int),.slice (some ⟨fb,fo,none⟩) n fc,.slice (some ⟨b,off,none⟩) n cap] 29)).alloc (.cells #[.int .i64 0,.int .i64 0,.slice none 0 0,.slice none 0 0] 29));rw[<-c4]at a1 b4 H6 d4;obtain⟨c0,c1,c2,c3⟩:=zL a1;obtain⟨P,hP⟩:=Nm w.heap.size;obtain⟨Q,hQ⟩:=Nm (w.heap.size+1);have i2:=Kh hP;have i0:Hid (Q=P+1):=Kh (by omega);have l2:P<Q:=by omega
 have k8:Q<wA.heap.size:=by omega
 have l1:w.heap.size<=P:=by omega
 have g4:B<=wA.heap.size:=by omega
 rw[<-hQ]at b4;rw[<-hP]at a1 c0 c1 c2 c3 hB;obtain⟨j2,j1,i6,g5⟩:=K4 a1 b4 H6 c4;have j3:=Kh (H5.kept H6 (by simp));have HN:=Kh hn;have HD:=Kh hd;have e7:=Kh (qM B wA _ d g4 (H0.kept H6 (by simp)));have g7:=Kh (jL hd h5);clear a1 b4 H6 c4 H5 hn hd h H0 d6 H8 H9 hS d4 hP hQ;go_enter Tryz.func103,Tryz.ntmps103;go_upto_region 1 with fail;rw[<-g5.out,<-i2.out,<-i0.out];go_wp2_with fail;refine e7.out.mono ?_;rintro e w1 ⟨rfl,H4⟩;rw[g7.out];have j7:=H4.size;have i7:=Kh H4;have H3:=Kh (zB j2.out H4);have c9:=Kh (zB j1.out H4);have e9:=Kh (qEP B w1 P d n k S fb fo fc b off cap RB RO RC g9.out h5 ⟨H3.out,j3.out.kept H4 (by simp)⟩);obtain⟨d0,d1,d2,d3⟩:=zL H3.out;clear H4 e7 c0 c1 c2 c3;go_wp2_with fail;refine e9.out.mono ?_;rintro e w2 ⟨v2,sa,sc,rfl,⟨o,hs,sf,cf,sn,cn,rfl,ho,H1⟩,h3,b9⟩;clear e9 d0 d1 d2 d3;obtain⟨h6,g0⟩:=wJ HD.out;obtain⟨l,hl⟩:=Nm (yJ d k);have HL:=Kh hl;rw[<-hl]at h3 h6 g0⊢;have g1:=h6.hd.1;obtain⟨gl,rfl,k0,j9,a2⟩:=yZ h3 g1;obtain⟨m,hm⟩:=Nm (wR d k);rw[<-hm]at H1;have HM:=Kh hm;have a6:(wR d k).start=0:=rfl;have b0:(wR d k).letters=k:=HD.out.hk;rw[<-hm]at a6 b0;rw[<-hm,a6,b0];obtain⟨j4,c8,a4,i9,i4,i5⟩:=K6 a2 b9 h6 H1 a6 b0;have j6:=b9.size;obtain⟨FL,c6⟩:=Nm m.final.length;obtain⟨NL,c5⟩:=Nm m.next.length;rw[<-c6,<-c5];have i8:=Kh c6;have i3:=Kh c5;clear hl h3 a2 b9 h6 hm a6 b0 H1 c6 c5;obtain⟨w3,b6⟩:=Nm (w2.alloc (.cells #[.int .i64 (k:Int),.int .i64 0,.slice sf FL cf,.slice sn NL cn] 29));obtain⟨T,hT⟩:=Nm w2.heap.size;have H7:=Ga w2 (.cells #[.int .i64 (k:Int),.int .i64 0,.slice sf FL cf,.slice sn NL cn] 29) none;have a0:=heap_alloc_new w2 (.cells #[.int .i64 (k:Int),.int .i64 0,.slice sf FL cf,.slice sn NL cn] 29);rw[<-b6]at H7 a0;rw[<-hT]at a0;obtain⟨b5,j0,g6,g8⟩:=K4 H7 a0 b6 hT;have j5:=H7.size;have k7:=zR a0;have k9:Q<T:=by omega
 have l0:P+1<w3.heap.size:=by omega
 obtain⟨d0,d1,d2,d3⟩:=zL (zB (zB H3.out c8.out) H7);clear H7 a0 b6 hT;go_upto_region 4 with fail;rw[<-g6.out,<-g8.out];go_wp2_with (first|(at_make;refine qG rfl _ _ _ rfl yH rfl .i64 .i64 _ _ n rfl rfl rfl rfl ?b1 ?b2 ?_;(case b1=>omega);(case b2=>(unfold maxLen;omega));intro w4 h0 e5 b8)|fail);obtain⟨G,hG⟩:=Nm w3.heap.size;rw[<-hG]at h0 b8⊢;obtain⟨f5,e8,c7⟩:=K3 h0 e5 hG;have l3:T<G:=by omega
 clear h0 e5 hG d0 d1 d2 d3
 go_loopg [8,32] n (fun gh a7 i wr=>∃q:Nat,gh+q=n/\i=.int .i64 q/\Arr wr G 3 (ints (iW n q))/\w3.grownBy wr none)
 case atStart=>exact⟨0,rfl,rfl,by simpa [iW,rY] using f5.out,e8.out⟩
 clear f5 e8;obtain⟨q,hg,rfl,h0,h4⟩:=hrel;obtain⟨HG,HA,a3⟩:=K3 hg h0 h4;clear hg;by_cases hq:q<n
 ·have f7:(q:Int)<n:=by omega
  have cgk:=h0.int q (by rw[pS (by omega)];exact hq);have fgk:=h0.frozen q;have HS:=Kh (qCW hq);clear h0 h4;go_wp2;go_roundg (n-(q+1))
  case measure=>have:=HG.out;omega
  refine⟨q+1,by omega,by go_num,?_,zC a3.out (zF wr ⟨G,q,none⟩ _) (fun q e=>by have h7:G=q:=Oj e;have:=c7.out;omega)⟩;rw[<-HS.out];exact HA.out.int_set q (by rw[pS (by omega)];exact hq) (-1)
 have d7:q=n:=by have:=HG.out;omega
 have HF:Hid (iW n q=sJ n (l.take 0)):=Kh (by rw[d7,List.take_zero,cO];simp[iW]);rw[HF.out]at HA;clear d7 h0 h4 HG;obtain⟨w5,rfl⟩:=Nm (wr:World);go_wp2
 go_loopg [9,10,41] l.length (fun gh a8 a9 i wr=>∃q:Nat,gh+q=l.length/\i=.int .i64 q/\Arr wr G 3 (ints (sJ n (l.take q)))/\w3.grownBy wr none)
 case atStart=>exact⟨0,rfl,rfl,HA.out,a3.out⟩
 clear HA a3 HF;obtain⟨q,hg,rfl,h0,h4⟩:=hrel;obtain⟨HG,HA,a3⟩:=K3 hg h0 h4;clear hg;by_cases hq:q<l.length
 ·have f7:(q:Int)<l.length:=by omega
  have cl:=((j4.out.kept b5.out (by simp)).kept h4 (by simp)).nat q hq;have b7:l.getD q 0<n:=a4.out.lt _ (by rw[zN hq];exact List.getElem_mem _);have a5:l.take (q+1)=l.take q++[l.getD q 0]:=yB hq
  have h9:l.getD q 0 ∉ l.take q:=by
   have h1:=a4.out.nd;have h2:(l.take (q+1)).Nodup:=h1.sublist (List.take_sublist _ _);rw[a5,List.nodup_append]at h2;exact fun hm=>h2.2.2 _ hm _ (by simp) rfl
  obtain⟨s,hs⟩:=Nm (l.getD q 0);rw[<-hs]at cl b7 a5 h9;have f6:(s:Int)<n:=(by omega);have cgk:=h0.int s (by rw[vZ];exact b7);have fgk:=h0.frozen s
  have HS:Hid ((sJ n (l.take q)).set s (q:Int)=sJ n (l.take (q+1))):=Kh (by
   have:=cK (n:=n) h9;rw[List.length_take,Nat.min_eq_left (by omega)]at this
   rw[this,a5])
  clear h0 h4 a5 h9 hs;go_wp2;go_roundg (l.length-(q+1))
  case measure=>have:=HG.out;omega
  refine⟨q+1,by omega,by go_num,?_,zC a3.out (zF wr ⟨G,s,none⟩ _) (fun q e=>by have h7:G=q:=Oj e;have:=c7.out;omega)⟩;rw[<-HS.out];exact HA.out.int_set s (by rw[vZ];exact b7) (q:Int)
 have d8:q=l.length:=by have:=HG.out;omega
 have d9:l.take q=l:=by rw[d8];exact List.take_length
 rw[d9]at HA h0;have i1:=Kh h0;have h8:=Kh h4;clear d8 d9 h0 HA HG h4;obtain⟨e0,e1,e2,e3⟩:=zL (zB j0.out h8.out);have H2:=zB (zB (zB c9.out c8.out) b5.out) h8.out;obtain⟨q0,q1,q2,q3⟩:=zL H2;have f0:=zA H2 0;have f1:=zA H2 1;have f2:=zA H2 2;have f3:=zA H2 3;have f4:=Kh H2;clear H2;go_wp2;obtain⟨e6,b3⟩:=uF f4.out (.int .i64 (k:Int)) (.int .i64 0) (.slice sf FL cf) (.slice sn NL cn);obtain⟨wz,d5⟩:=Nm ((((wr.setCell ⟨Q,0,none⟩ (.int .i64 (k:Int))).setCell ⟨Q,1,none⟩ (.int .i64 0)).setCell ⟨Q,2,none⟩ (.slice sf FL cf)).setCell ⟨Q,3,none⟩ (.slice sn NL cn));rw[<-d5]at e6 b3⊢;clear d5;obtain⟨r0,r1,r2,r3⟩:=zL e6;clear e0 e1 e2 e3 q0 q1 q2 q3 f0 f1 f2 f3;refine bodyPost_ret (v:=.tuple #[.agg #[.int .i64 (k:Int),.int .i64 0,.slice sf FL cf,.slice sn NL cn],.slice (some ⟨G,0,none⟩) n n]) (by simp[results,Tryz.results103,go_sem,r0,r1,r2,r3]) rfl ?_;have g2:w.grownBy wz none:=zC (zC (zC (zC (zC i6.out i7.out) c8.out) b5.out) h8.out) b3 (fun k e=>by have h7:Q=k:=Oj e;omega);have g3:=((i9.out.grow b5.out).grow h8.out).far b3 f4.out (by omega);have e4:wR d k=m:=HM.out.symm;refine⟨_,G,rfl,⟨o,hs,sf,cf,sn,cn,?_,by omega,by rw[e4];exact g3⟩,by have:=c7.out;omega,?_,g2⟩
 ·rw[e4,i4.out,i5.out,i8.out,i3.out]
 rw[<-HL.out];exact i1.out.kept b3 (fun e=>by have h7:Q=G:=Oj e;omega)
open Go.Maps
structure KeyK {α:Type}(mt kt:TypeId)(V:α->Prop)(kv:α->Value):Prop where
 key:Keyed Tryz.prog kt
 und:Tryz.prog.underlying mt=some (.map kt 3)
 of:∀a,V a->(keyOf Tryz.prog kt (kv a)).isSome=true
 inj:∀a b,V a->V b->kv a=kv b->a=b
section
variable {α:Type} {mt kt:TypeId} {V:α->Prop} {kv:α->Value}
def MapK (kt:TypeId)(V:α->Prop)(kv:α->Value)(w:World)(b n c:Nat)(f:α->Option Nat):Prop :=
 ∃D:DataW Unit,w.ownsMap Tryz.prog kt (plainElem Tryz.prog 3) b n D/\size D=c /\
  ∀a l,V a->keyOf Tryz.prog kt (kv a)=some l->has D l=(f a).isSome/\D.atKey l (.lit (.int .i64 0))=.lit (.int .i64 (((f a).getD 0:Nat):Int))
theorem MapK.made (kt:TypeId)(V:α->Prop)(kv:α->Value)(w:World):MapK kt V kv (w.alloc (.map #[] 0)) w.heap.size 0 0 (fun _=>none):=by
 refine⟨.map [],World.ownsMap_made _ _ _ _,rfl,fun x _ _ _=>⟨by simp[has_eq],?_⟩⟩;rw[WideAt.atKey_none _ (by simp)];simp
variable {w w':World} {b n c:Nat} {f:α->Option Nat}
theorem MapK.kept {row:Option Nat}(h:MapK kt V kv w b n c f)(hg:w.grownBy w' row)(a9:row≠some b):MapK kt V kv w' b n c f:=by
 obtain⟨D,h1,h2,h3⟩:=h;exact⟨D,h1.kept hg (fun e=>a9 e.symm),h2,h3⟩
theorem MapK.mono {n':Nat}(h:MapK kt V kv w b n c f)(hn:n<=n'):MapK kt V kv w b n' c f:=by
 obtain⟨D,h1,h2,h3⟩:=h;exact⟨D,h1.mono hn,h2,h3⟩
theorem MapK.lt (h:MapK kt V kv w b n c f):b<w.heap.size:=by
 obtain⟨D,h1,_⟩:=h;exact h1.lt
theorem MapK.obj (h:MapK kt V kv w b n c f):∃es clock,w.heap[b]?=some (.map es clock):=by
 obtain⟨D,⟨es,clock,hb,_⟩,_⟩:=h;exact⟨es,clock,hb⟩
theorem MapK.lookup (h:MapK kt V kv w b n c f)(K:KeyK mt kt V kv){x:α}(hx:V x):(Instr.lookup mt (.map (some b)) (kv x) true).run Tryz.prog w=.ok (.tuple #[.int .i64 (((f x).getD 0:Nat):Int),.bool (f x).isSome]) w:=by
 obtain⟨D,h1,h2,h3⟩:=h;obtain⟨kl,h4⟩:=Option.isSome_iff_exists.1 (K.of x hx);obtain⟨v,ps,h0,hv⟩:=h1.look_ok K.key K.und (fG w) (plainElem_int tJ (by decide)) h4;obtain⟨c,rfl,hc,_⟩:=plainElem_int_inv tJ hv;obtain⟨e1,e2⟩:=h3 x kl hx h4;have e3:=congrArg Prod.fst hc;simp only[e2]at e3;rw[h0,e1]
 have e4:(((f x).getD 0:Nat):Int)=c:=by
  simp only[Lit.int.injEq,DataW.lit.injEq,true_and]at e3;exact e3
 rw[e4]
theorem MapK.len (h:MapK kt V kv w b n c f)(K:KeyK mt kt V kv):(Builtin.len_ #[mt] 3 #[.map (some b)]).run Tryz.prog w=.ok (.int .i64 (c:Nat)) w:=by
 obtain⟨D,h1,h2,h3⟩:=h;have h0:=h1.len K.und 3;rw[h2]at h0;exact h0
theorem qIU [DecidableEq α]{ops:Array Oper}{a9:List Oper}{o:Oper}{a:Act}{Q:Exit->Act->World->Prop}(K:KeyK mt kt V kv)(hg:o.guard=none)(m x v:Operand)(a8:o.op=Op.mapUpdate mt m x v)(b n c:Nat)(f:α->Option Nat)(z:α)(y:Nat)(hm:a.eval m=.map (some b))(hx:a.eval x=kv z)(hv:a.eval v=.int .i64 (y:Int))(h:MapK kt V kv w b n c f)(hn:n<maxLen)(hz:V z)(hy:y<4611686018427387904)(hK:∀w',MapK kt V kv w' b (n+1) (if (f z).isSome then c else c+1) (fun q=>if q=z then some y else f q)->w.grownBy w' (some b)->wpList Tryz.prog ops Q a9 (a.put o.dst undef) w'):wpList Tryz.prog ops Q (o::a9) a w:=by
 obtain⟨D,h1,h2,h3⟩:=h;obtain⟨kl,h0⟩:=Option.isSome_iff_exists.1 (K.of z hz);obtain⟨w',h4,h5,h7⟩:=h1.update K.key K.und hn h0 (plainElem_int tJ (bG (x:=(y:Int)) ⟨by omega,by omega⟩));refine wpList_plain hg fun K' hK'=>?_;unfold Oper.wp;simp[execOp,a8,hm,hx,hv,h4,Result.andThen];refine hK' _ _ (hK w' ⟨_,h5,?_,fun q ql hq hql=>?_⟩ h7)
 ·rw[size_put (h1.tidy K.key),(h3 z kl hz h0).1,h2]
 by_cases e:q=z
 ·subst e
  rw[h0]at hql;cases hql;refine⟨by rw[has_put_same h1.isMap (K.key.key h0)];simp,?_⟩;simp only[if_pos];rw[atKey_put_same h1.isMap (K.key.key h0)];rfl
 have h6:ql≠kl:=fun h=>e (K.inj q z hq hz (K.key.inj (hql.trans (congrArg some h)) h0));obtain⟨e1,e2⟩:=h3 q ql hq hql;simp only[if_neg e];exact⟨by rw[has_put_other h6,e1],by rw[atKey_put_other h6,e2]⟩
end
theorem fY:Tryz.prog.underlying 187=some (.array 7 3):=by kernel_rfl
theorem qBK:Tryz.prog.underlying 185=some (.map 187 3):=by kernel_rfl
theorem qIY:Keyed Tryz.prog 187:=Keyed.of_law (deep_law_laid (m:=5) (by kernel_rfl) (by decide) (of_decide_eq_true (by kernel_rfl)) (by kernel_rfl) (by kernel_rfl))
theorem qST {x:Nat}(hx:x<4611686018427387904):(Lit.int .i64 (x:Int)).wf=true:=bG (x:=(x:Int)) ⟨by omega,by omega⟩
theorem nW (d:Nat){x:Nat}(hx:x<4611686018427387904):Tryz.prog.keyLits (d+1) 3 [.int .i64 (x:Int)]=some [.int .i64 (x:Int)]:=by
 unfold Program.keyLits;rw[tJ];simp[qST hx]
def sigV (L:List Nat):Value:=.agg #[.int .i64 ((L.getD 0 0:Nat):Int),.int .i64 ((L.getD 1 0:Nat):Int),.int .i64 ((L.getD 2 0:Nat):Int),.int .i64 ((L.getD 3 0:Nat):Int),.int .i64 ((L.getD 4 0:Nat):Int),.int .i64 ((L.getD 5 0:Nat):Int),.int .i64 ((L.getD 6 0:Nat):Int)]
def qPV (L:List Nat):Prop:=L.length=7/\∀x∈L,x<4611686018427387904
theorem qBL:Tryz.prog.cellsOf 187=7:=by kernel_rfl
theorem qKX:Tryz.prog.cellsOf 3=1:=by kernel_rfl
theorem qMX {x0 x1 x2 x3 x4 x5 x6:Nat}(h0:x0<4611686018427387904)(h1:x1<4611686018427387904)(h2:x2<4611686018427387904)(h3:x3<4611686018427387904)(h4:x4<4611686018427387904)(h5:x5<4611686018427387904)(h6:x6<4611686018427387904):(keyOf Tryz.prog 187 (.agg #[.int .i64 (x0:Int),.int .i64 (x1:Int),.int .i64 (x2:Int),.int .i64 (x3:Int),.int .i64 (x4:Int),.int .i64 (x5:Int),.int .i64 (x6:Int)])).isSome=true:=by
 have hk:Tryz.prog.keyType 187=true:=by kernel_rfl
 unfold keyOf;rw[fY];simp only[hk,Bool.true_and]
 have hf:(Value.agg #[.int .i64 (x0:Int),.int .i64 (x1:Int),.int .i64 (x2:Int),.int .i64 (x3:Int),.int .i64 (x4:Int),.int .i64 (x5:Int),.int .i64 (x6:Int)]).formed Tryz.prog 187=true:=by
  simp[Value.formed,fY,qBL]
 rw[if_pos hf]
 have hl:Tryz.prog.keyLits (Tryz.prog.types.size+1) 187 (Value.agg #[.int .i64 (x0:Int),.int .i64 (x1:Int),.int .i64 (x2:Int),.int .i64 (x3:Int),.int .i64 (x4:Int),.int .i64 (x5:Int),.int .i64 (x6:Int)]).cells.toList=some [.int .i64 (x0:Int),.int .i64 (x1:Int),.int .i64 (x2:Int),.int .i64 (x3:Int),.int .i64 (x4:Int),.int .i64 (x5:Int),.int .i64 (x6:Int)]:=by
  have hz:Tryz.prog.types.size=(Tryz.prog.types.size-1)+1:=by kernel_rfl
  rw[hz];unfold Program.keyLits;rw[fY];simp[Value.cells,qBL,qKX,List.range,List.range.loop,nW _ h0,nW _ h1,nW _ h2,nW _ h3,nW _ h4,nW _ h5,nW _ h6]
 rw[hl];rfl
theorem aJ:KeyK 185 187 qPV sigV where
 key:=qIY
 und:=qBK
 of:=fun L h=>by
  have hg:∀i,L.getD i 0<4611686018427387904:=fun i=>by
   by_cases hi:i<L.length
   ·rw[zN hi];exact h.2 _ (List.getElem_mem hi)
   ·rw[List.getD,List.getElem?_eq_none (by omega)];simp
  exact qMX (hg 0) (hg 1) (hg 2) (hg 3) (hg 4) (hg 5) (hg 6)
 inj:=fun L M hL hM e=>by
  simp only[sigV,Value.agg.injEq]at e
  have e:=congrArg Array.toList e
  simp only[List.cons.injEq,Value.int.injEq,true_and,and_true]at e
  refine List.ext_getElem (by rw[hL.1,hM.1]) fun i h1 h2=>?_
  rw[<-zN (d:=0) h1,<-zN (d:=0) h2]
  have:i<7:=by rw[<-hL.1];exact h1
  match i,this with
  | 0,_=>omega
  | 1,_=>omega
  | 2,_=>omega
  | 3,_=>omega
  | 4,_=>omega
  | 5,_=>omega
  | 6,_=>omega
def numF {α:Type}[DecidableEq α](l:List α)(L:α):Option Nat:=if L∈l then some (l.idxOf L) else none
theorem qNM {α:Type}[DecidableEq α]{l:List α}{L:α}(h:L ∉ l):(fun q=>if q=L then some l.length else numF l q)=numF (l++[L]):=by
 funext q;unfold numF;by_cases e:q=L
 ·subst e
  rw[if_pos rfl,if_pos (by simp),List.idxOf_append,if_neg h];simp
 rw[if_neg e];by_cases hq:q∈l
 ·rw[if_pos hq,if_pos (by simp[hq]),List.idxOf_append,if_pos hq]
 rw[if_neg hq,if_neg (by simp[hq,e])]
theorem qNK {α:Type}[DecidableEq α]{l:List α}{L:α}(h:L∈l):numF l L=some (if L∈l then l.idxOf L else l.length):=by rw[numF,if_pos h,if_pos h]
theorem qRM {α:Type}[DecidableEq α]{l:List α}{L:α}(h:L ∉ l):numF l L=none:=if_neg h
theorem qNI {α:Type}[DecidableEq α]{l:List α}{L:α}{v:Nat}(hv:v=if L∈l then l.idxOf L else l.length)(h:L∈l):numF l L=some v:=by rw[hv,qNK h]
theorem qNJ {α:Type}[DecidableEq α]{l:List α}{L:α}{v:Nat}(hv:v=if L∈l then l.idxOf L else l.length)(h:L ∉ l):v=l.length:=by rw[hv,if_neg h]
theorem qTV {L:List Nat}(h:L.length=7):∃y0 y1 y2 y3 y4 y5 y6,L=[y0,y1,y2,y3,y4,y5,y6]:=by
 match L,h with
 | [y0,y1,y2,y3,y4,y5,y6],_=>exact⟨y0,y1,y2,y3,y4,y5,y6,rfl⟩
theorem qGP {w:World}{g e y0 y1 y2 y3 y4 y5 y6:Nat}(h:Arr w g e (nats [y0,y1,y2,y3,y4,y5,y6])):w.cell? ⟨g,0,none⟩=some (.int .i64 (y0:Int))/\w.cell? ⟨g,1,none⟩=some (.int .i64 (y1:Int))/\w.cell? ⟨g,2,none⟩=some (.int .i64 (y2:Int))/\w.cell? ⟨g,3,none⟩=some (.int .i64 (y3:Int))/\w.cell? ⟨g,4,none⟩=some (.int .i64 (y4:Int))/\w.cell? ⟨g,5,none⟩=some (.int .i64 (y5:Int))/\w.cell? ⟨g,6,none⟩=some (.int .i64 (y6:Int)) :=
 ⟨h.cell 0 (by simp[nats]),h.cell 1 (by simp[nats]),h.cell 2 (by simp[nats]),h.cell 3 (by simp[nats]),h.cell 4 (by simp[nats]),h.cell 5 (by simp[nats]),h.cell 6 (by simp[nats])⟩
theorem qNL:(fun _=>none)=numF ([]:List (List Nat)):=by funext L;simp[numF]
theorem qBW (B:Nat)(w:World)(v:Value)(d:DfaV)(n k:Nat)(hB:B<=w.heap.size)(h:tR B w v d)(hd:VD d n k)(h5:n<=512):Calls Tryz.prog 104 #[v] w (qFF w (yK d k)):=by
 have r7:=@run_makeMap Tryz.prog;have b6:=h;obtain⟨fb,fo,fc,b,off,cap,RB,RO,RC,rfl,c4⟩:=h.at hd;have hn:=hd.hn;have o0:=hd.n1;have l2:=hd.k6;have s0:=hd.k1;have s6:=c4.fcap.1;have d4:=c4.fcap.2;have s9:=c4.cap.1;have d5:=c4.cap.2;have o2:fc<=9223372036854775807:=by unfold maxLen at d4;omega
 have o1:cap<=9223372036854775807:=by unfold maxLen at d5;omega
 obtain⟨S,hS⟩:=Nm (st0 d);have j8:dAgg k (st0 d) fb fo fc b off cap n=.agg #[.int .i64 (k:Int),.int .i64 (S:Int),.slice (some ⟨fb,fo,none⟩) n fc,.slice (some ⟨b,off,none⟩) n cap]:=by rw[hS];rfl
 rw[j8]at b6⊢;obtain⟨wA,j0⟩:=Nm (w.alloc (.cells #[.int .i64 (k:Int),.int .i64 (S:Int),.slice (some ⟨fb,fo,none⟩) n fc,.slice (some ⟨b,off,none⟩) n cap] 29));have f6:=Ga w (.cells #[.int .i64 (k:Int),.int .i64 (S:Int),.slice (some ⟨fb,fo,none⟩) n fc,.slice (some ⟨b,off,none⟩) n cap] 29) none;have b9:=heap_alloc_new w (.cells #[.int .i64 (k:Int),.int .i64 (S:Int),.slice (some ⟨fb,fo,none⟩) n fc,.slice (some ⟨b,off,none⟩) n cap] 29);rw[<-j0]at b9 f6;obtain⟨P,hP⟩:=Nm w.heap.size;rw[<-hP]at b9;obtain⟨c0,c1,c2,c3⟩:=zL b9;have t1:=zR b9;have p0:B<=wA.heap.size:=by omega
 have p7:=Kh hP;have t2:w.heap.size<=P:=by omega
 obtain⟨m9,q5,p3⟩:=K3 b9 f6 j0;have c8:Hid (∀W:World,w.grownBy W none->DAt B W d n k fb fo fc b off cap RB RO RC):=Kh (fun W hg=>c4.kept hg (by simp));have HN:=Kh hn;have HD:=Kh hd;have l7:=Kh (qM B wA _ d p0 (b6.kept f6 (by simp)));have p4:=Kh (jL hd h5);clear b9 f6 j0 c4 hn hd h b6 j8 d4 d5 hS hP;go_enter Tryz.func104,Tryz.ntmps104;go_upto_region 1 with fail;rw[<-p3.out,<-p7.out];go_wp2_with fail;refine l7.out.mono ?_;rintro e w1 ⟨rfl,f9⟩;rw[p4.out];have r3:=f9.size;have q6:=Kh (zC q5.out f9);have g3:=Kh (zB m9.out f9);obtain⟨d0,d1,d2,d3⟩:=zL g3.out;have t9:B<=w.heap.size:=hB;clear f9 l7 c0 c1 c2 c3 m9;go_wp2_with (first|(at_make;refine qG rfl _ _ _ rfl yH rfl .i64 .i64 _ _ n rfl rfl rfl rfl ?b1 ?b2 ?_;(case b1=>omega);(case b2=>(unfold maxLen;omega));intro w2 h0 f8 i5;(obtain⟨e0,e1,e2,e3⟩:=zL (zB g3.out f8)))|fail);obtain⟨G,hG⟩:=Nm w1.heap.size;rw[<-hG]at h0 i5⊢;have t6:P<G:=by omega
 have o9:w.heap.size<=G:=by omega
 have n3:Hid (Arr w2 G 3 (nats (fstF d n 0))):=Kh (by
  rw[show fstF d n 0=List.replicate n 0 by simp[fstF,uI],yN];exact h0)
 have m3:=Kh (zC q6.out f8);have m8:=Kh (zB g3.out f8);clear h0 f8 hG g3 d0 d1 d2 d3 e0 e1 e2 e3
 go_loopg [4,5,6,26] n (fun gh a4 a5 a6 i wr=>∃q:Nat,gh+q=n/\i=.int .i64 q/\a4=.int .i64 (fstC d q:Nat)/\Arr wr G 3 (nats (fstF d n q))/\wr.heap[P]?=some (.cells #[.int .i64 (k:Int),.int .i64 (S:Int),.slice (some ⟨fb,fo,none⟩) n fc,.slice (some ⟨b,off,none⟩) n cap] 29 (0,0))/\w.grownBy wr none)
 case atStart=>exact⟨0,rfl,rfl,rfl,n3.out,m8.out,m3.out⟩
 clear n3 m8 m3;obtain⟨q,a1,rfl,rfl,h0,h6,h3⟩:=hrel;obtain⟨h7,HA,H5,H4⟩:=K4 a1 h0 h6 h3;obtain⟨d0,d1,d2,d3⟩:=zL h6;clear a1;by_cases hq:q<n
 ·have n9:(q:Int)<n:=by omega
  have cf0:=(c8.out _ h3).fin (q:=0) (by omega);have cfq:=(c8.out _ h3).fin hq;have s5:=h0.frozen q;have t0:=h0.nat q (by rw[kY (by omega)];exact hq);have i9:(nats (fstF d n q)).length=n:=by rw[zT,kY (by omega)]
  rw[Nat.add_zero]at cf0;by_cases e:d.final.getD q false=d.final.getD 0 false
  ·obtain⟨h1,h2⟩:=qLB hq e
   have H1:=Kh h1;have H2:=Kh h2;rw[e]at cfq
   generalize d.final.getD 0 false=b0 at cf0 cfq
   have e1:(b0 != b0)=false:=by simp
   clear h1 h2 e h0 h6;go_wp2;go_roundg (n-(q+1))
   case measure=>have:=h7.out;omega
   exact⟨q+1,by have:=h7.out;omega,by go_num,by rw[H2.out],by rw[H1.out];exact HA.out,H5.out,H4.out⟩
  obtain⟨h1,h2⟩:=qLC hq e;have H1:=Kh h1;have H2:=Kh h2;have e1:(d.final.getD q false == d.final.getD 0 false)=false:=by rw[beq_eq_false_iff_ne];exact e
  generalize d.final.getD 0 false=b0 at cf0 e1
  generalize d.final.getD q false=b1 at cfq e1
  clear h1 h2 e h0 h6;go_wp2;go_roundg (n-(q+1))
  case measure=>have:=h7.out;omega
  exact⟨q+1,by have:=h7.out;omega,by go_num,by rw[H2.out];rfl,by rw[H1.out];exact HA.out.nat_set q (by rw[kY (by omega)];exact hq) 1,zB H5.out (zF wr ⟨G,q,none⟩ _) (fun e=>by have e:G=P:=Oj e;omega),yG H4.out (zF wr ⟨G,q,none⟩ _) (by show _<=G;omega)⟩
 have f3:q=n:=by have:=h7.out;omega
 obtain⟨l1,l4⟩:=qLA HD.out
 have n4:Hid (Arr wr G 3 (nats (xI d k 0))):=Kh (by
  rw[show xI d k 0=fstF d n q by rw[f3,fstF,l1];simp[xI]];exact h0)
 have r0:Hid (fstC d q=cls (xI d k 0)):=Kh (by rw[f3,l4];rfl);rw[r0.out];have H8:=Kh f3;clear f3 l1 l4 HA h7 h0 h6 h3;obtain⟨w3,rfl⟩:=Nm (wr:World);go_wp2_with fail
 go_loopg [3,4,7,8,9,10,11,12,13,14,15] (n-cls (xI d k 0)) (fun gh a3 a4 a7 a8 a9 a10 a11 a12 a13 a14 a15 wr=>∃(m g:Nat),gh=n-cls (xI d k m)/\m<=cls (xI d k m)/\a3=.slice (some ⟨g,0,none⟩) n n/\a4=.int .i64 (cls (xI d k m):Nat)/\Arr wr g 3 (nats (xI d k m))/\w.heap.size<=g/\g≠P/\wr.heap[P]?=some (.cells #[.int .i64 (k:Int),.int .i64 (S:Int),.slice (some ⟨fb,fo,none⟩) n fc,.slice (some ⟨b,off,none⟩) n cap] 29 (0,0))/\w.grownBy wr none)
 case atStart=>exact⟨0,G,rfl,by omega,rfl,rfl,n4.out,o9,by omega,H5.out,H4.out⟩
 clear n4 H5 H4;obtain⟨m,g,rfl,o3,rfl,rfl,h0,s1,s3,h6,h3⟩:=hrel;obtain⟨p,hp⟩:=Nm (xI d k m);have l0:p.length=n:=by rw[hp,xH,HN.out]
 have o7:=qPD HD.out m;have c9:∀c∈p,c<n:=(by have:=pV (tN d k m);rw[<-hp,l0]at this;exact this);have j2:Hid (numb (sigL d k p)=xI d k (m+1)):=Kh (by rw[hp];exact qLR HD.out m);have d8:Hid (cls (xI d k (m+1))=cls (xI d k m)->xI d k (m+1)=yK d k):=Kh (qHW HD.out (by omega));have e7:Hid (cls (xI d k (m+1))≠cls (xI d k m)->cls (xI d k m)<cls (xI d k (m+1))):=Kh (qHX HD.out);rw[<-hp]at h0;obtain⟨C,hC⟩:=Nm (cls (xI d k m));rw[<-hC]at d8 e7 o3 o7⊢;obtain⟨x2,j3,q9,HA,H5,H4⟩:=K6 hp c9 hC h0 h6 h3;have k7:(sigL d k p).length=n:=by rw[kR,l0]
 obtain⟨wm,f1⟩:=Nm (wr.alloc (.map #[] 0));obtain⟨mb,i3⟩:=Nm wr.heap.size;have i8:wr.grownBy wm none:=by rw[f1];exact Ga wr _ none
 have e6:Hid (MapK 187 qPV sigV wm mb 0 0 (numF [])):=Kh (by
  rw[f1,i3,<-qNL];exact MapK.made _ _ _ _)
 have t3:=zR h6;have s2:=h0.lt;obtain⟨p1,c6,q0⟩:=K3 f1 i8 i3;have r2:=i8.size;have r6:=e6.out.lt;have t4:P<mb:=(by omega);have o4:g<mb:=(by omega);have n7:w.heap.size<=mb:=by have:=h3.size;omega
 clear hp c9 hC h0 h6 h3 i8 f1 i3;obtain⟨wo,rfl⟩:=Nm (wr:World);go_upto_region 11 with fail;rw[<-p1.out,<-q0.out];obtain⟨d0,d1,d2,d3⟩:=zL (zB H5.out c6.out);go_wp2_with (first|(at_make;refine qG rfl _ _ _ rfl yH rfl .i64 .i64 _ _ n rfl rfl rfl rfl ?b1 ?b2 ?_;(case b1=>omega);(case b2=>(unfold maxLen;omega));intro w4 h0 b8 i4;(obtain⟨e0,e1,e2,e3⟩:=zL (zB (zB H5.out c6.out) b8)))|fail);obtain⟨F,hF⟩:=Nm wm.heap.size;rw[<-hF]at h0 i4⊢;obtain⟨sg,g5⟩:=Nm (sigL d k p);rw[<-g5]at j2 k7;have s4:g<F:=(by omega);have t5:P<F:=(by omega);have r8:mb<F:=(by omega);have l6:w.heap.size<=F:=by omega
 have i2:(numb sg).length=n:=by rw[yW,k7]
 have p5:=Kh g5;have g0:=Kh i2
 have m4:Hid (Arr w4 F 3 (nats (wX (numb sg) 0))):=Kh (by
  rw[uV,i2,yN];exact h0)
 have l8:=Kh (e6.out.kept b8 (by simp));have n2:=Kh ((HA.out.kept c6.out (by simp)).kept b8 (by simp));have m7:=Kh (zB (zB H5.out c6.out) b8);have m2:=Kh (zC (zC H4.out c6.out) b8);clear g5 i2 h0 b8 hF e6 HA H5 H4 c6 d0 d1 d2 d3 e0 e1 e2 e3
 go_loopg [9,10,11,12,13,14,15,48] n (fun gh a9 a10 a11 a12 a13 a14 a15 i wr=>∃(q c:Nat),gh+q=n/\i=.int .i64 q/\Arr wr F 3 (nats (wX (numb sg) q))/\MapK 187 qPV sigV wr mb q c (numF (yQ (sg.take q)))/\c=(yQ (sg.take q)).length/\Arr wr g 3 (nats p)/\wr.heap[P]?=some (.cells #[.int .i64 (k:Int),.int .i64 (S:Int),.slice (some ⟨fb,fo,none⟩) n fc,.slice (some ⟨b,off,none⟩) n cap] 29 (0,0))/\w.grownBy wr none)
 case atStart=>exact⟨0,0,rfl,rfl,m4.out,by simpa [yQ] using l8.out,by simp[yQ],n2.out,m7.out,m2.out⟩
 clear m4 l8 n2 m7 m2;obtain⟨q,c,a1,rfl,h0,H0,hc,d7,h6,h3⟩:=hrel;obtain⟨h7,HF,e6,HA,H5,H4⟩:=K6 a1 h0 H0 d7 h6 h3;have e9:=Kh hc;obtain⟨d0,d1,d2,d3⟩:=zL h6;have r1:=h3.size;have t7:=h0.lt;have s8:c<=q:=by rw[hc];have:=uX (sg.take q);rw[List.length_take]at this;omega
 clear a1;by_cases hq:q<n
 ·have n9:(q:Int)<n:=by omega
  have hh:=(c8.out _ h3).hd q hq;have g9:=(c8.out _ h3).rcap q hq;have n8:=(c8.out _ h3).rlt q hq;have g8:=g9.1;have g7:RC q<=9223372036854775807:=by have:=g9.2;unfold maxLen at this;omega
  have d6:=d7.nat q (by omega);obtain⟨rb,i0⟩:=Nm (RB q);obtain⟨ro,g6⟩:=Nm (RO q);obtain⟨rc,a2⟩:=Nm (RC q);rw[<-i0,<-g6,<-a2]at hh;rw[<-a2]at g8 g7;have q8:Hid (∀W:World,w.grownBy W none->∀a,a<k->W.cell? ⟨rb,ro+a,none⟩=some (.int .i64 ((nx d q a:Nat):Int))):=Kh (fun W hg a ha=>by rw[i0,g6];exact(c8.out W hg).el q a hq ha);obtain⟨pq,f4⟩:=Nm (p.getD q 0);rw[<-f4]at d6;have x1:=Kh f4;obtain⟨wk,f2⟩:=Nm (wr.alloc (.cells #[.int .i64 (pq:Int),.int .i64 0,.int .i64 0,.int .i64 0,.int .i64 0,.int .i64 0,.int .i64 0] 187));obtain⟨kb,i7⟩:=Nm wr.heap.size;have b7:wr.grownBy wk none:=by rw[f2];exact Ga wr _ none
  have m0:Hid (Arr wk kb 187 (nats (kH d p q 0))):=Kh (by
   rw[f2,i7];have:=Arr.new wr 187 #[.int .i64 (pq:Int),.int .i64 0,.int .i64 0,.int .i64 0,.int .i64 0,.int .i64 0,.int .i64 0];rw[show nats (kH d p q 0)=#[Value.int .i64 (pq:Int),.int .i64 0,.int .i64 0,.int .i64 0,.int .i64 0,.int .i64 0,.int .i64 0].toList by rw[kH,<-f4];rfl]
   exact this)
  have p2:=Kh f2;have q2:=Kh i7;have q3:=Kh (zC h3 b7);have m5:=Kh (h0.kept b7 (by simp));have l9:=Kh (H0.kept b7 (by simp));have j7:=Kh (d7.kept b7 (by simp));have f0:=Kh (zB h6 b7);have t8:F<kb:=(by omega);clear h0 H0 d7 h6 h3 i0 g6 a2 f4 f2 i7 b7 g9 n8 hc;go_upto_region 16 with fail;rw[<-p2.out,<-q2.out];clear d0 d1 d2 d3 d6 hh HF e6 HA H5 H4;have r5:g<kb:=(by omega);go_wp2_with fail
  go_loopg [12,13,60] k (fun gh a12 a13 i wr=>∃x:Nat,gh+x=k/\i=.int .i64 x/\Arr wr kb 187 (nats (kH d p q x))/\wk.grownBy wr (some kb))
  case atStart=>exact⟨0,rfl,rfl,m0.out,zU _ _⟩
  clear m0;obtain⟨x,a1,rfl,h0,h3⟩:=hrel;obtain⟨H8,HK,H4⟩:=K3 a1 h0 h3;have H6:=yG q3.out h3 (by show _<=kb;omega);have m1:=Kh H6;clear a1;by_cases hx:x<k
  ·have r4:(x:Int)<k:=by omega
   have cel:=q8.out wr H6 x hx;have n6:=pB HD.out hq hx;obtain⟨y,hy⟩:=Nm (nx d q x);rw[<-hy]at cel n6;have n5:(y:Int)<n:=(by omega);have cy:=(j7.out.kept h3 (fun e=>by have e:kb=g:=Oj e;omega)).nat y (by omega);have h4:=qIZ (d:=d) (p:=p) (q:=q) (x:=x) (by omega);rw[<-hy]at h4;have H3:=Kh h4;have k8:=mQ (d:=d) (p:=p) (q:=q) (x:=x) (by omega);have ck:=h0.nat (1+x) (by omega);have fk:=h0.frozen (1+x);have p6:=Kh k8;obtain⟨z,hz⟩:=Nm (p.getD y 0);rw[<-hz]at cy;have HZ:=Kh hz;clear h4 k8 hz hy h0 h3 H6;go_wp2;go_roundg (k-(x+1))
   case measure=>have:=H8.out;omega
   exact⟨x+1,by have:=H8.out;omega,by go_num,by rw[<-H3.out,<-HZ.out];exact HK.out.nat_set (1+x) (by rw[p6.out];omega) z,zG H4.out (zF wr ⟨kb,1+x,none⟩ _)⟩
  have g4:x=k:=by have:=H8.out;omega
  have x0:=Kh g4;rw[g4]at h0 HK;have c7:=Kh (m5.out.kept h3 (fun e=>by have e:kb=F:=Oj e;omega));have e4:=Kh (l9.out.kept h3 (fun e=>by have e:kb=mb:=Oj e;omega));have n0:=Kh (j7.out.kept h3 (fun e=>by have e:kb=g:=Oj e;omega));have m6:=Kh (zB f0.out h3 (fun e=>by have e:kb=P:=Oj e;omega));have k9:q<sg.length:=by omega
  have j9:sg[q]=kH d p q k:=by
   have e:=p5.out;subst e;exact aK (by omega)
  have b4:=bD k9;have H7:=jB k9;rw[j9]at b4 H7;obtain⟨y0,y1,y2,y3,y4,y5,y6,hL⟩:=qTV (mQ (d:=d) (p:=p) (q:=q) (x:=k) l2)
  have i1:qPV [y0,y1,y2,y3,y4,y5,y6]:=by
   rw[<-hL];exact⟨mQ l2,fun z hz=>by have:=qMY j3.out o0 z hz;omega⟩
  rw[hL]at h0 HK b4 H7;obtain⟨k0,k1,k2,k3,k4,k5,k6⟩:=qGP h0;have h4:=tL (l:=numb sg) (k:=q) (by have:=g0.out;omega);have i9:=yV (l:=numb sg) (k:=q) (by have:=g0.out;omega);have g2:Hid ((wX (numb sg) q).length=n):=Kh (by rw[i9,g0.out]);have cF:=c7.out.nat q (by rw[g2.out];exact hq);have fF:=c7.out.frozen q;have b5:=e4.out.lookup aJ i1;obtain⟨Fs,j1⟩:=Nm (yQ (sg.take q));rw[<-j1]at b4 H7 b5 e4 e9;have x4:=Kh j1;have p8:=Kh i1;clear hL j9 i9 h0 h3 H6 j1 i1 g4 m5 l9 j7 f0;by_cases hin:[y0,y1,y2,y3,y4,y5,y6]∈Fs
  ·obtain⟨I,hI⟩:=Nm ((numb sg).getD q 0)
   have H9:=qNI (hI.trans b4) hin;rw[tD hin]at H7;rw[H9]at b5;rw[<-hI]at h4;replace b5:(Instr.lookup 185 (.map (some mb)) (.agg #[.int .i64 (y0:Int),.int .i64 (y1:Int),.int .i64 (y2:Int),.int .i64 (y3:Int),.int .i64 (y4:Int),.int .i64 (y5:Int),.int .i64 (y6:Int)]) true).run Tryz.prog wr=.ok (.tuple #[.int .i64 (I:Int),.bool true]) wr:=b5;have H3:=Kh h4;have e8:=Kh H7;clear h4 H7 b4 hI hin H9;go_wp2;go_roundg (n-(q+1))
   case measure=>have:=h7.out;omega
   refine⟨q+1,c,by have:=h7.out;omega,by go_num,by rw[<-H3.out];exact c7.out.nat_set q (by rw[g2.out];exact hq) I,?_,by rw[e8.out];exact e9.out,n0.out.kept (zF wr ⟨F,q,none⟩ _) (fun e=>by have e:F=g:=Oj e;omega),zB m6.out (zF wr ⟨F,q,none⟩ _) (fun e=>by have e:F=P:=Oj e;omega),yG m1.out (zF wr ⟨F,q,none⟩ _) (by show _<=F;omega)⟩;rw[e8.out];exact(e4.out.mono (by omega)).kept (zF wr ⟨F,q,none⟩ _) (fun e=>by have e:F=mb:=Oj e;omega)
  obtain⟨I,hI⟩:=Nm ((numb sg).getD q 0);have h8:=qRM hin;have l5:=qNJ (hI.trans b4) hin;rw[vO hin]at H7;rw[h8]at b5;rw[<-hI]at h4;have o8:I=c:=by rw[l5];exact e9.out.symm
  have o5:c<4611686018427387904:=(by omega);have h9:=qNM hin;rw[<-e9.out]at h9;subst o8;replace b5:(Instr.lookup 185 (.map (some mb)) (.agg #[.int .i64 (y0:Int),.int .i64 (y1:Int),.int .i64 (y2:Int),.int .i64 (y3:Int),.int .i64 (y4:Int),.int .i64 (y5:Int),.int .i64 (y6:Int)]) true).run Tryz.prog wr=.ok (.tuple #[.int .i64 0,.bool false]) wr:=b5;have i6:=e4.out.len aJ;obtain⟨H3,e8,j4,d9⟩:=K4 h4 H7 h9 h8;clear h4 H7 b4 hI hin h8 l5 h9;go_wp2_with (first|(at_mapUpdate;refine qIU aJ rfl _ _ _ rfl mb q I (numF Fs) [y0,y1,y2,y3,y4,y5,y6] I rfl rfl rfl e4.out (by unfold maxLen;omega) p8.out o5 ?_;intro w5 a0 f7;(have c5:=Kh a0);(have g1:=Kh f7);(have fF5:=(c7.out.kept f7 (fun e=>by have e:mb=F:=Oj e;omega)).frozen q);(have cF5:=(c7.out.kept f7 (fun e=>by have e:mb=F:=Oj e;omega)).nat q (by rw[g2.out];exact hq));clear a0 f7)|fail);rw[d9.out]at c5;replace c5:=c5.out;have e5:(if (none:Option Nat).isSome=true then I else I+1)=I+1:=rfl;rw[e5,j4.out]at c5;have q1:=Kh c5;clear c5 e5;go_roundg (n-(q+1))
  case measure=>have:=h7.out;omega
  have f5:=zF w5 ⟨F,q,none⟩ (.int .i64 (I:Int));refine⟨q+1,I+1,by have:=h7.out;omega,by go_num,?_,?_,by rw[e8.out,List.length_append,<-e9.out];rfl,(n0.out.kept g1.out (fun e=>by have e:mb=g:=Oj e;omega)).kept f5 (fun e=>by have e:F=g:=Oj e;omega),zB (zB m6.out g1.out (fun e=>by have e:mb=P:=Oj e;omega)) f5 (fun e=>by have e:F=P:=Oj e;omega),yG (yG m1.out g1.out (by show _<=mb;omega)) f5 (by show _<=F;omega)⟩
  ·rw[<-H3.out]
   exact(c7.out.kept g1.out (fun e=>by have e:mb=F:=Oj e;omega)).nat_set q (by rw[g2.out];exact hq) I
  rw[e8.out];exact q1.out.kept f5 (fun e=>by have e:F=mb:=Oj e;omega)
 have b3:q=n:=by have:=h7.out;omega
 have l3:c=cls (xI d k (m+1)):=by
  rw[hc,b3,List.take_of_length_le (by omega),<-j2.out,qGB]
 have i6:=H0.len aJ
 have j5:Hid (Arr wr F 3 (nats (xI d k (m+1)))):=Kh (by
  have e:wX (numb sg) q=xI d k (m+1):=by rw[b3,<-j2.out,<-g0.out];exact tM _
  rw[<-e];exact h0)
 have j6:=Kh l3;rw[<-l3]at d8 e7;have o6:c<=n:=by omega
 clear h0 H0 hc d7 b3;by_cases he:c=C
 ·have q7:=Kh (d8.out he)
  have p9:Hid ((yK d k).length=n):=Kh (by rw[vD,HN.out]);subst he;clear d8 e7 j6;go_wp2;go_ret;rw[q7.out]at j5;exact⟨F,by rw[p9.out];rfl,l6,j5.out,h3⟩
 have r9:=e7.out he;have s7:((c:Int) == (C:Int))=false:=by rw[beq_eq_false_iff_ne];omega
 have x3:=Kh he;have q4:=Kh h3;clear d8 e7 he h3;go_wp2;go_roundg (n-cls (xI d k (m+1)))
 case measure=>have:=j6.out;have:=q9.out;omega
 exact⟨m+1,F,rfl,by have:=j6.out;omega,rfl,rfl,j5.out,l6,by omega,h6,q4.out⟩
end Go.Proofs.YtobakifdllameaaGreat
