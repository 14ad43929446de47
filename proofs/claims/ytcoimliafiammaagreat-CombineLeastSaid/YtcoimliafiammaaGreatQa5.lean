/- Part 5 of the proof. -/
import Derived.Test.YtcoimliafiammaaGreatQa4
import Derived.DeepKeys4
set_option linter.unusedVariables false
set_option linter.unusedSimpArgs false
set_option maxRecDepth 100000
set_option maxHeartbeats 16000000
namespace Go.Proofs.YtcoimliafiammaaGreat
open Go.RowKit
def sH (n:Nat)(l:List Nat):List Int:=(List.range n).map fun q=>rX l q
theorem vM (n:Nat)(l:List Nat):(sH n l).length=n:=by simp[sH]
theorem aR {n:Nat}{l:List Nat}{q:Nat}(h:q<n):(sH n l).getD q 0=rX l q:=by
 rw[zG (by rw[vM];exact h)];simp[sH]
theorem aQ (n:Nat):sH n []=List.replicate n (-1):=by
 refine List.ext_getElem (by simp[sH]) fun i h1 h2=>by simp[sH,rX]
theorem aP {n:Nat}{l:List Nat}{q:Nat}(hq:q ∉ l):(sH n l).set q (l.length:Int)=sH n (l++[q]):=by
 refine List.ext_getElem (by simp[sH]) fun i h1 h2=>?_;rw[List.getElem_set];simp only[sH,List.getElem_map,List.getElem_range,rX];by_cases e:q=i
 ·subst e
  rw[if_pos rfl,if_pos (by simp),List.idxOf_append,if_neg hq];simp
 rw[if_neg e];by_cases hi:i∈l
 ·rw[if_pos hi,if_pos (by simp[hi]),List.idxOf_append,if_pos hi]
 rw[if_neg hi,if_neg (by simp[hi,Ne.symm e])]
def gE (n k:Nat):List Int:=List.replicate k (-1)++List.replicate (n-k) 0
theorem pT {n k:Nat}(h:k<=n):(gE n k).length=n:=by simp[gE];omega
theorem qFO {n k:Nat}(h:k<n):(gE n k).set k (-1)=gE n (k+1):=by
 unfold gE;rw[List.set_append_right _ _ (by simp),List.length_replicate,Nat.sub_self,show n-k=(n-(k+1))+1 by omega,List.replicate_succ,List.set_cons_zero,List.replicate_succ',List.append_assoc];rfl
def xCU (w:World)(m:DfaV)(e:Ending)(w':World):Prop:=∃v p,e=.returned (.tuple #[v,p])/\sZ w w' v m/\w.grownBy w' none
def nU (d:DfaV)(l:List Nat)(i:Nat):List Bool:=(l.take i).map fun q=>d.final.getD q false
def nT (d:DfaV)(l:List Nat)(i:Nat):List (List Int):=(l.take i).map fun q=>wI l (d.next.getD q [])
theorem qGL {d:DfaV}{l:List Nat}{i:Nat}(h:i<l.length):nU d l (i+1)=nU d l i++[d.final.getD (l.getD i 0) false]:=by
 simp only[nU,zT (d:=0) h,List.map_append,List.map_cons,List.map_nil]
theorem qGJ {d:DfaV}{l:List Nat}{i:Nat}(h:i<l.length):nT d l (i+1)=nT d l i++[wI l (d.next.getD (l.getD i 0) [])]:=by
 simp only[nT,zT (d:=0) h,List.map_append,List.map_cons,List.map_nil]
theorem qAV {d:DfaV}{l:List Nat}{i:Nat}(h:i<=l.length):(nU d l i).length=i:=by simp[nU];omega
theorem qAU {d:DfaV}{l:List Nat}{i:Nat}(h:i<=l.length):(nT d l i).length=i:=by simp[nT];omega
theorem qGK {d:DfaV}{n k:Nat}(hd:VD d n k){l:List Nat}{q a:Nat}(hq:q<n)(ha:a<k):(wI l (d.next.getD q [])).getD a 0=rX l (nx d q a):=by
 rw[wI,tU (x:=0) (by rw[hd.row q hq];exact ha)];rfl
theorem kF {d:DfaV}{n k:Nat}(hd:VD d n k){l:List Nat}{q:Nat}(hq:q<n):(wI l (d.next.getD q [])).length=k:=by rw[wI,List.length_map,hd.row q hq]
theorem qFA (l:List Int)(x:Int):ints (l++[x])=ints l++[.int .i64 x]:=by simp[ints]
theorem qUF (B:Nat)(w:World)(v:Value)(d:DfaV)(n k:Nat)(hB:B<=w.heap.size)(h:tM B w v d)(hd:VD d n k):Calls Tryz.prog 91 #[v] w (xCU w (xY d k)):=by
 have a4:=h;obtain⟨fb,fo,fc,b,off,cap,RB,RO,RC,rfl,b6⟩:=h.at hd;have hn:=hd.hn;have n7:=hd.n1;have i9:=hd.nbig;have o6:=hd.k6;have o7:=hd.k1;have p1:=b6.fcap.1;have c9:=b6.fcap.2;have p2:=b6.cap.1;have d4:=b6.cap.2;have m0:fc<=9223372036854775807:=by unfold maxLen at c9;omega
 have l9:cap<=9223372036854775807:=by unfold maxLen at d4;omega
 obtain⟨S,hS⟩:=Nm (st0 d);have p9:=Kh hS;have i3:dAgg k (st0 d) fb fo fc b off cap n=.agg #[.int .i64 (k:Int),.int .i64 (S:Int),.slice (some ⟨fb,fo,none⟩) n fc,.slice (some ⟨b,off,none⟩) n cap]:=by rw[hS];rfl
 rw[i3]at a4⊢;obtain⟨d5,e8,c7,i2⟩:=rL w #[.int .i64 (k:Int),.int .i64 (S:Int),.slice (some ⟨fb,fo,none⟩) n fc,.slice (some ⟨b,off,none⟩) n cap] #[.int .i64 0,.int .i64 0,.slice none 0 0,.slice none 0 0] 30;obtain⟨wA,f8⟩:=Nm ((w.alloc (.cells #[.int .i64 (k:Int),.int .i64 (S:Int),.slice (some ⟨fb,fo,none⟩) n fc,.slice (some ⟨b,off,none⟩) n cap] 30)).alloc (.cells #[.int .i64 0,.int .i64 0,.slice none 0 0,.slice none 0 0] 30));rw[<-f8]at d5 e8 c7 i2;obtain⟨c0,c1,c2,c3⟩:=zE d5;obtain⟨P,hP⟩:=Nm w.heap.size;have g5:=Kh hP;rw[<-hP]at d5 e8 c0 c1 c2 c3 i2 hB;obtain⟨f1,n2,m7,m4⟩:=K4 d5 e8 c7 f8;have n3:=Kh (b6.kept c7 (by simp));have HN:=Kh hn;have HD:=Kh hd;have l1:=Kh (qOG B wA _ d n k (by omega) (a4.kept c7 (by simp)) hd);clear d5 e8 c7 f8 b6 hn hd h a4 i3 c9 d4 hS;go_enter Tryz.func91,Tryz.ntmps91;go_upto_region 1 with fail;rw[<-m4.out,<-g5.out];clear hP;go_wp2_with fail;refine l1.out.mono ?_;rintro e w1 ⟨sa,sc,vw,rfl,h9,e7⟩;obtain⟨H5,m2⟩:=xW HD.out;obtain⟨l,hl⟩:=Nm (yB d k);have HL:=Kh hl;rw[<-hl]at h9 H5 m2⊢;have H4:=H5.hd.1;obtain⟨gl,rfl,o5,o4,d6⟩:=yH h9 H4;have o9:=(h9.lt gl rfl).1;obtain⟨i1,b8,b3⟩:=K3 d6 e7 H5;have n5:=e7.size;obtain⟨d0,d1,d2,d3⟩:=zE (zB f1.out e7);clear hl h9 d6 e7 H5 l1 c0 c1 c2 c3;go_wp2_with (first|(at_make;refine kW rfl _ _ _ rfl yP rfl .i64 .i64 _ _ n rfl rfl rfl rfl ?b1 ?b2 ?_;(case b1=>omega);(case b2=>(unfold maxLen;omega));intro w2 h4 j4 f5)|fail);obtain⟨G,hG⟩:=Nm w1.heap.size;rw[<-hG]at h4 f5⊢;obtain⟨l2,k7,g8⟩:=K3 h4 j4 hG;have p5:P+1<G:=by omega
 clear h4 j4 hG d0 d1 d2 d3
 go_loopg [7,27] n (fun gh a7 i wr=>∃q:Nat,gh+q=n/\i=.int .i64 q/\Arr wr G 3 (ints (gE n q))/\w1.grownBy wr none)
 case atStart=>exact⟨0,rfl,rfl,by simpa [gE,oB] using l2.out,k7.out⟩
 clear l2 k7;obtain⟨q,hg,rfl,h4,h5⟩:=hrel;obtain⟨HG,HA,H0⟩:=K3 hg h4 h5;clear hg;by_cases hq:q<n
 ·have l7:(q:Int)<n:=by omega
  have cgk:=h4.int q (by rw[pT (by omega)];exact hq);have fgk:=h4.frozen q;have HS:=Kh (qFO hq);clear h4 h5;go_wp2;go_roundg (n-(q+1))
  case measure=>have:=HG.out;omega
  refine⟨q+1,by omega,by go_num,?_,zA H0.out (zD wr ⟨G,q,none⟩ _) (fun q e=>by have h7:G=q:=Oj e;have:=g8.out;omega)⟩;rw[<-HS.out];exact HA.out.int_set q (by rw[pT (by omega)];exact hq) (-1)
 have i5:q=n:=by have:=HG.out;omega
 have HF:Hid (gE n q=sH n (l.take 0)):=Kh (by rw[i5,List.take_zero,aQ];simp[gE]);rw[HF.out]at HA;have g7:=H0;clear i5 h4 h5 HG;obtain⟨w3,rfl⟩:=Nm (wr:World);go_wp2
 go_loopg [8,9,36] l.length (fun gh a8 a9 i wr=>∃q:Nat,gh+q=l.length/\i=.int .i64 q/\Arr wr G 3 (ints (sH n (l.take q)))/\w1.grownBy wr none)
 case atStart=>exact⟨0,rfl,rfl,HA.out,H0.out⟩
 clear HA H0 HF;obtain⟨q,hg,rfl,h4,h5⟩:=hrel;obtain⟨HG,HA,H0⟩:=K3 hg h4 h5;clear hg;by_cases hq:q<l.length
 ·have l7:(q:Int)<l.length:=by omega
  have cl:=(i1.out.kept h5 (by simp)).nat q hq;have f3:l.getD q 0<n:=b3.out.lt _ (by rw[zG hq];exact List.getElem_mem _);have e5:l.take (q+1)=l.take q++[l.getD q 0]:=zT hq
  have a0:l.getD q 0 ∉ l.take q:=by
   have h1:=b3.out.nd;have h2:(l.take (q+1)).Nodup:=h1.sublist (List.take_sublist _ _);rw[e5,List.nodup_append]at h2;exact fun hm=>h2.2.2 _ hm _ (by simp) rfl
  obtain⟨s,hs⟩:=Nm (l.getD q 0);rw[<-hs]at cl f3 e5 a0;have l4:(s:Int)<n:=(by omega);have cgk:=h4.int s (by rw[vM];exact f3);have fgk:=h4.frozen s
  have HS:Hid ((sH n (l.take q)).set s (q:Int)=sH n (l.take (q+1))):=Kh (by
   have:=aP (n:=n) a0;rw[List.length_take,Nat.min_eq_left (by omega)]at this
   rw[this,e5])
  clear h4 h5 e5 a0 hs;go_wp2;go_roundg (l.length-(q+1))
  case measure=>have:=HG.out;omega
  refine⟨q+1,by omega,by go_num,?_,zA H0.out (zD wr ⟨G,s,none⟩ _) (fun q e=>by have h7:G=q:=Oj e;have:=g8.out;omega)⟩;rw[<-HS.out];exact HA.out.int_set s (by rw[vM];exact f3) (q:Int)
 have i6:q=l.length:=by have:=HG.out;omega
 have i8:l.take q=l:=by rw[i6];exact List.take_length
 rw[i8]at HA h4;have k2:=Kh h4;have h8:=Kh h5;clear i6 i8 h4 HA HG h5 g7;obtain⟨w4,rfl⟩:=Nm (wr:World);obtain⟨d0,d1,d2,d3⟩:=zE (zB (zB f1.out b8.out) h8.out);go_upto_region 14 with fail;obtain⟨O,hO⟩:=Nm w4.heap.size;obtain⟨w6,e4⟩:=Nm (w4.alloc (.cells #[.int .i64 (k:Int),.int .i64 0,.slice none 0 0,.slice none 0 0] 30));rw[<-e4,<-hO];have a2:w4.grownBy w6 none:=(by rw[e4];exact Ga w4 _ none);have j6:w6.heap[O]?=some (.cells #[.int .i64 (k:Int),.int .i64 0,.slice none 0 0,.slice none 0 0] 30 (0,0)):=by rw[e4,hO];exact heap_alloc_new w4 _
 have k0:Built O w6 O k 0 [] [] [] none 0 none 0:=⟨j6,World.ownsRow_nil _ _ _ _,World.ownsRow_nil _ _ _ _,wO.nil,rfl⟩;obtain⟨k9,e0,d8⟩:=K3 k0 a2 hO;have p6:G<O:=(by rw[hO];have:=k2.out.lt;omega);have p4:P+1<O:=(by omega);have l3:=a2.size;clear d0 d1 d2 d3 j6 k0 a2 e4 hO;go_wp2
 go_loopg [51] l.length (fun gh i wr=>∃(i':Nat) (hs:List Value) (sf:Option Addr) (cf:Nat) (sn:Option Addr) (cn:Nat),gh+i'=l.length/\i=.int .i64 i'/\Built O wr O k 0 (nU d l i') (nT d l i') hs sf cf sn cn/\w4.grownBy wr (some O))
 case atStart=>exact⟨0,[],none,0,none,0,rfl,rfl,k9.out,wP e0.out⟩
 clear k9 e0;obtain⟨i,hs,sf,cf,sn,cn,hg,rfl,a6,h5⟩:=hrel;obtain⟨k5,e1,H0⟩:=K3 hg a6 h5;have n4:=h5.size;clear hg;by_cases hi:i<l.length
 ·have o8:(i:Int)<l.length:=by omega
  have b7:O≠P:=(by omega);have f6:O≠gl:=(by have:=i1.out.lt;have:=g8.out;omega);have c6:∀x,Hid (x<w4.heap.size->x≠O):=fun x=>Kh (fun h e=>by have:=d8.out;omega);have cl:=((i1.out.kept h8.out (by simp)).kept h5 (fun e=>f6 (Oj e))).nat i hi;have H3:l.getD i 0<n:=b3.out.lt _ (by rw[zG hi];exact List.getElem_mem _);have f0:=Kh (qGL (d:=d) hi);have f9:=Kh (qGJ (d:=d) hi);have a3:=qAV (d:=d) (Nat.le_of_lt hi);have H7:=qAU (d:=d) (Nat.le_of_lt hi);obtain⟨q0,i7⟩:=Nm (l.getD i 0);rw[<-i7]at cl H3 f0 f9;have l6:(q0:Int)<n:=(by omega);have p7:B<=O:=by omega
  have hA:=((n3.out.kept b8.out (by simp)).kept h8.out (by simp)).kept h5 (fun k e=>by have:=Oj e;omega);have ch:=hA.hd q0 H3;obtain⟨d0,d1,d2,d3⟩:=zE (zB (zB (zB f1.out b8.out) h8.out) h5 (fun e=>b7 (Oj e)));obtain⟨wo,rfl⟩:=Nm (wr:World);have i0:=Kh hA;clear hA a6 h5 i7;go_wp2
  go_loopg [13,61] k (fun gh ov i wr=>∃(a:Nat) (sr:Option Addr) (cr:Nat),gh+a=k/\i=.int .i64 a/\ov=.slice sr a cr/\wr.ownsRow wo.heap.size 3 1 (.slice sr a cr) a (ints ((wI l (d.next.getD q0 [])).take a))/\wo.grownBy wr none)
  case atStart=>exact⟨0,none,0,rfl,rfl,rfl,by simpa [ints] using World.ownsRow_nil _ _ _ _,zH _ _⟩
  obtain⟨a,sr,cr,hg,rfl,rfl,c4,h5⟩:=hrel;obtain⟨k4,H6,g6⟩:=K3 hg c4 h5;clear hg c4 d0 d1 d2 d3;by_cases ha:a<k
  ·have p3:(a:Int)<k:=by omega
   have hA:=i0.out.kept h5 (by simp);have ce:=hA.el q0 a H3 ha;have n6:=(hA.rcap q0 H3).1;have f4:=mP HD.out H3 ha;have cp:=(((k2.out.kept H0.out (fun e=>by have:=Oj e;omega)).kept h5 (by simp))).int (nx d q0 a) (by rw[vM];exact f4);rw[aR f4]at cp
   have g1:Hid ((wI l (d.next.getD q0 [])).take (a+1)=(wI l (d.next.getD q0 [])).take a++[rX l (nx d q0 a)]):=Kh (by
    rw[zT (d:=0) (by rw[kF HD.out H3];exact ha),qGK HD.out H3 ha])
   obtain⟨s,hs⟩:=Nm (nx d q0 a);rw[<-hs]at ce f4 cp g1;obtain⟨c,hc⟩:=Nm (rX l s);rw[<-hc]at cp g1;have e6:=h5.size;have l8:(s:Int)<n:=(by omega);clear hA hs hc h5;go_wp2_with (first|(at_builtin;refine app1 rfl _ _ _ rfl yP wo.heap.size _ a (ints ((wI l (d.next.getD q0 [])).take a)) rfl H6.out _ rfl rfl ?c1 ?c2 ?c3 ?_)|fail)
   case c1=>unfold maxLen;omega
   case c2=>omega
   case c3=>exact e6
   intro sa' sc' w6 H8 j3 m1;have m6:=Kh H8;have m9:=Kh j3;clear H8 j3;go_wp2;go_roundg (k-(a+1))
   case measure=>have:=k4.out;omega
   refine⟨a+1,sa',sc',by omega,by go_num,rfl,?_,zA g6.out m9.out (fun q e=>(H6.out.lt q e).1)⟩;rw[g1.out,qFA];exact m6.out
  have j7:a=k:=by have:=k4.out;omega
  have i4:(wI l (d.next.getD q0 [])).take a=wI l (d.next.getD q0 []):=by rw[j7,<-kF HD.out (l:=l) H3];exact List.take_length
  rw[i4]at H6;obtain⟨w5,f2⟩:=Nm wr.drew;have m5:=Kh f2;have a1:wr.grownBy w5 none:=(by rw[f2];exact zN wr none);have b0:=Kh ((e1.out.grow h5).grow a1);have g2:Hid (RowT w5.heap.size 3 w5 (.slice sr a cr) (ints (wI l (d.next.getD q0 [])))):=Kh (RowT.of_owns (zX H6.out a1 (by simp)));have n0:=Kh (zC H0.out (wP (zC h5 a1) (row:=some O)));have j9:=b0.out.box;have H1:=Kh j9;have k3:=Kh b0.out.notbox;have b4:O<=w5.heap.size:=by have:=h5.size;have:=a1.size;have:=d8.out;omega
  have cq:=(((i0.out.kept h5 (by simp)).kept a1 (by simp))).fin H3;obtain⟨_,_,d2,_⟩:=zE (zB (zB (zB (zB (zB f1.out b8.out) h8.out) H0.out (fun e=>b7 (Oj e))) h5) a1);have p0:=i0.out.flt;have m3:O≠fb:=(by omega);obtain⟨bq,j5⟩:=Nm (d.final.getD q0 false);rw[<-j5]at cq f0;obtain⟨fsl,c8⟩:=Nm (nU d l i);obtain⟨tsl,b9⟩:=Nm (nT d l i);rw[<-c8]at b0 H1 f0 a3;rw[<-b9]at b0 H1 f9 H7;have q4:=Kh a3;have p8:=Kh H7;obtain⟨m,hm⟩:=Nm i;rw[<-hm]at a3 H7;have g0:=Kh H7;have j8:=b0.out.many
  have hM:Many w5 (FB sf sn) w5 [⟨O,22,.slice sn m cn,m,hs,1⟩,⟨O,4,.slice sf m cf,m,bls fsl,1⟩] [] []:=by
   have h1:=j8;simp only[rN,rF,a3,H7]at h1;exact h1
  have l0:Hid (∀W:World,(W.cell? ⟨P,2,none⟩=some (.slice (some ⟨fb,fo,none⟩) n fc)/\W.cell? ⟨fb,fo+q0,none⟩=some (.bool bq))->∀(c:Nat) (X:Value),(W.setCell ⟨O,c,none⟩ X).cell? ⟨P,2,none⟩=some (.slice (some ⟨fb,fo,none⟩) n fc)/\(W.setCell ⟨O,c,none⟩ X).cell? ⟨fb,fo+q0,none⟩=some (.bool bq)):=Kh (fun W h c X =>
   ⟨by rw[World.cell?_setCell_far W ⟨O,c,none⟩ ⟨P,2,none⟩ X b7];exact h.1,by rw[World.cell?_setCell_far W ⟨O,c,none⟩ ⟨fb,fo+q0,none⟩ X m3];exact h.2⟩)
  have h0:Hid (∀W rs ls,Many w5 (FB sf sn) W rs ls []->(W.cell? ⟨P,2,none⟩=some (.slice (some ⟨fb,fo,none⟩) n fc)/\W.cell? ⟨fb,fo+q0,none⟩=some (.bool bq))/\(W.cell? ⟨O,3,none⟩=some (.slice sn m cn)/\W.cell? ⟨O,2,none⟩=some (.slice sf m cf))):=Kh (fun W rs ls h=>by
   have j2:=b0.out.ge;have hb:=h.but.heap H1.out k3.out;rw[a3,H7]at hb;obtain⟨_,_,e2,e3⟩:=zE hb
   exact⟨⟨h.but.cell d2 (fun hf=>by have:=j2 _ hf;simp only at this;omega),h.but.cell cq (fun hf=>by have:=j2 _ hf;simp only at this;omega)⟩,e3,e2⟩)
  rw[a3,H7]at H1;have n8:Hid (m=i):=Kh hm;have n9:m<=4194304:=by omega
  clear j8 j9 i4 j7 f2 a1 h5 j5 c8 b9 hm a3 H7 cl ch c6 d2 cq;go_upto_region 23 with fail;refine wp_region_noPanic ?_;refine xE (G:=vU 15 (fun W=>W.cell? ⟨P,2,none⟩=some (.slice (some ⟨fb,fo,none⟩) n fc)/\W.cell? ⟨fb,fo+q0,none⟩=some (.bool bq)) (fun W=>W.cell? ⟨O,3,none⟩=some (.slice sn m cn)/\W.cell? ⟨O,2,none⟩=some (.slice sf m cf))) (by kernel_rfl) ?_;rw[<-m5.out];refine wE 0 ⟨(h0.out _ _ _ hM).1,fun _=>(h0.out _ _ _ hM).2⟩ ?_;refine qOY 1 ⟨(h0.out _ _ _ hM).1,fun _=>(h0.out _ _ _ hM).2⟩ ?_;refine wE 2 ⟨(h0.out _ _ _ hM).1,fun _=>(h0.out _ _ _ hM).2⟩ ?_;refine wE 5 ⟨(h0.out _ _ _ hM).1,fun _=>(h0.out _ _ _ hM).2⟩ ?_;refine qOY 6 ⟨(h0.out _ _ _ hM).1,fun _=>(h0.out _ _ _ hM).2⟩ ?_;refine wE 7 ⟨(h0.out _ _ _ hM).1,fun _=>(h0.out _ _ _ hM).2⟩ ?_;refine wE 8 ⟨(h0.out _ _ _ hM).1,fun _=>(h0.out _ _ _ hM).2⟩ ?_;refine wE 9 ⟨(h0.out _ _ _ hM).1,fun _=>(h0.out _ _ _ hM).2⟩ ?_;refine wE 10 ⟨(h0.out _ _ _ hM).1,fun _=>(h0.out _ _ _ hM).2⟩ ?_;refine wE 11 ⟨(h0.out _ _ _ hM).1,fun _=>(h0.out _ _ _ hM).2⟩ ?_;refine twoG (i:=3) (j:=12) (by kernel_rfl) rfl rfl (fun K hK=>?_) (fun K hK=>?_);go_simp;refine hK.out _ _ ⟨(h0.out _ _ _ (hM.alloc _)).1,fun _=>(h0.out _ _ _ (hM.alloc _)).2⟩ ?_;clear hK K
  try simp only[Act.put,sPa,sPb,sPc]
  refine twoG (i:=4) (j:=12) (by kernel_rfl) rfl rfl (fun K hK=>?_) (fun K hK=>?_);refine uS rfl (.tmp 74) (.tmp 76) 28 rfl vX 0 _ _ rfl ⟨_,_,_,_,_,(hM.alloc _),_,rfl,rfl,rfl,rfl,?g3,?g4,b4,_,_,_,List.Mem.head _,(by first|rfl|simp),rfl,?_⟩
  case g3=>(simp only[];unfold maxLen;omega)
  case g4=>(simp only[];omega)
  intro sa1 sc1 w1x h6;have H4:=h6.litcell (List.Mem.head _)
  try simp only[zL]at H4
  refine hK.out _ _ ⟨(h0.out _ _ _ h6).1,fun _=>(h0.out _ _ _ h6).2⟩ ?_;clear hK K
  try simp only[Act.put,sPa,sPb,sPc]
  refine wE 14 ⟨(h0.out _ _ _ h6).1,fun _=>(h0.out _ _ _ h6).2⟩ ?_;refine oneG (i:=12) (by kernel_rfl) rfl (fun K hK=>?_);go_simp;refine hK.out _ _ ⟨(h0.out _ _ _ (h6.alloc _)).1,fun _=>(h0.out _ _ _ (h6.alloc _)).2⟩ ?_;clear hK K
  try simp only[Act.put,sPa,sPb,sPc]
  rotate_left;go_simp;refine hK.out _ _ ⟨(h0.out _ _ _ ((hM.alloc _).alloc _)).1,fun _=>(h0.out _ _ _ ((hM.alloc _).alloc _)).2⟩ ?_;clear hK K
  try simp only[Act.put,sPa,sPb,sPc]
  refine oneG (i:=4) (by kernel_rfl) rfl (fun K hK=>?_);refine uS rfl (.tmp 74) (.tmp 76) 28 rfl vX 0 _ _ rfl ⟨_,_,_,_,_,((hM.alloc _).alloc _),_,rfl,rfl,rfl,rfl,?g3,?g4,b4,_,_,_,List.Mem.tail _ (List.Mem.head _),(by first|rfl|simp),rfl,?_⟩
  case g3=>(simp only[];unfold maxLen;omega)
  case g4=>(simp only[];omega)
  intro sa1 sc1 w1x h6;have H4:=h6.litcell (List.Mem.head _)
  try simp only[zL]at H4
  have c5:=h6.litcell (List.Mem.tail _ (List.Mem.head _))
  try simp only[zL]at c5
  refine hK.out _ _ ⟨(h0.out _ _ _ h6).1,fun _=>(h0.out _ _ _ h6).2⟩ ?_;clear hK K
  try simp only[Act.put,sPa,sPb,sPc]
  refine wE 14 ⟨(h0.out _ _ _ h6).1,fun _=>(h0.out _ _ _ h6).2⟩ ?_;rotate_left;go_simp;refine hK.out _ _ ⟨(h0.out _ _ _ (hM.alloc _)).1,fun _=>(h0.out _ _ _ (hM.alloc _)).2⟩ ?_;clear hK K
  try simp only[Act.put,sPa,sPb,sPc]
  refine oneG (i:=3) (by kernel_rfl) rfl (fun K hK=>?_);go_simp;refine hK.out _ _ ⟨(h0.out _ _ _ ((hM.alloc _).alloc _)).1,fun _=>(h0.out _ _ _ ((hM.alloc _).alloc _)).2⟩ ?_;clear hK K
  try simp only[Act.put,sPa,sPb,sPc]
  refine oneG (i:=4) (by kernel_rfl) rfl (fun K hK=>?_);refine uS rfl (.tmp 74) (.tmp 76) 28 rfl vX 0 _ _ rfl ⟨_,_,_,_,_,((hM.alloc _).alloc _),_,rfl,rfl,rfl,rfl,?g3,?g4,b4,_,_,_,List.Mem.head _,(by first|rfl|simp),rfl,?_⟩
  case g3=>(simp only[];unfold maxLen;omega)
  case g4=>(simp only[];omega)
  intro sa1 sc1 w1x h6;have H4:=h6.litcell (List.Mem.head _)
  try simp only[zL]at H4
  have c5:=h6.litcell (List.Mem.tail _ (List.Mem.head _))
  try simp only[zL]at c5
  refine hK.out _ _ ⟨(h0.out _ _ _ h6).1,fun _=>(h0.out _ _ _ h6).2⟩ ?_;clear hK K
  try simp only[Act.put,sPa,sPb,sPc]
  refine wE 14 ⟨(h0.out _ _ _ h6).1,fun _=>(h0.out _ _ _ h6).2⟩ ?_
  all_goals
   refine oneG (i:=13) (by kernel_rfl) rfl (fun K hK=>?_)
   first
   | refine uS rfl (.tmp 79) (.tmp 85) 27 rfl xL 1 _ _ rfl ⟨_,_,_,_,_,(h6.alloc _),_,rfl,rfl,rfl,rfl,?g3,?g4,b4,_,_,_,List.Mem.head _,(by first|rfl|simp),rfl,?_⟩
   | refine uS rfl (.tmp 79) (.tmp 85) 27 rfl xL 1 _ _ rfl ⟨_,_,_,_,_,h6,_,rfl,rfl,rfl,rfl,?g3,?g4,b4,_,_,_,List.Mem.head _,(by first|rfl|simp),rfl,?_⟩
   | refine uS rfl (.tmp 79) (.tmp 85) 27 rfl xL 1 _ _ rfl ⟨_,_,_,_,_,h6,_,rfl,rfl,rfl,rfl,?g3,?g4,b4,_,_,_,List.Mem.tail _ (List.Mem.head _),(by first|rfl|simp),rfl,?_⟩
   case g3=>(simp only[];unfold maxLen;omega)
   case g4=>(simp only[];omega)
   intro sa2 sc2 w2x H9;have H4:=H9.litcell (List.Mem.head _)
   try simp only[zL]at H4
   have c5:=H9.litcell (List.Mem.tail _ (List.Mem.head _))
   try simp only[zL]at c5
   refine hK.out _ _ ⟨(h0.out _ _ _ H9).1,fun _=>(h0.out _ _ _ H9).2⟩ ?_;clear hK K
   try simp only[Act.put,sPa,sPb,sPc]
   refine oneG (i:=15) (by kernel_rfl) rfl (fun K hK=>?_);have b5:=H9.but.heap H1.out k3.out;have cb3:=zJ b5 3;have cb2:=zJ b5 2;have fb3:=zF b5 3;have fb2:=zF b5 2;simp only[sPd,sPe,sPf]at cb3 cb2;go_simp;have a5:=heap_setCell_same _ O 3 _ _ (.slice sa1 (m+1) sc1) b5;have cb22:=zJ a5 2;have fb22:=zF a5 2;simp at cb22;have e9:=l0.out _ (h0.out _ _ _ H9).1 3 (.slice sa1 (m+1) sc1);refine hK.out _ _ ⟨e9,fun h=>by simp at h⟩ ?_;clear hK K
   try simp only[Act.put,sPa,sPb,sPc]
   refine wE 16 ⟨e9,fun h=>by simp at h⟩ ?_;refine oneG (i:=17) (by kernel_rfl) rfl (fun K hK=>?_);go_simp;have d7:=l0.out _ e9 2 (.slice sa2 (m+1) sc2);refine hK.out _ _ ⟨d7,fun h=>by simp at h⟩ ?_;clear hK K
   try simp only[Act.put,sPa,sPb,sPc]
   refine nO (by kernel_rfl) ?_ _;refine NoPanic.normal ?_;obtain⟨a6,j1⟩:=b0.out.push (b:=bq) (row:=wI l (d.next.getD q0 [])) g0.out H9 g2.out rfl;have g9:=Kh a6;have m8:=Kh (j1 w4 n0.out (by have:=d8.out;omega));clear a6 j1 cb3 cb2 fb3 fb2 b5 a5 cb22 fb22 e9 d7 H9
   (try clear h6)
   go_wp2;go_roundg (l.length-(i+1))
   case measure=>have:=k5.out;omega
   exact⟨i+1,_,_,_,_,_,by omega,by go_num,g9.out.congr f0.out f9.out,m8.out⟩
 have j0:i=l.length:=by have:=k5.out;omega
 have k8:Hid (nU d l i=(xY d k).final/\nT d l i=(xY d k).next):=Kh (by
  rw[j0];simp only[nU,nT,List.take_length];rw[HL.out]
  exact⟨rfl,rfl⟩)
 have b7:O≠P+1:=(by omega);have H2:=zB (zB (zB n2.out b8.out) h8.out) h5 (fun e=>b7 (Oj e));have r0:=zJ H2 0;have r1:=zJ H2 1;have r2:=zJ H2 2;have r3:=zJ H2 3;have q0:=zF H2 0;have q1:=zF H2 1;have q2:=zF H2 2;have q3:=zF H2 3;simp only[sPd,sPe,sPf]at r0 r1 r2 r3;have d9:=Kh H2;obtain⟨o0,o1,o2,o3⟩:=zE a6.box;clear a6 h5 H2 j0;go_wp2;refine bodyPost_ret (v:=.tuple #[.agg #[.int .i64 (k:Int),.int .i64 0,.slice sf (nU d l i).length cf,.slice sn (nT d l i).length cn],.slice (some ⟨G,0,none⟩) n n]) (by simp[results,Tryz.results91,go_sem,r0,r1,r2,r3]) rfl ?_;obtain⟨l5,e6⟩:=vY d9.out (.int .i64 (k:Int)) (.int .i64 0) (.slice sf (nU d l i).length cf) (.slice sn (nT d l i).length cn);have f7:=e1.out.far e6 d9.out (fun e=>b7 e.symm);refine⟨_,_,rfl,?_,?_⟩
 ·have he:xY d k=⟨(k:Int),0,nU d l i,nT d l i⟩:=by
   rw[k8.out.1,k8.out.2];have:=HD.out.hk;simp only[xY,this]
  rw[he];exact⟨O,hs,sf,cf,sn,cn,rfl,by have h1:=h8.out.size;have h2:=d8.out;have h3:=g5.out;omega,f7⟩
 refine zA (zC m7.out (zC b8.out (zC h8.out (zA (zH _ _) H0.out (fun x e=>by have:=Oj e;have:=d8.out;omega))))) e6 (fun x e=>by have:=Oj e;have:=g5.out;omega)
def xAW (w:World)(d:DfaV)(n k:Nat)(e:Ending)(w':World):Prop :=
 ∃v G,e=.returned (.tuple #[v,.slice (some ⟨G,0,none⟩) n n])/\sZ w w' v (xY d k)/\w.heap.size<=G/\Arr w' G 3 (ints (sH n (yB d k)))/\w.grownBy w' none
theorem qDS (B:Nat)(w:World)(v:Value)(d:DfaV)(n k:Nat)(hB:B<=w.heap.size)(h:tM B w v d)(hd:VD d n k)(h5:n<=512):Calls Tryz.prog 84 #[v] w (xAW w d n k):=by
 have H0:=h;obtain⟨fb,fo,fc,b,off,cap,RB,RO,RC,rfl,H5⟩:=h.at hd;have hn:=hd.hn;have j8:=hd.n1;have k2:=hd.k6;have k3:=hd.k1;have k4:=H5.fcap.1;have H8:=H5.fcap.2;have k5:=H5.cap.1;have H9:=H5.cap.2;have f9:fc<=9223372036854775807:=by unfold maxLen at H8;omega
 have f8:cap<=9223372036854775807:=by unfold maxLen at H9;omega
 obtain⟨S,hS⟩:=Nm (st0 d);have g9:=Kh hS;have d6:dAgg k (st0 d) fb fo fc b off cap n=.agg #[.int .i64 (k:Int),.int .i64 (S:Int),.slice (some ⟨fb,fo,none⟩) n fc,.slice (some ⟨b,off,none⟩) n cap]:=by rw[hS];rfl
 rw[d6]at H0⊢;obtain⟨a1,b4,H6,d4⟩:=rL w #[.int .i64 (k:Int),.int .i64 (S:Int),.slice (some ⟨fb,fo,none⟩) n fc,.slice (some ⟨b,off,none⟩) n cap] #[.int .i64 0,.int .i64 0,.slice none 0 0,.slice none 0 0] 30;obtain⟨wA,c4⟩:=Nm ((w.alloc (.cells #[.int .i64 (k:Int),.int .i64 (S:Int),.slice (some ⟨fb,fo,none⟩) n fc,.slice (some ⟨b,off,none⟩) n cap] 30)).alloc (.cells #[.int .i64 0,.int .i64 0,.slice none 0 0,.slice none 0 0] 30));rw[<-c4]at a1 b4 H6 d4;obtain⟨c0,c1,c2,c3⟩:=zE a1;obtain⟨P,hP⟩:=Nm w.heap.size;obtain⟨Q,hQ⟩:=Nm (w.heap.size+1);have i2:=Kh hP;have i0:Hid (Q=P+1):=Kh (by omega);have l2:P<Q:=by omega
 have k8:Q<wA.heap.size:=by omega
 have l1:w.heap.size<=P:=by omega
 have g4:B<=wA.heap.size:=by omega
 rw[<-hQ]at b4;rw[<-hP]at a1 c0 c1 c2 c3 hB;obtain⟨j2,j1,i6,g5⟩:=K4 a1 b4 H6 c4;have j3:=Kh (H5.kept H6 (by simp));have HN:=Kh hn;have HD:=Kh hd;have e7:=Kh (sK B wA _ d g4 (H0.kept H6 (by simp)));have g7:=Kh (eG hd h5);clear a1 b4 H6 c4 H5 hn hd h H0 d6 H8 H9 hS d4 hP hQ;go_enter Tryz.func84,Tryz.ntmps84;go_upto_region 1 with fail;rw[<-g5.out,<-i2.out,<-i0.out];go_wp2_with fail;refine e7.out.mono ?_;rintro e w1 ⟨rfl,H4⟩;rw[g7.out];have j7:=H4.size;have i7:=Kh H4;have H3:=Kh (zB j2.out H4);have c9:=Kh (zB j1.out H4);have e9:=Kh (qHZ B w1 P d n k S fb fo fc b off cap RB RO RC g9.out h5 ⟨H3.out,j3.out.kept H4 (by simp)⟩);obtain⟨d0,d1,d2,d3⟩:=zE H3.out;clear H4 e7 c0 c1 c2 c3;go_wp2_with fail;refine e9.out.mono ?_;rintro e w2 ⟨v2,sa,sc,rfl,⟨o,hs,sf,cf,sn,cn,rfl,ho,H1⟩,h3,b9⟩;clear e9 d0 d1 d2 d3;obtain⟨h6,g0⟩:=xW HD.out;obtain⟨l,hl⟩:=Nm (yB d k);have HL:=Kh hl;rw[<-hl]at h3 h6 g0⊢;have g1:=h6.hd.1;obtain⟨gl,rfl,k0,j9,a2⟩:=yH h3 g1;obtain⟨m,hm⟩:=Nm (xY d k);rw[<-hm]at H1;have HM:=Kh hm;have a6:(xY d k).start=0:=rfl;have b0:(xY d k).letters=k:=HD.out.hk;rw[<-hm]at a6 b0;rw[<-hm,a6,b0];obtain⟨j4,c8,a4,i9,i4,i5⟩:=K6 a2 b9 h6 H1 a6 b0;have j6:=b9.size;obtain⟨FL,c6⟩:=Nm m.final.length;obtain⟨NL,c5⟩:=Nm m.next.length;rw[<-c6,<-c5];have i8:=Kh c6;have i3:=Kh c5;clear hl h3 a2 b9 h6 hm a6 b0 H1 c6 c5;obtain⟨w3,b6⟩:=Nm (w2.alloc (.cells #[.int .i64 (k:Int),.int .i64 0,.slice sf FL cf,.slice sn NL cn] 30));obtain⟨T,hT⟩:=Nm w2.heap.size;have H7:=Ga w2 (.cells #[.int .i64 (k:Int),.int .i64 0,.slice sf FL cf,.slice sn NL cn] 30) none;have a0:=heap_alloc_new w2 (.cells #[.int .i64 (k:Int),.int .i64 0,.slice sf FL cf,.slice sn NL cn] 30);rw[<-b6]at H7 a0;rw[<-hT]at a0;obtain⟨b5,j0,g6,g8⟩:=K4 H7 a0 b6 hT;have j5:=H7.size;have k7:=zM a0;have k9:Q<T:=by omega
 have l0:P+1<w3.heap.size:=by omega
 obtain⟨d0,d1,d2,d3⟩:=zE (zB (zB H3.out c8.out) H7);clear H7 a0 b6 hT;go_upto_region 4 with fail;rw[<-g6.out,<-g8.out];go_wp2_with (first|(at_make;refine kW rfl _ _ _ rfl yP rfl .i64 .i64 _ _ n rfl rfl rfl rfl ?b1 ?b2 ?_;(case b1=>omega);(case b2=>(unfold maxLen;omega));intro w4 h0 e5 b8)|fail);obtain⟨G,hG⟩:=Nm w3.heap.size;rw[<-hG]at h0 b8⊢;obtain⟨f5,e8,c7⟩:=K3 h0 e5 hG;have l3:T<G:=by omega
 clear h0 e5 hG d0 d1 d2 d3
 go_loopg [8,32] n (fun gh a7 i wr=>∃q:Nat,gh+q=n/\i=.int .i64 q/\Arr wr G 3 (ints (gE n q))/\w3.grownBy wr none)
 case atStart=>exact⟨0,rfl,rfl,by simpa [gE,oB] using f5.out,e8.out⟩
 clear f5 e8;obtain⟨q,hg,rfl,h0,h4⟩:=hrel;obtain⟨HG,HA,a3⟩:=K3 hg h0 h4;clear hg;by_cases hq:q<n
 ·have f7:(q:Int)<n:=by omega
  have cgk:=h0.int q (by rw[pT (by omega)];exact hq);have fgk:=h0.frozen q;have HS:=Kh (qFO hq);clear h0 h4;go_wp2;go_roundg (n-(q+1))
  case measure=>have:=HG.out;omega
  refine⟨q+1,by omega,by go_num,?_,zA a3.out (zD wr ⟨G,q,none⟩ _) (fun q e=>by have h7:G=q:=Oj e;have:=c7.out;omega)⟩;rw[<-HS.out];exact HA.out.int_set q (by rw[pT (by omega)];exact hq) (-1)
 have d7:q=n:=by have:=HG.out;omega
 have HF:Hid (gE n q=sH n (l.take 0)):=Kh (by rw[d7,List.take_zero,aQ];simp[gE]);rw[HF.out]at HA;clear d7 h0 h4 HG;obtain⟨w5,rfl⟩:=Nm (wr:World);go_wp2
 go_loopg [9,10,41] l.length (fun gh a8 a9 i wr=>∃q:Nat,gh+q=l.length/\i=.int .i64 q/\Arr wr G 3 (ints (sH n (l.take q)))/\w3.grownBy wr none)
 case atStart=>exact⟨0,rfl,rfl,HA.out,a3.out⟩
 clear HA a3 HF;obtain⟨q,hg,rfl,h0,h4⟩:=hrel;obtain⟨HG,HA,a3⟩:=K3 hg h0 h4;clear hg;by_cases hq:q<l.length
 ·have f7:(q:Int)<l.length:=by omega
  have cl:=((j4.out.kept b5.out (by simp)).kept h4 (by simp)).nat q hq;have b7:l.getD q 0<n:=a4.out.lt _ (by rw[zG hq];exact List.getElem_mem _);have a5:l.take (q+1)=l.take q++[l.getD q 0]:=zT hq
  have h9:l.getD q 0 ∉ l.take q:=by
   have h1:=a4.out.nd;have h2:(l.take (q+1)).Nodup:=h1.sublist (List.take_sublist _ _);rw[a5,List.nodup_append]at h2;exact fun hm=>h2.2.2 _ hm _ (by simp) rfl
  obtain⟨s,hs⟩:=Nm (l.getD q 0);rw[<-hs]at cl b7 a5 h9;have f6:(s:Int)<n:=(by omega);have cgk:=h0.int s (by rw[vM];exact b7);have fgk:=h0.frozen s
  have HS:Hid ((sH n (l.take q)).set s (q:Int)=sH n (l.take (q+1))):=Kh (by
   have:=aP (n:=n) h9;rw[List.length_take,Nat.min_eq_left (by omega)]at this
   rw[this,a5])
  clear h0 h4 a5 h9 hs;go_wp2;go_roundg (l.length-(q+1))
  case measure=>have:=HG.out;omega
  refine⟨q+1,by omega,by go_num,?_,zA a3.out (zD wr ⟨G,s,none⟩ _) (fun q e=>by have h7:G=q:=Oj e;have:=c7.out;omega)⟩;rw[<-HS.out];exact HA.out.int_set s (by rw[vM];exact b7) (q:Int)
 have d8:q=l.length:=by have:=HG.out;omega
 have d9:l.take q=l:=by rw[d8];exact List.take_length
 rw[d9]at HA h0;have i1:=Kh h0;have h8:=Kh h4;clear d8 d9 h0 HA HG h4;obtain⟨e0,e1,e2,e3⟩:=zE (zB j0.out h8.out);have H2:=zB (zB (zB c9.out c8.out) b5.out) h8.out;obtain⟨q0,q1,q2,q3⟩:=zE H2;have f0:=zF H2 0;have f1:=zF H2 1;have f2:=zF H2 2;have f3:=zF H2 3;have f4:=Kh H2;clear H2;go_wp2;obtain⟨e6,b3⟩:=vY f4.out (.int .i64 (k:Int)) (.int .i64 0) (.slice sf FL cf) (.slice sn NL cn);obtain⟨wz,d5⟩:=Nm ((((wr.setCell ⟨Q,0,none⟩ (.int .i64 (k:Int))).setCell ⟨Q,1,none⟩ (.int .i64 0)).setCell ⟨Q,2,none⟩ (.slice sf FL cf)).setCell ⟨Q,3,none⟩ (.slice sn NL cn));rw[<-d5]at e6 b3⊢;clear d5;obtain⟨r0,r1,r2,r3⟩:=zE e6;clear e0 e1 e2 e3 q0 q1 q2 q3 f0 f1 f2 f3;refine bodyPost_ret (v:=.tuple #[.agg #[.int .i64 (k:Int),.int .i64 0,.slice sf FL cf,.slice sn NL cn],.slice (some ⟨G,0,none⟩) n n]) (by simp[results,Tryz.results84,go_sem,r0,r1,r2,r3]) rfl ?_;have g2:w.grownBy wz none:=zA (zA (zA (zA (zA i6.out i7.out) c8.out) b5.out) h8.out) b3 (fun k e=>by have h7:Q=k:=Oj e;omega);have g3:=((i9.out.grow b5.out).grow h8.out).far b3 f4.out (by omega);have e4:xY d k=m:=HM.out.symm;refine⟨_,G,rfl,⟨o,hs,sf,cf,sn,cn,?_,by omega,by rw[e4];exact g3⟩,by have:=c7.out;omega,?_,g2⟩
 ·rw[e4,i4.out,i5.out,i8.out,i3.out]
 rw[<-HL.out];exact i1.out.kept b3 (fun e=>by have h7:Q=G:=Oj e;omega)
end Go.Proofs.YtcoimliafiammaaGreat
namespace Go.Proofs.YtcoimliafiammaaGreat
def acc (d:DfaV)(q:Nat)(w:List Nat):Bool:=d.final.getD (run d q w) false
theorem qXD {a b:Bool}(h:finB a=finB b):a=b:=by cases a<;>cases b<;>simp[finB]at h<;>rfl
section
variable {d:DfaV} {n k:Nat}
theorem dC (hd:VD d n k){q q':Nat}(hq:q<n)(a9:q'<n):(jX d).getD q 0=(jX d).getD q' 0↔d.final.getD q false=d.final.getD q' false:=by
 have hn:=hd.hn;rw[jX,nH (by rw[List.length_map];omega) (by rw[List.length_map];omega),List.getElem_map,List.getElem_map,<-zG (d:=false),<-zG (d:=false)];exact⟨qXD,fun h=>by rw[h]⟩
theorem cX (hd:VD d n k):∀m {q q':Nat},q<n->q'<n->(yY d k m).getD q 0=(yY d k m).getD q' 0->d.final.getD q false=d.final.getD q' false
 | 0,q,q',hq,hq',h=>(dC hd hq hq').1 h
 | m+1,q,q',hq,hq',h=>cX hd m hq hq' ((qQ hd (by rw[yZ,hd.hn]) (by rw[<-hd.hn];exact qKY d k m) hq hq' k (Nat.le_refl _)).1 h).1
theorem cW (hd:VD d n k):∀m {q q':Nat},q<n->q'<n->(yY d k m).getD q 0≠(yY d k m).getD q' 0->∃w,yO k w/\acc d q w≠acc d q' w
 | 0,q,q',hq,hq',h=>⟨[],fun a ha=>by simp at ha,fun e=>h ((dC hd hq hq').2 e)⟩
 | m+1,q,q',hq,hq',h=>by
  by_cases h1:(yY d k m).getD q 0=(yY d k m).getD q' 0
  ·have hx:¬∀a,a<k->(yY d k m).getD (nx d q a) 0=(yY d k m).getD (nx d q' a) 0:=fun ha=>h ((qQ hd (by rw[yZ,hd.hn]) (by rw[<-hd.hn];exact qKY d k m) hq hq' k (Nat.le_refl _)).2 ⟨h1,ha⟩)
   obtain⟨a,ha⟩:=Classical.not_forall.1 hx
   obtain⟨ha,hne⟩:=Classical.not_imp.1 ha
   obtain⟨w,hw,e⟩:=cW hd m (mP hd hq ha) (mP hd hq' ha) hne
   exact⟨a::w,fun b hb=>by
    rcases List.mem_cons.1 hb with rfl|hb
    ·exact ha
    ·exact hw b hb,e⟩
  ·exact cW hd m hq hq' h1
theorem qBH (d:DfaV)(p:List Nat):st0 (tO d p)=p.getD (st0 d) 0:=by simp[st0,tO]
theorem jS (hd:VD d n k){q:Nat}(hq:q<n){w:List Nat}(hw:yO k w):acc (tO d (yX d k)) ((yX d k).getD q 0) w=acc d q w:=by
 have hl:(yX d k).length=n:=by rw[vD,hd.hn]
 have hN:=sU d k;have hr:=aF hd w hq hw;unfold acc;rw[qJN hd hl hN (qFW hd) w hq hw];have hc:=qS hN (show run d q w<(yX d k).length by omega);have hg:=oZ hN hc;show ((reps (yX d k)).map fun q=>d.final.getD q false).getD _ false=_;rw[tU (x:=0) (by rw[qP hN];exact hc)];exact cX hd _ (by omega) hr hg.1
theorem qJO (hd:VD d n k){c c':Nat}(hc:c<cls (yX d k))(a9:c'<cls (yX d k))(h:∀w,yO k w->acc (tO d (yX d k)) c w=acc (tO d (yX d k)) c' w):c=c':=by
 have hl:(yX d k).length=n:=by rw[vD,hd.hn]
 have hN:=sU d k;obtain⟨h1,h2⟩:=oZ hN hc;obtain⟨h3,h4⟩:=oZ hN a9;rw[hl]at h2 h4;rcases Decidable.em (c=c') with e|e
 ·exact e
 exfalso;obtain⟨w,hw,h0⟩:=cW hd d.final.length h2 h4 (by rw[show yY d k d.final.length=yX d k from rfl,h1,h3];exact e);have a1:=jS hd h2 hw;have a2:=jS hd h4 hw;rw[h1]at a1;rw[h3]at a2;exact h0 (a1.symm.trans ((h w hw).trans a2))
theorem qJB (hd:VD d n k){w:List Nat}(hw:yO k w):acc (xY d k) 0 w=acc d (st0 d) w:=by
 have hA:=(xW hd).1;have hr:=aF (kP hd) w (kP hd).n1 hw;unfold acc;rw[iV hd hr,qJA hd w hA.hd.1 hw,hA.hd.2]
theorem qRL (hd:VD d n k){w:List Nat}(hw:yO k w):acc (minD d k) 0 w=acc d (st0 d) w:=by
 rw[show acc (minD d k) 0 w=acc (tO d (yX d k)) (st0 (tO d (yX d k))) w from qJB (jT hd) hw,qBH];exact jS hd (oJ hd) hw
end
inductive Side (R:Nat->Nat->Prop):List Nat->List Nat->Prop
 | nil:Side R [] []
 | snoc {l l':List Nat} {q q':Nat}:Side R l l'->R q q'->Side R (l++[q]) (l'++[q'])
theorem Side.len {R:Nat->Nat->Prop}{l l':List Nat}(h:Side R l l'):l.length=l'.length:=by
 induction h with
 | nil=>rfl
 | snoc _ _ ih=>simp[ih]
theorem Side.get {R:Nat->Nat->Prop}{l l':List Nat}(h:Side R l l'):∀i,i<l.length->R (l.getD i 0) (l'.getD i 0):=by
 induction h with
 | nil=>intro i hi;simp at hi
 | @snoc l l' q q' hs hr ih =>
  intro i hi;have hl:=hs.len;simp at hi;by_cases e:i<l.length
  ·rw[qV (List.prefix_append _ _) e,qV (List.prefix_append _ _) (by omega)];exact ih i e
  have e1:i=l.length:=by omega
  subst e1;have a1:(l++[q]).getD l.length 0=q:=by simp[List.getD]
  have a2:(l'++[q']).getD l.length 0=q':=by rw[hl];simp[List.getD]
  rw[a1,a2];exact hr
structure One (R:Nat->Nat->Prop):Prop where
 l:∀ {q q' r'},R q q'->R q r'->q'=r'
 r:∀ {q r q'},R q q'->R r q'->q=r
theorem Side.mem {R:Nat->Nat->Prop}(hR:One R){l l':List Nat}(h:Side R l l'){q q':Nat}(hq:R q q'):q∈l↔q'∈l':=by
 have hl:=h.len;constructor
 ·intro hm
  obtain⟨i,hi,rfl⟩:=List.getElem_of_mem hm;have:=h.get i hi;rw[zG hi]at this;rw[hR.l hq this,zG (by omega)];exact List.getElem_mem _
 intro hm;obtain⟨i,hi,rfl⟩:=List.getElem_of_mem hm;have:=h.get i (by omega);rw[zG hi,zG (show i<l.length by omega)]at this;rw[hR.r hq this];exact List.getElem_mem _
theorem Side.add {R:Nat->Nat->Prop}(hR:One R){l l':List Nat}(h:Side R l l'){q q':Nat}(hq:R q q'):Side R (xV l q) (xV l' q'):=by
 unfold xV;by_cases e:q∈l
 ·rw[if_pos e,if_pos ((h.mem hR hq).1 e)];exact h
 rw[if_neg e,if_neg (fun e'=>e ((h.mem hR hq).2 e'))];exact .snoc h hq
theorem Side.idx {R:Nat->Nat->Prop}(hR:One R){l l':List Nat}(h:Side R l l')(hn:l.Nodup)(a9:l'.Nodup){q q':Nat}(hq:R q q')(hm:q∈l):l.idxOf q=l'.idxOf q':=by
 have hi:=List.idxOf_lt_length_of_mem hm;have hl:=h.len;have:=h.get _ hi;rw[zG hi,List.getElem_idxOf,zG (show l.idxOf q<l'.length by omega)]at this;have e:=hR.l hq this;have h0:=(h.mem hR hq).1 hm;have h1:=List.idxOf_lt_length_of_mem h0;have e2:l'[l'.idxOf q']=l'[l.idxOf q]'(by omega):=by rw[List.getElem_idxOf];exact e
 exact((List.getElem_inj a9).1 e2).symm
section
variable {x x':DfaV} {n n' k:Nat} {R:Nat->Nat->Prop}
theorem qJI (hR:One R)(hs:∀ {q q' a},R q q'->a<k->R (nx x q a) (nx x' q' a)){l l':List Nat}(h:Side R l l'){i:Nat}(hi:i<l.length):∀a,a<=k->Side R (vG x l i a) (vG x' l' i a)
 | 0,_=>h
 | a+1,ha=>(qJI hR hs h hi a (by omega)).add hR (hs (h.get i hi) (by omega))
theorem qPL (hR:One R)(hs:∀ {q q' a},R q q'->a<k->R (nx x q a) (nx x' q' a)):∀f i {l l':List Nat},Side R l l'->Side R (qA x k f i l) (qA x' k f i l')
 | 0,_,_,_,h=>h
 | f+1,i,l,l',h=>by
  rw[qA,qA,h.len]
  by_cases e:i<l'.length
  ·rw[if_pos e,if_pos e]
   exact qPL hR hs f (i+1) (qJI hR hs h (by rw[h.len];exact e) k (Nat.le_refl _))
  ·rw[if_neg e,if_neg e];exact h
end
theorem qAO {d:DfaV}{n k:Nat}(hd:VD d n k):∀f i l m,AccI d n k i l->n<=i+f->qA d k (f+m) i l=qA d k f i l
 | 0,i,l,m,h,hf=>by
  have hl:=lO h.nd h.lt
  rw[bI (f:=0+m) (by omega),qA]
 | f+1,i,l,m,h,hf=>by
  rw[show f+1+m=(f+m)+1 by omega,qA,qA]
  by_cases e:i<l.length
  ·rw[if_pos e,if_pos e]
   exact qAO hd f (i+1) _ m (h.row hd e) (by omega)
  ·rw[if_neg e,if_neg e]
theorem bH {d:DfaV}{n k:Nat}(hd:VD d n k)(m:Nat):qA d k (n+m) 0 [st0 d]=yB d k:=by
 rw[yB,hd.hn];exact qAO hd n 0 _ m (AccI.start hd) (by omega)
theorem qLR {x x':DfaV}{n n' k:Nat}(hx:VD x n k)(a9:VD x' n' k)(hr:∀ {c c'},c<n->c'<n->(∀w,yO k w->acc x c w=acc x c' w)->c=c')(a8:∀ {c c'},c<n'->c'<n'->(∀w,yO k w->acc x' c w=acc x' c' w)->c=c')(hl:∀w,yO k w->acc x (st0 x) w=acc x' (st0 x') w):xY x k=xY x' k:=by
 obtain⟨R,h8⟩:∃R:Nat->Nat->Prop,∀q q',R q q'↔q<n/\q'<n'/\∀w,yO k w->acc x q w=acc x' q' w:=⟨fun q q'=>q<n/\q'<n'/\∀w,yO k w->acc x q w=acc x' q' w,fun _ _=>Iff.rfl⟩
 have hR:One R:=by
  refine⟨fun {q q' r'} h1 h2=>?_,fun {q r q'} h1 h2=>?_⟩
  ·obtain⟨_,h3,h4⟩:=(h8 _ _).1 h1
   obtain⟨_,h5,h6⟩:=(h8 _ _).1 h2;exact a8 h3 h5 (fun w hw=>(h4 w hw).symm.trans (h6 w hw))
  obtain⟨h3,_,h4⟩:=(h8 _ _).1 h1;obtain⟨h5,_,h6⟩:=(h8 _ _).1 h2;exact hr h3 h5 (fun w hw=>(h4 w hw).trans (h6 w hw).symm)
 have hs:∀ {q q' a},R q q'->a<k->R (nx x q a) (nx x' q' a):=fun {q q' a} h ha=>by
  obtain⟨h1,h2,h3⟩:=(h8 _ _).1 h
  exact(h8 _ _).2 ⟨mP hx h1 ha,mP a9 h2 ha,fun w hw=>h3 (a::w) (fun b hb=>by
   rcases List.mem_cons.1 hb with rfl|hb
   ·exact ha
   exact hw b hb)⟩
 have h0:R (st0 x) (st0 x'):=(h8 _ _).2 ⟨oJ hx,oJ a9,hl⟩
 have h7:Side R (yB x k) (yB x' k):=by
  have:=qPL (x:=x) (x':=x') (k:=k) hR hs (n+n') 0 (Side.snoc .nil h0);rw[List.nil_append,List.nil_append,bH hx n']at this;rw[Nat.add_comm n n',bH a9 n]at this;exact this
 have hA:=(xW hx).1;have H2:=(xW a9).1;have h9:=h7.len;have hm:∀i,i<(yB x k).length->(yB x k).getD i 0∈yB x k:=fun i hi=>by rw[zG hi];exact List.getElem_mem _
 have key:∀i,i<(yB x k).length->(xY x k).final.getD i false=(xY x' k).final.getD i false:=fun i hi=>by
  rw[iV hx hi,iV a9 (by omega)];obtain⟨_,_,h⟩:=(h8 _ _).1 (h7.get i hi);exact h [] (fun a ha=>by simp at ha)
 have hv:=kP hx;have H0:=kP a9;have e1:(xY x k).letters=(xY x' k).letters:=hx.hk.trans a9.hk.symm
 have e3:(xY x k).final=(xY x' k).final:=by
  refine List.ext_getElem (by rw[hv.hn,H0.hn,h9]) fun i h1 h2=>?_;have:=key i (by rw[hv.hn]at h1;exact h1);rw[zG h1,zG h2]at this;exact this
 have e4:(xY x k).next=(xY x' k).next:=by
  refine List.ext_getElem (by rw[hv.nl,H0.nl,h9]) fun i h1 h2=>?_;have hi:i<(yB x k).length:=by rw[hv.nl]at h1;exact h1
  have r1:=hv.row i hi;have r2:=H0.row i (by omega);rw[zG h1]at r1;rw[zG h2]at r2;refine List.ext_getElem (by rw[r1,r2]) fun a h3 h4=>?_;have ha:a<k:=by omega
  have t1:=jN hx hi ha;have t2:=jN a9 (show i<(yB x' k).length by omega) ha;have hq:=h7.get i hi;have H3:=(xW hx).2;have H1:=hA.cl i a (by omega) hi ha;rw[h7.idx hR hA.nd H2.nd (hs hq ha) H1,<-t2]at t1;unfold ent at t1;rw[zG h1,zG h2,zG h3,zG h4]at t1;exact t1
 show (⟨_,0,(xY x k).final,(xY x k).next⟩:DfaV)=⟨_,0,(xY x' k).final,(xY x' k).next⟩;rw[e3,e4];exact congrArg (fun z=>(⟨z,0,(xY x' k).final,(xY x' k).next⟩:DfaV)) e1
theorem qER {d d':DfaV}{n n' k:Nat}(hd:VD d n k)(a9:VD d' n' k)(h:∀w,yO k w->acc d (st0 d) w=acc d' (st0 d') w):minD d k=minD d' k:=by
 refine qLR (jT hd) (jT a9) (fun h1 h2=>qJO hd h1 h2) (fun h1 h2=>qJO a9 h1 h2) fun w hw=>?_;rw[qBH,qBH,jS hd (oJ hd) hw,jS a9 (oJ a9) hw];exact h w hw
theorem qWG {d:DfaV}{n k:Nat}(hd:VD d n k):minD (xY d k) k=minD d k:=qER (kP hd) hd (fun w hw=>by rw[show st0 (xY d k)=0 from rfl];exact qJB hd hw)
def kB (d:DfaV)(p:List Nat)(q x:Nat):List Nat:=(p.getD q 0::(List.range x).map fun a=>p.getD (nx d q a) 0)++List.replicate (6-x) 0
theorem mG {d:DfaV}{p:List Nat}{q x:Nat}(h:x<=6):(kB d p q x).length=7:=by simp[kB];omega
theorem qPJ {d:DfaV}{p:List Nat}{q x:Nat}(h:x<6):(kB d p q x).set (1+x) (p.getD (nx d q x) 0)=kB d p q (x+1):=by
 unfold kB;rw[List.set_append_right _ _ (by simp;omega),List.range_succ,List.map_append,show 6-x=(6-(x+1))+1 by omega,List.replicate_succ];simp[Nat.add_comm]
theorem qUO {d:DfaV}{p:List Nat}{q x N:Nat}(h:∀c∈p,c<N)(hN:0<N):∀y∈kB d p q x,y<N:=by
 intro y hy;rcases List.mem_append.1 hy with hy|hy
 ·rcases List.mem_cons.1 hy with rfl|hy
  ·exact qM h hN
  obtain⟨a,_,rfl⟩:=List.mem_map.1 hy;exact qM h hN
 rw[List.mem_replicate]at hy;omega
theorem qPK {d:DfaV}{p:List Nat}{q q' k:Nat}:kB d p q k=kB d p q' k↔p.getD q 0=p.getD q' 0/\∀a,a<k->p.getD (nx d q a) 0=p.getD (nx d q' a) 0:=by
 unfold kB;constructor
 ·intro h
  have h:=List.append_cancel_right h;rw[List.cons.injEq,List.map_inj_left]at h;exact⟨h.1,fun a ha=>h.2 a (List.mem_range.2 ha)⟩
 rintro ⟨h1,h2⟩;rw[h1,List.map_congr_left (fun a ha=>h2 a (List.mem_range.1 ha))]
def sigL (d:DfaV)(k:Nat)(p:List Nat):List (List Nat):=(List.range p.length).map fun q=>kB d p q k
theorem kS (d:DfaV)(k:Nat)(p:List Nat):(sigL d k p).length=p.length:=by simp[sigL]
theorem qBA {d:DfaV}{k:Nat}{p:List Nat}{q:Nat}(h:q<p.length):(sigL d k p)[q]'(by rw[kS];exact h)=kB d p q k:=by simp[sigL]
theorem qPH {d:DfaV}{n k:Nat}(hd:VD d n k){p:List Nat}(hp:p.length=n)(hn:Norm p):numb (sigL d k p)=uZ d p k:=by
 have h0:∀c∈p,c<n:=by have:=mQ hn;rwa [hp]at this
 have hl:=kS d k p;refine qBO (dJ _) (lK hn k) ⟨by rw[yW,hl,xD],fun i j hi hj=>?_⟩;rw[yW,hl]at hi hj;rw[nH (by omega) (by omega),qBA hi,qBA hj,qPK,qQ hd hp h0 (by omega) (by omega) k (Nat.le_refl _)]
theorem qMY {α:Type}[DecidableEq α]{l:List α}{k:Nat}(hk:k<l.length):(numb l).getD k 0=if l[k]∈yE (l.take k) then (yE (l.take k)).idxOf l[k] else (yE (l.take k)).length:=by
 rw[zG (by rw[yW];exact hk),pL hk,<-qEK hk,List.take_succ_eq_append_getElem hk,sE];by_cases h:l[k]∈yE (l.take k)
 ·rw[tK h,if_pos h]
 rw[vK h,if_neg h,List.idxOf_append,if_neg h];simp
theorem dZ {α:Type}[DecidableEq α]{l:List α}{k:Nat}(hk:k<l.length):yE (l.take (k+1))=xV (yE (l.take k)) l[k]:=by
 rw[List.take_succ_eq_append_getElem hk,sE]
theorem qXN {α:Type}[DecidableEq α](l:List α):cls (numb l)=(yE l).length:=by
 unfold cls numb;rw[bS _ _ (fun x hx y _ h=>qFD (wV.2 hx) h),List.length_map]
def vT (d:DfaV)(q:Nat):List Nat:=(List.range q).map fun i=>if d.final.getD i false=d.final.getD 0 false then 0 else 1
def fstC (d:DfaV)(q:Nat):Nat:=if (vT d q).all (· == 0) then 1 else 2
def fstF (d:DfaV)(n q:Nat):List Nat:=vT d q++List.replicate (n-q) 0
theorem kZ {d:DfaV}{n q:Nat}(h:q<=n):(fstF d n q).length=n:=by simp[fstF,vT];omega
theorem qSD {d:DfaV}{n q:Nat}(h:q<n)(e:d.final.getD q false=d.final.getD 0 false):fstF d n (q+1)=fstF d n q/\fstC d (q+1)=fstC d q:=by
 have h1:vT d (q+1)=vT d q++[0]:=by
  simp only[vT,List.range_succ,List.map_append,List.map_cons,List.map_nil,if_pos e]
 constructor
 ·unfold fstF
  rw[h1,show n-q=(n-(q+1))+1 by omega,List.replicate_succ,List.append_assoc];rfl
 unfold fstC;rw[h1,List.all_append];simp
theorem qSE {d:DfaV}{n q:Nat}(h:q<n)(e:d.final.getD q false≠d.final.getD 0 false):fstF d n (q+1)=(fstF d n q).set q 1/\fstC d (q+1)=2:=by
 have h1:vT d (q+1)=vT d q++[1]:=by
  simp only[vT,List.range_succ,List.map_append,List.map_cons,List.map_nil,if_neg e]
 have hl:(vT d q).length=q:=by simp[vT]
 constructor
 ·unfold fstF
  rw[h1,List.set_append_right _ _ (by omega),hl,Nat.sub_self,show n-q=(n-(q+1))+1 by omega,List.replicate_succ,List.set_cons_zero,List.append_assoc];rfl
 unfold fstC;rw[h1,List.all_append];simp
theorem qSC {d:DfaV}{n k:Nat}(hd:VD d n k):vT d n=jX d/\fstC d n=cls (jX d):=by
 have hl:(vT d n).length=n:=by simp[vT]
 have hg:∀i,i<n->(vT d n).getD i 0=if d.final.getD i false=d.final.getD 0 false then 0 else 1:=fun i hi=>by
  rw[zG (by omega)];simp[vT]
 have h8:∀i j,i<n->j<n->((vT d n).getD i 0=(vT d n).getD j 0↔(jX d).getD i 0=(jX d).getD j 0):=fun i j hi hj=>by
  rw[hg i hi,hg j hj,dC hd hi hj];cases d.final.getD i false<;>cases d.final.getD j false<;>cases d.final.getD 0 false<;>simp
 have H4:=mM d;have h9:=hd.n1
 have h6:Norm (vT d n):=by
  unfold Norm;have h0:(vT d n).getD 0 0=0:=by rw[hg 0 (by omega),if_pos rfl]
  refine List.ext_getElem (yW _) fun i h1 h2=>?_;have hi:i<n:=by omega
  rw[pL h2]
  have key:∀m,0<m->m<=n->yE ((vT d n).take m)=if (∃j,j<m/\(vT d n).getD j 0=1) then [0,1] else [0]:=by
   intro m hm H7
   induction m with
   | zero=>omega
   | succ m ih =>
    have H0:m<(vT d n).length:=(by omega);rw[dZ H0,<-zG (d:=0) H0];have h7:(vT d n).getD m 0=0\/(vT d n).getD m 0=1:=by rw[hg m (by omega)];split<;>simp
    by_cases hm0:m=0
    ·subst hm0
     rw[h0]
     have:¬∃j,j<0+1/\(vT d n).getD j 0=1:=by
      rintro ⟨j,hj,e⟩;have:j=0:=by omega
      subst this;omega
     rw[if_neg this];rfl
    rw[ih (by omega) (by omega)];by_cases hex:∃j,j<m/\(vT d n).getD j 0=1
    ·have h5:∃j,j<m+1/\(vT d n).getD j 0=1:=hex.imp fun j h=>⟨by omega,h.2⟩
     rw[if_pos hex,if_pos h5];rcases h7 with e|e<;>rw[e]<;>rfl
    rw[if_neg hex];rcases h7 with e|e
    ·have h5:¬∃j,j<m+1/\(vT d n).getD j 0=1:=by
      rintro ⟨j,hj,e2⟩;rcases Nat.lt_succ_iff_lt_or_eq.1 hj with hj|rfl
      ·exact hex ⟨j,hj,e2⟩
      ·omega
     rw[if_neg h5,e];rfl
    rw[if_pos ⟨m,by omega,e⟩,e];rfl
  have hk:=key n (by omega) (Nat.le_refl _);rw[show (vT d n).take n=vT d n by rw[List.take_of_length_le (by omega)]]at hk;rw[hk];have h7:(vT d n).getD i 0=0\/(vT d n).getD i 0=1:=by rw[hg i hi];split<;>simp
  rw[zG h2]at h7;rcases h7 with e|e
  ·rw[e];split<;>rfl
  rw[e,if_pos ⟨i,hi,by rw[zG h2,e]⟩];rfl
 have H1:vT d n=jX d:=qBO h6 (aS d) ⟨by rw[hl,H4,hd.hn],fun i j hi hj=>h8 i j (by omega) (by omega)⟩;refine⟨H1,?_⟩;rw[<-H1];unfold fstC;by_cases ha:(vT d n).all (· == 0)=true
 ·rw[if_pos ha]
  have:vT d n=List.replicate n 0:=by
   refine List.eq_replicate_iff.2 ⟨hl,fun x hx=>?_⟩;simpa using List.all_eq_true.1 ha x hx
  rw[this]
  have h1:(yE (List.replicate n 0)) ⊆ [0]:=fun x hx=>by
   have:=wV.1 hx;rw[List.mem_replicate]at this;simp[this.2]
  have h2:=(rV (List.replicate n 0)).length_le_of_subset h1;have h3:=qCJ (p:=List.replicate n 0) (by simp;omega);unfold cls at h3⊢;simp at h2;omega
 rw[if_neg ha]
 have h1:yE (vT d n) ⊆ [0,1]:=fun x hx=>by
  obtain⟨i,_,rfl⟩:=List.mem_map.1 (wV.1 hx)
  split<;>simp
 have h2:=(rV (vT d n)).length_le_of_subset h1
 have h9:∃x∈vT d n,x≠0:=by
  apply Classical.byContradiction;intro H5
  exact ha (List.all_eq_true.2 fun x hx=>by
   have:x=0:=Classical.byContradiction fun h=>H5 ⟨x,hx,h⟩
   simp[this])
 obtain⟨x,hx,H3⟩:=h9
 have H2:x=1:=by
  obtain⟨i,_,rfl⟩:=List.mem_map.1 hx
  split at H3
  ·omega
  rename_i h;rw[if_neg h]
 have H6:0∈vT d n:=by
  rw[vT,List.mem_map];exact⟨0,List.mem_range.2 (by omega),if_pos rfl⟩
 have h3:[0,1] ⊆ yE (vT d n):=fun y hy=>by
  simp only[List.mem_cons,List.not_mem_nil,or_false]at hy;rcases hy with rfl|rfl
  ·exact wV.2 H6
  exact wV.2 (H2 ▸ hx)
 have h4:=(show [0,1].Nodup by decide).length_le_of_subset h3;unfold cls;simp at h2 h4;omega
theorem qSY {d:DfaV}{n k:Nat}(hd:VD d n k)(m:Nat):numb (sigL d k (yY d k m))=yY d k (m+1):=qPH hd (by rw[yZ,hd.hn]) (tJ d k m)
theorem qNV {d:DfaV}{n k:Nat}(hd:VD d n k){m:Nat}(hm:m<=n)(h:cls (yY d k (m+1))=cls (yY d k m)):yY d k (m+1)=yX d k:=by
 have e:uZ d (yY d k m) k=yY d k m:=Classical.byContradiction fun hne=>by
  have:=nC hd (by rw[yZ,hd.hn]) (tJ d k m) hne;rw[yY]at h;omega
 rw[oC (by rw[hd.hn];exact hm) e,yY,e]
theorem qNW {d:DfaV}{n k:Nat}(hd:VD d n k){m:Nat}(h:cls (yY d k (m+1))≠cls (yY d k m)):cls (yY d k m)<cls (yY d k (m+1)):=by
 have e:uZ d (yY d k m) k≠yY d k m:=fun e=>h (by rw[yY,e]);exact nC hd (by rw[yZ,hd.hn]) (tJ d k m) e
theorem qXP {d:DfaV}{n k:Nat}(hd:VD d n k)(m:Nat):cls (yY d k m)<=n:=by
 have:=fE (yY d k m)
 rwa [yZ,hd.hn]at this
open Go.Maps Go.RowKit
structure KeyK {α:Type}(mt kt:TypeId)(V:α->Prop)(kv:α->Value):Prop where
 key:Keyed Tryz.prog kt
 und:Tryz.prog.underlying mt=some (.map kt 3)
 of:∀a,V a->(keyOf Tryz.prog kt (kv a)).isSome=true
 inj:∀a b,V a->V b->kv a=kv b->a=b
section
variable {α:Type} {mt kt:TypeId} {V:α->Prop} {kv:α->Value}
def MapK (kt:TypeId)(V:α->Prop)(kv:α->Value)(w:World)(b n c:Nat)(f:α->Option Nat):Prop :=
 ∃D:DataW Unit,w.ownsMap Tryz.prog kt (plainElem Tryz.prog 3) b n D/\size D=c /\
  ∀a l,V a->keyOf Tryz.prog kt (kv a)=some l->has D l=(f a).isSome/\D.atKey l (.lit (.int .i64 0))=.lit (.int .i64 (((f a).getD 0:Nat):Int))
theorem MapK.made (kt:TypeId)(V:α->Prop)(kv:α->Value)(w:World):MapK kt V kv (w.alloc (.map #[] 0)) w.heap.size 0 0 (fun _=>none):=by
 refine⟨.map [],World.ownsMap_made _ _ _ _,rfl,fun x _ _ _=>⟨by simp[has_eq],?_⟩⟩;rw[WideAt.atKey_none _ (by simp)];simp
variable {w w':World} {b n c:Nat} {f:α->Option Nat}
theorem MapK.kept {row:Option Nat}(h:MapK kt V kv w b n c f)(hg:w.grownBy w' row)(a9:row≠some b):MapK kt V kv w' b n c f:=by
 obtain⟨D,h1,h2,h3⟩:=h;exact⟨D,h1.kept hg (fun e=>a9 e.symm),h2,h3⟩
theorem MapK.mono {n':Nat}(h:MapK kt V kv w b n c f)(hn:n<=n'):MapK kt V kv w b n' c f:=by
 obtain⟨D,h1,h2,h3⟩:=h;exact⟨D,h1.mono hn,h2,h3⟩
theorem MapK.lt (h:MapK kt V kv w b n c f):b<w.heap.size:=by
 obtain⟨D,h1,_⟩:=h;exact h1.lt
theorem MapK.obj (h:MapK kt V kv w b n c f):∃es clock,w.heap[b]?=some (.map es clock):=by
 obtain⟨D,⟨es,clock,hb,_⟩,_⟩:=h;exact⟨es,clock,hb⟩
theorem MapK.lookup (h:MapK kt V kv w b n c f)(K:KeyK mt kt V kv){x:α}(hx:V x):(Instr.lookup mt (.map (some b)) (kv x) true).run Tryz.prog w=.ok (.tuple #[.int .i64 (((f x).getD 0:Nat):Int),.bool (f x).isSome]) w:=by
 obtain⟨D,h1,h2,h3⟩:=h;obtain⟨kl,h4⟩:=Option.isSome_iff_exists.1 (K.of x hx);obtain⟨v,ps,h0,hv⟩:=h1.look_ok K.key K.und (fP w) (plainElem_int sP (by decide)) h4;obtain⟨c,rfl,hc,_⟩:=plainElem_int_inv sP hv;obtain⟨e1,e2⟩:=h3 x kl hx h4;have e3:=congrArg Prod.fst hc;simp only[e2]at e3;rw[h0,e1]
 have e4:(((f x).getD 0:Nat):Int)=c:=by
  simp only[Lit.int.injEq,DataW.lit.injEq,true_and]at e3;exact e3
 rw[e4]
theorem MapK.look1 (h:MapK kt V kv w b n c f)(K:KeyK mt kt V kv){x:α}(hx:V x):(Instr.lookup mt (.map (some b)) (kv x) false).run Tryz.prog w=.ok (.int .i64 (((f x).getD 0:Nat):Int)) w:=by
 obtain⟨D,h1,h2,h3⟩:=h;obtain⟨kl,h5⟩:=Option.isSome_iff_exists.1 (K.of x hx);obtain⟨c,h0,h4,_⟩:=h1.lookup_int K.key K.und sP (fP w) h5;rw[h0];rw[(h3 x kl hx h5).2]at h4
 have e4:(((f x).getD 0:Nat):Int)=c:=by
  simp only[Lit.int.injEq,DataW.lit.injEq,true_and]at h4;exact h4
 rw[e4]
theorem MapK.len (h:MapK kt V kv w b n c f)(K:KeyK mt kt V kv):(Builtin.len_ #[mt] 3 #[.map (some b)]).run Tryz.prog w=.ok (.int .i64 (c:Nat)) w:=by
 obtain⟨D,h1,h2,h3⟩:=h;have h0:=h1.len K.und 3;rw[h2]at h0;exact h0
theorem oH [DecidableEq α]{ops:Array Oper}{a9:List Oper}{o:Oper}{a:Act}{Q:Exit->Act->World->Prop}(K:KeyK mt kt V kv)(hg:o.guard=none)(m x v:Operand)(a8:o.op=Op.mapUpdate mt m x v)(b n c:Nat)(f:α->Option Nat)(z:α)(y:Nat)(hm:a.eval m=.map (some b))(hx:a.eval x=kv z)(hv:a.eval v=.int .i64 (y:Int))(h:MapK kt V kv w b n c f)(hn:n<maxLen)(hz:V z)(hy:y<4611686018427387904)(hK:∀w',MapK kt V kv w' b (n+1) (if (f z).isSome then c else c+1) (fun q=>if q=z then some y else f q)->w.grownBy w' (some b)->wpList Tryz.prog ops Q a9 (a.put o.dst undef) w'):wpList Tryz.prog ops Q (o::a9) a w:=by
 obtain⟨D,h1,h2,h3⟩:=h;obtain⟨kl,h0⟩:=Option.isSome_iff_exists.1 (K.of z hz);obtain⟨w',h4,h5,h7⟩:=h1.update K.key K.und hn h0 (plainElem_int sP (qES (x:=(y:Int)) ⟨by omega,by omega⟩));refine wpList_plain hg fun K' hK'=>?_;unfold Oper.wp;simp[execOp,a8,hm,hx,hv,h4,Result.andThen];refine hK' _ _ (hK w' ⟨_,h5,?_,fun q ql hq hql=>?_⟩ h7)
 ·rw[size_put (h1.tidy K.key),(h3 z kl hz h0).1,h2]
 by_cases e:q=z
 ·subst e
  rw[h0]at hql;cases hql;refine⟨by rw[has_put_same h1.isMap (K.key.key h0)];simp,?_⟩;simp only[if_pos];rw[atKey_put_same h1.isMap (K.key.key h0)];rfl
 have h6:ql≠kl:=fun h=>e (K.inj q z hq hz (K.key.inj (hql.trans (congrArg some h)) h0));obtain⟨e1,e2⟩:=h3 q ql hq hql;simp only[if_neg e];exact⟨by rw[has_put_other h6,e1],by rw[atKey_put_other h6,e2]⟩
end
theorem eS:Tryz.prog.underlying 150=some (.array 7 3):=by kernel_rfl
theorem qDG:Tryz.prog.underlying 148=some (.map 150 3):=by kernel_rfl
theorem qPI:Keyed Tryz.prog 150:=Keyed.of_law (deep_law_laid (m:=5) (by kernel_rfl) (by decide) (of_decide_eq_true (by kernel_rfl)) (by kernel_rfl) (by kernel_rfl))
theorem xBO {x:Nat}(hx:x<4611686018427387904):(Lit.int .i64 (x:Int)).wf=true:=qES (x:=(x:Int)) ⟨by omega,by omega⟩
theorem tV (d:Nat){x:Nat}(hx:x<4611686018427387904):Tryz.prog.keyLits (d+1) 3 [.int .i64 (x:Int)]=some [.int .i64 (x:Int)]:=by
 unfold Program.keyLits;rw[sP];simp[xBO hx]
def sigV (L:List Nat):Value:=.agg #[.int .i64 ((L.getD 0 0:Nat):Int),.int .i64 ((L.getD 1 0:Nat):Int),.int .i64 ((L.getD 2 0:Nat):Int),.int .i64 ((L.getD 3 0:Nat):Int),.int .i64 ((L.getD 4 0:Nat):Int),.int .i64 ((L.getD 5 0:Nat):Int),.int .i64 ((L.getD 6 0:Nat):Int)]
def qXZ (L:List Nat):Prop:=L.length=7/\∀x∈L,x<4611686018427387904
theorem qDH:Tryz.prog.cellsOf 150=7:=by kernel_rfl
theorem dW:Tryz.prog.cellsOf 3=1:=by kernel_rfl
theorem qUN {x0 x1 x2 x3 x4 x5 x6:Nat}(h0:x0<4611686018427387904)(h1:x1<4611686018427387904)(h2:x2<4611686018427387904)(h3:x3<4611686018427387904)(h4:x4<4611686018427387904)(h5:x5<4611686018427387904)(h6:x6<4611686018427387904):(keyOf Tryz.prog 150 (.agg #[.int .i64 (x0:Int),.int .i64 (x1:Int),.int .i64 (x2:Int),.int .i64 (x3:Int),.int .i64 (x4:Int),.int .i64 (x5:Int),.int .i64 (x6:Int)])).isSome=true:=by
 have hk:Tryz.prog.keyType 150=true:=by kernel_rfl
 unfold keyOf;rw[eS];simp only[hk,Bool.true_and]
 have hf:(Value.agg #[.int .i64 (x0:Int),.int .i64 (x1:Int),.int .i64 (x2:Int),.int .i64 (x3:Int),.int .i64 (x4:Int),.int .i64 (x5:Int),.int .i64 (x6:Int)]).formed Tryz.prog 150=true:=by
  simp[Value.formed,eS,qDH]
 rw[if_pos hf]
 have hl:Tryz.prog.keyLits (Tryz.prog.types.size+1) 150 (Value.agg #[.int .i64 (x0:Int),.int .i64 (x1:Int),.int .i64 (x2:Int),.int .i64 (x3:Int),.int .i64 (x4:Int),.int .i64 (x5:Int),.int .i64 (x6:Int)]).cells.toList=some [.int .i64 (x0:Int),.int .i64 (x1:Int),.int .i64 (x2:Int),.int .i64 (x3:Int),.int .i64 (x4:Int),.int .i64 (x5:Int),.int .i64 (x6:Int)]:=by
  have hz:Tryz.prog.types.size=(Tryz.prog.types.size-1)+1:=by kernel_rfl
  rw[hz];unfold Program.keyLits;rw[eS];simp[Value.cells,qDH,dW,List.range,List.range.loop,tV _ h0,tV _ h1,tV _ h2,tV _ h3,tV _ h4,tV _ h5,tV _ h6]
 rw[hl];rfl
theorem qAZ:KeyK 148 150 qXZ sigV where
 key:=qPI
 und:=qDG
 of:=fun L h=>by
  have hg:∀i,L.getD i 0<4611686018427387904:=fun i=>by
   by_cases hi:i<L.length
   ·rw[zG hi];exact h.2 _ (List.getElem_mem hi)
   ·rw[List.getD,List.getElem?_eq_none (by omega)];simp
  exact qUN (hg 0) (hg 1) (hg 2) (hg 3) (hg 4) (hg 5) (hg 6)
 inj:=fun L M hL hM e=>by
  simp only[sigV,Value.agg.injEq]at e
  have e:=congrArg Array.toList e
  simp only[List.cons.injEq,Value.int.injEq,true_and,and_true]at e
  refine List.ext_getElem (by rw[hL.1,hM.1]) fun i h1 h2=>?_
  rw[<-zG (d:=0) h1,<-zG (d:=0) h2]
  have:i<7:=by rw[<-hL.1];exact h1
  match i,this with
  | 0,_=>omega
  | 1,_=>omega
  | 2,_=>omega
  | 3,_=>omega
  | 4,_=>omega
  | 5,_=>omega
  | 6,_=>omega
end Go.Proofs.YtcoimliafiammaaGreat
