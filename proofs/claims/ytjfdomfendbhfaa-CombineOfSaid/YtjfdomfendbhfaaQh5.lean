/- Part 5 of the proof. -/
import Derived.Test.YtjfdomfendbhfaaQh4
import Derived.DeepKeys4
set_option linter.unusedVariables false
set_option linter.unusedSimpArgs false
set_option maxRecDepth 100000
set_option maxHeartbeats 16000000
namespace Go.Proofs.Ytjfdomfendbhfaa
open Go.RowKit
def tR (n:Nat)(l:List Nat):List Int:=(List.range n).map fun q=>rK l q
theorem vH (n:Nat)(l:List Nat):(tR n l).length=n:=by simp[tR]
theorem bK {n:Nat}{l:List Nat}{q:Nat}(h:q<n):(tR n l).getD q 0=rK l q:=by
 rw[zG (by rw[vH];exact h)];simp[tR]
theorem bJ (n:Nat):tR n []=List.replicate n (-1):=by
 refine List.ext_getElem (by simp[tR]) fun i h1 h2=>by simp[tR,rK]
theorem bI {n:Nat}{l:List Nat}{q:Nat}(hq:q ∉ l):(tR n l).set q (l.length:Int)=tR n (l++[q]):=by
 refine List.ext_getElem (by simp[tR]) fun i h1 h2=>?_;rw[List.getElem_set];simp only[tR,List.getElem_map,List.getElem_range,rK];by_cases e:q=i
 ·subst e
  rw[if_pos rfl,if_pos (by simp),List.idxOf_append,if_neg hq];simp
 ·rw[if_neg e]
  by_cases hi:i∈l
  ·rw[if_pos hi,if_pos (by simp[hi]),List.idxOf_append,if_pos hi]
  ·rw[if_neg hi,if_neg (by simp[hi,Ne.symm e])]
def iE (n k:Nat):List Int:=List.replicate k (-1)++List.replicate (n-k) 0
theorem pF {n k:Nat}(h:k<=n):(iE n k).length=n:=by simp[iE];omega
theorem qCR {n k:Nat}(h:k<n):(iE n k).set k (-1)=iE n (k+1):=by
 unfold iE;rw[List.set_append_right _ _ (by simp),List.length_replicate,Nat.sub_self,show n-k=(n-(k+1))+1 by omega,List.replicate_succ,List.set_cons_zero,List.replicate_succ',List.append_assoc];rfl
def TrimOk (w:World)(m:DfaV)(e:Ending)(w':World):Prop:=∃v p,e=.returned (.tuple #[v,p])/\oE w w' v m/\w.grownBy w' none
def nI (d:DfaV)(l:List Nat)(i:Nat):List Bool:=(l.take i).map fun q=>d.final.getD q false
def nH (d:DfaV)(l:List Nat)(i:Nat):List (List Int):=(l.take i).map fun q=>xW l (d.next.getD q [])
theorem trimFs_succ {d:DfaV}{l:List Nat}{i:Nat}(h:i<l.length):nI d l (i+1)=nI d l i++[d.final.getD (l.getD i 0) false]:=by
 simp only[nI,zT (d:=0) h,List.map_append,List.map_cons,List.map_nil]
theorem trimTs_succ {d:DfaV}{l:List Nat}{i:Nat}(h:i<l.length):nH d l (i+1)=nH d l i++[xW l (d.next.getD (l.getD i 0) [])]:=by
 simp only[nH,zT (d:=0) h,List.map_append,List.map_cons,List.map_nil]
theorem trimFs_length {d:DfaV}{l:List Nat}{i:Nat}(h:i<=l.length):(nI d l i).length=i:=by simp[nI];omega
theorem trimTs_length {d:DfaV}{l:List Nat}{i:Nat}(h:i<=l.length):(nH d l i).length=i:=by simp[nH];omega
theorem trimRow_get {d:DfaV}{n k:Nat}(hd:VD d n k){l:List Nat}{q a:Nat}(hq:q<n)(ha:a<k):(xW l (d.next.getD q [])).getD a 0=rK l (nx d q a):=by
 rw[xW,tI (x:=0) (by rw[hd.row q hq];exact ha)];rfl
theorem lL {d:DfaV}{n k:Nat}(hd:VD d n k){l:List Nat}{q:Nat}(hq:q<n):(xW l (d.next.getD q [])).length=k:=by rw[xW,List.length_map,hd.row q hq]
theorem qCH (l:List Int)(x:Int):ints (l++[x])=ints l++[.int .i64 x]:=by simp[ints]
theorem trim_any (B:Nat)(w:World)(v:Value)(d:DfaV)(n k:Nat)(hB:B<=w.heap.size)(h:tE B w v d)(hd:VD d n k):Calls Try.prog 82 #[v] w (TrimOk w (xY d k)):=by
 have c6:=h;obtain⟨fb,fo,fc,b,off,cap,RB,RO,RC,rfl,d6⟩:=h.at hd;have hn:=hd.hn;have o5:=hd.n1;have j9:=hd.nbig;have p0:=hd.k6;have p1:=hd.k1;have p5:=d6.fcap.1;have e8:=d6.fcap.2;have p6:=d6.cap.1;have e9:=d6.cap.2;have m6:fc<=9223372036854775807:=by unfold maxLen at e8;omega
 have m5:cap<=9223372036854775807:=by unfold maxLen at e9;omega
 obtain⟨S,hS⟩:∃S,S=st0 d:=⟨_,rfl⟩;have q7:=Kh hS;have j3:dAgg k (st0 d) fb fo fc b off cap n=.agg #[.int .i64 (k:Int),.int .i64 (S:Int),.slice (some ⟨fb,fo,none⟩) n fc,.slice (some ⟨b,off,none⟩) n cap]:=by rw[hS];rfl
 rw[j3]at c6⊢;obtain⟨f0,g1,e6,j2⟩:=sZ w #[.int .i64 (k:Int),.int .i64 (S:Int),.slice (some ⟨fb,fo,none⟩) n fc,.slice (some ⟨b,off,none⟩) n cap] #[.int .i64 0,.int .i64 0,.slice none 0 0,.slice none 0 0] 42;obtain⟨wA,i3⟩:∃wA,wA=(w.alloc (.cells #[.int .i64 (k:Int),.int .i64 (S:Int),.slice (some ⟨fb,fo,none⟩) n fc,.slice (some ⟨b,off,none⟩) n cap] 42)).alloc (.cells #[.int .i64 0,.int .i64 0,.slice none 0 0,.slice none 0 0] 42):=⟨_,rfl⟩;rw[<-i3]at f0 g1 e6 j2;obtain⟨c0,c1,c2,c3⟩:=zF f0;obtain⟨P,hP⟩:∃P,P=w.heap.size:=⟨_,rfl⟩;have i5:=Kh hP;rw[<-hP]at f0 g1 c0 c1 c2 c3 j2 hB;have g6:=Kh f0;have n6:=Kh g1;have n4:=Kh e6;have n0:=Kh i3;have n7:=Kh (d6.kept e6 (by simp));have HN:=Kh hn;have HD:=Kh hd;have l7:=Kh (access_any B wA _ d n k (by omega) (c6.kept e6 (by simp)) hd);clear f0 g1 e6 i3 d6 hn hd h c6 j3 e8 e9 hS;go_enter Try.func82,Try.ntmps82;go_upto_region 1 with fail;rw[<-n0.out,<-i5.out];clear hP;go_wp2_with fail;refine l7.out.mono ?_;rintro e w1 ⟨sa,sc,vw,rfl,H2,g0⟩;obtain⟨a1,m8⟩:=xV HD.out;obtain⟨l,hl⟩:∃l,l=zZ d k:=⟨_,rfl⟩;have HL:=Kh hl;rw[<-hl]at H2 a1 m8⊢;have H4:=a1.hd.1;obtain⟨gl,rfl,o9,o8,f1⟩:=yG H2 H4;have p3:=(H2.lt gl rfl).1;have j1:=Kh f1;have d8:=Kh g0;have d4:=Kh a1;have n9:=g0.size;obtain⟨d0,d1,d2,d3⟩:=zF (zB g6.out g0 (by simp));clear hl H2 f1 g0 a1 l7 c0 c1 c2 c3;go_wp2_with (first|(at_make;refine kC rfl _ _ _ rfl yP rfl .i64 .i64 _ _ n rfl rfl rfl rfl ?b1 ?b2 ?_;(case b1=>omega);(case b2=>(unfold maxLen;omega));intro w2 h4 k4 i0)|fail);obtain⟨G,hG⟩:∃G,G=w1.heap.size:=⟨_,rfl⟩;rw[<-hG]at h4 i0⊢;have l8:=Kh h4;have l4:=Kh k4;have i8:=Kh hG;have p9:P+1<G:=by omega
 clear h4 k4 hG d0 d1 d2 d3
 go_loopg [7,27] n (fun gh a7 i wr=>∃q:Nat,gh+q=n/\i=.int .i64 q/\Arr wr G 3 (ints (iE n q))/\w1.grownBy wr none)
 case atStart=>exact⟨0,rfl,rfl,by simpa [iE,pN] using l8.out,l4.out⟩
 case round =>
  clear l8 l4;obtain⟨q,hg,rfl,h4,h5⟩:=hrel;have HG:=Kh hg;have HA:=Kh h4;have H6:=Kh h5;clear hg;by_cases hq:q<n
  ·have m3:(q:Int)<n:=by omega
   have cgk:=h4.int q (by rw[pF (by omega)];exact hq);have fgk:=h4.frozen q;have HS:=Kh (qCR hq);clear h4 h5;go_wp2;go_roundg (n-(q+1))
   case measure=>have:=HG.out;omega
   case rel =>
    refine⟨q+1,by omega,by go_num,?_,zA H6.out (zC wr ⟨G,q,none⟩ _) (fun q e=>by have h7:G=q:=Oj e;have:=i8.out;omega)⟩;rw[<-HS.out];exact HA.out.int_set q (by rw[pF (by omega)];exact hq) (-1)
  ·have j5:q=n:=by have:=HG.out;omega
   have HF:Hid (iE n q=tR n (l.take 0)):=Kh (by rw[j5,List.take_zero,bJ];simp[iE]);rw[HF.out]at HA;have i7:=H6;clear j5 h4 h5 HG;obtain⟨w3,rfl⟩:∃w3:World,w3=wr:=⟨_,rfl⟩;go_wp2
   go_loopg [8,9,36] l.length (fun gh a8 a9 i wr=>∃q:Nat,gh+q=l.length/\i=.int .i64 q/\Arr wr G 3 (ints (tR n (l.take q)))/\w1.grownBy wr none)
   case atStart=>exact⟨0,rfl,rfl,HA.out,H6.out⟩
   case round =>
    clear HA H6 HF;obtain⟨q,hg,rfl,h4,h5⟩:=hrel;have HG:=Kh hg;have HA:=Kh h4;have H6:=Kh h5;clear hg;by_cases hq:q<l.length
    ·have m3:(q:Int)<l.length:=by omega
     have cl:=(j1.out.kept h5 (by simp)).nat q hq;have g8:l.getD q 0<n:=d4.out.lt _ (by rw[zG hq];exact List.getElem_mem _);have f8:l.take (q+1)=l.take q++[l.getD q 0]:=zT hq
     have b8:l.getD q 0 ∉ l.take q:=by
      have h1:=d4.out.nd;have h2:(l.take (q+1)).Nodup:=h1.sublist (List.take_sublist _ _);rw[f8,List.nodup_append]at h2;exact fun hm=>h2.2.2 _ hm _ (by simp) rfl
     obtain⟨s,hs⟩:∃s,s=l.getD q 0:=⟨_,rfl⟩;rw[<-hs]at cl g8 f8 b8;have m0:(s:Int)<n:=(by omega);have cgk:=h4.int s (by rw[vH];exact g8);have fgk:=h4.frozen s
     have HS:Hid ((tR n (l.take q)).set s (q:Int)=tR n (l.take (q+1))):=Kh (by
      have:=bI (n:=n) b8;rw[List.length_take,Nat.min_eq_left (by omega)]at this
      rw[this,f8])
     clear h4 h5 f8 b8 hs;go_wp2;go_roundg (l.length-(q+1))
     case measure=>have:=HG.out;omega
     case rel =>
      refine⟨q+1,by omega,by go_num,?_,zA H6.out (zC wr ⟨G,s,none⟩ _) (fun q e=>by have h7:G=q:=Oj e;have:=i8.out;omega)⟩;rw[<-HS.out];exact HA.out.int_set s (by rw[vH];exact g8) (q:Int)
    ·have j6:q=l.length:=by have:=HG.out;omega
     have j8:l.take q=l:=by rw[j6];exact List.take_length
     rw[j8]at HA h4;have l2:=Kh h4;have H0:=Kh h5;clear j6 j8 h4 HA HG h5 i7;obtain⟨w4,rfl⟩:∃w4:World,w4=wr:=⟨_,rfl⟩;obtain⟨d0,d1,d2,d3⟩:=zF (zB (zB g6.out d8.out (by simp)) H0.out (by simp));go_upto_region 14 with fail;obtain⟨O,hO⟩:∃O,O=w4.heap.size:=⟨_,rfl⟩;obtain⟨w6,f7⟩:∃w6,w6=w4.alloc (.cells #[.int .i64 (k:Int),.int .i64 0,.slice none 0 0,.slice none 0 0] 42):=⟨_,rfl⟩;rw[<-f7,<-hO];have c4:w4.grownBy w6 none:=(by rw[f7];exact Ga w4 _ none);have k7:w6.heap[O]?=some (.cells #[.int .i64 (k:Int),.int .i64 0,.slice none 0 0,.slice none 0 0] 42 (0,0)):=by rw[f7,hO];exact heap_alloc_new w4 _
     have l1:Built O w6 O k 0 [] [] [] none 0 none 0:=⟨k7,World.ownsRow_nil _ _ _ _,World.ownsRow_nil _ _ _ _,wK.nil,rfl⟩;have l6:=Kh l1;have f5:=Kh c4;have c9:=Kh hO;have q4:G<O:=(by rw[hO];have:=l2.out.lt;omega);have p8:P+1<O:=(by omega);have l9:=c4.size;clear d0 d1 d2 d3 k7 l1 c4 f7 hO;go_wp2
     go_loopg [51] l.length (fun gh i wr=>∃(i':Nat) (hs:List Value) (sf:Option Addr) (cf:Nat) (sn:Option Addr) (cn:Nat),gh+i'=l.length/\i=.int .i64 i'/\Built O wr O k 0 (nI d l i') (nH d l i') hs sf cf sn cn/\w4.grownBy wr (some O))
     case atStart=>exact⟨0,[],none,0,none,0,rfl,rfl,l6.out,xM f5.out⟩
     case round =>
      clear l6 f5;obtain⟨i,hs,sf,cf,sn,cn,hg,rfl,H5,h5⟩:=hrel;have g5:=Kh hg;have f6:=Kh H5;have H6:=Kh h5;have n8:=h5.size;clear hg;by_cases hi:i<l.length
      ·have p2:(i:Int)<l.length:=by omega
       have d7:O≠P:=(by omega);have i1:O≠gl:=(by have:=j1.out.lt;have:=i8.out;omega);have e5:∀x,Hid (x<w4.heap.size->x≠O):=fun x=>Kh (fun h e=>by have:=c9.out;omega);have cl:=((j1.out.kept H0.out (by simp)).kept h5 (fun e=>i1 (Oj e))).nat i hi;have H9:l.getD i 0<n:=d4.out.lt _ (by rw[zG hi];exact List.getElem_mem _);have d9:=Kh (trimFs_succ (d:=d) hi);have f2:=Kh (trimTs_succ (d:=d) hi);have c5:=trimFs_length (d:=d) (Nat.le_of_lt hi);have a5:=trimTs_length (d:=d) (Nat.le_of_lt hi);obtain⟨q0,j7⟩:∃q0,q0=l.getD i 0:=⟨_,rfl⟩;rw[<-j7]at cl H9 d9 f2;have m2:(q0:Int)<n:=(by omega);have q5:B<=O:=by omega
       have hA:=((n7.out.kept d8.out (by simp)).kept H0.out (by simp)).kept h5 (fun k e=>by have:=Oj e;omega);have ch:=hA.hd q0 H9;obtain⟨d0,d1,d2,d3⟩:=zF (zB (zB (zB g6.out d8.out (by simp)) H0.out (by simp)) h5 (fun e=>d7 (Oj e)));obtain⟨wo,rfl⟩:∃wo:World,wo=wr:=⟨_,rfl⟩;have j0:=Kh hA;clear hA H5 h5 j7;go_wp2
       go_loopg [13,61] k (fun gh ov i wr=>∃(a:Nat) (sr:Option Addr) (cr:Nat),gh+a=k/\i=.int .i64 a/\ov=.slice sr a cr/\wr.ownsRow wo.heap.size 3 1 (.slice sr a cr) a (ints ((xW l (d.next.getD q0 [])).take a))/\wo.grownBy wr none)
       case atStart=>exact⟨0,none,0,rfl,rfl,rfl,by simpa [ints] using World.ownsRow_nil _ _ _ _,zH _ _⟩
       case round =>
        obtain⟨a,sr,cr,hg,rfl,rfl,e4,h5⟩:=hrel;have l3:=Kh hg;have a3:=Kh e4;have i6:=Kh h5;clear hg e4 d0 d1 d2 d3;by_cases ha:a<k
        ·have p7:(a:Int)<k:=by omega
         have hA:=j0.out.kept h5 (by simp);have ce:=hA.el q0 a H9 ha;have o4:=(hA.rcap q0 H9).1;have g9:=mA HD.out H9 ha;have cp:=(((l2.out.kept H6.out (fun e=>by have:=Oj e;omega)).kept h5 (by simp))).int (nx d q0 a) (by rw[vH];exact g9);rw[bK g9]at cp
         have i4:Hid ((xW l (d.next.getD q0 [])).take (a+1)=(xW l (d.next.getD q0 [])).take a++[rK l (nx d q0 a)]):=Kh (by
          rw[zT (d:=0) (by rw[lL HD.out H9];exact ha),trimRow_get HD.out H9 ha])
         obtain⟨s,hs⟩:∃s,s=nx d q0 a:=⟨_,rfl⟩;rw[<-hs]at ce g9 cp i4;obtain⟨c,hc⟩:∃c,c=rK l s:=⟨_,rfl⟩;rw[<-hc]at cp i4;have f9:=h5.size;have m4:(s:Int)<n:=(by omega);clear hA hs hc h5;go_wp2_with (first|(at_builtin;refine app1 rfl _ _ _ rfl yP wo.heap.size _ a (ints ((xW l (d.next.getD q0 [])).take a)) rfl a3.out _ rfl rfl ?c1 ?c2 ?c3 ?_)|fail)
         case c1=>unfold maxLen;omega
         case c2=>omega
         case c3=>exact f9
         intro sa' sc' w6 a6 k3 m7;have n3:=Kh a6;have n5:=Kh k3;clear a6 k3;go_wp2;go_roundg (k-(a+1))
         case measure=>have:=l3.out;omega
         case rel =>
          refine⟨a+1,sa',sc',by omega,by go_num,rfl,?_,zA i6.out n5.out (fun q e=>(a3.out.lt q e).1)⟩;rw[i4.out,qCH];exact n3.out
        ·have k8:a=k:=by have:=l3.out;omega
         have j4:(xW l (d.next.getD q0 [])).take a=xW l (d.next.getD q0 []):=by rw[k8,<-lL HD.out (l:=l) H9];exact List.take_length
         rw[j4]at a3;obtain⟨w5,g7⟩:∃w5,w5=wr.drew:=⟨_,rfl⟩;have n2:=Kh g7;have b9:wr.grownBy w5 none:=(by rw[g7];exact zO wr none);have a4:=Kh ((f6.out.grow h5).grow b9);have c8:Hid (RowT w5.heap.size 3 w5 (.slice sr a cr) (ints (xW l (d.next.getD q0 [])))):=Kh (RowT.of_owns (zY a3.out b9 (by simp)));have i9:=Kh (zD H6.out (xM (zD h5 b9) (row:=some O)));have l0:=a4.out.box;have H1:=Kh l0;have g2:=Kh a4.out.notbox;have d5:O<=w5.heap.size:=by have:=h5.size;have:=b9.size;have:=c9.out;omega
         have cq:=(((j0.out.kept h5 (by simp)).kept b9 (by simp))).fin H9;obtain⟨_,_,d2,_⟩:=zF (zB (zB (zB (zB (zB g6.out d8.out (by simp)) H0.out (by simp)) H6.out (fun e=>d7 (Oj e))) h5 (by simp)) b9 (by simp));have p4:=j0.out.flt;have m9:O≠fb:=(by omega);obtain⟨bq,k5⟩:∃bq,bq=d.final.getD q0 false:=⟨_,rfl⟩;rw[<-k5]at cq d9;obtain⟨fsl,e7⟩:∃x,x=nI d l i:=⟨_,rfl⟩;obtain⟨tsl,e1⟩:∃x,x=nH d l i:=⟨_,rfl⟩;rw[<-e7]at a4 H1 d9 c5;rw[<-e1]at a4 H1 f2 a5;have q8:=Kh c5;have q6:=Kh a5;obtain⟨m,hm⟩:∃m,m=i:=⟨_,rfl⟩;rw[<-hm]at c5 a5;have c7:=Kh a5;have k9:=a4.out.many
         have hM:Many w5 (FB sf sn) w5 [⟨O,34,.slice sn m cn,m,hs,1⟩,⟨O,4,.slice sf m cf,m,bls fsl,1⟩] [] []:=by
          have h1:=k9;simp only[rN,rF,c5,a5]at h1;exact h1
         have e0:Hid (∀W:World,(W.cell? ⟨P,2,none⟩=some (.slice (some ⟨fb,fo,none⟩) n fc)/\W.cell? ⟨fb,fo+q0,none⟩=some (.bool bq))->∀(c:Nat) (X:Value),(W.setCell ⟨O,c,none⟩ X).cell? ⟨P,2,none⟩=some (.slice (some ⟨fb,fo,none⟩) n fc)/\(W.setCell ⟨O,c,none⟩ X).cell? ⟨fb,fo+q0,none⟩=some (.bool bq)):=Kh (fun W h c X =>
          ⟨by rw[World.cell?_setCell_far W ⟨O,c,none⟩ ⟨P,2,none⟩ X d7];exact h.1,by rw[World.cell?_setCell_far W ⟨O,c,none⟩ ⟨fb,fo+q0,none⟩ X m9];exact h.2⟩)
         have h0:Hid (∀W rs ls,Many w5 (FB sf sn) W rs ls []->(W.cell? ⟨P,2,none⟩=some (.slice (some ⟨fb,fo,none⟩) n fc)/\W.cell? ⟨fb,fo+q0,none⟩=some (.bool bq))/\(W.cell? ⟨O,3,none⟩=some (.slice sn m cn)/\W.cell? ⟨O,2,none⟩=some (.slice sf m cf))):=Kh (fun W rs ls h=>by
          have k2:=a4.out.ge;have hb:=h.but.heap H1.out g2.out;rw[c5,a5]at hb;obtain⟨_,_,e2,e3⟩:=zF hb
          exact⟨⟨h.but.cell d2 (fun hf=>by have:=k2 _ hf;simp only at this;omega),h.but.cell cq (fun hf=>by have:=k2 _ hf;simp only at this;omega)⟩,e3,e2⟩)
         rw[c5,a5]at H1;have o6:Hid (m=i):=Kh hm;have o7:m<=4194304:=by omega
         clear k9 l0 j4 k8 g7 b9 h5 k5 e7 e1 hm c5 a5 cl ch e5 d2 cq;go_upto_region 23 with fail;refine wp_region_noPanic ?_;refine yY (G:=uI 15 (fun W=>W.cell? ⟨P,2,none⟩=some (.slice (some ⟨fb,fo,none⟩) n fc)/\W.cell? ⟨fb,fo+q0,none⟩=some (.bool bq)) (fun W=>W.cell? ⟨O,3,none⟩=some (.slice sn m cn)/\W.cell? ⟨O,2,none⟩=some (.slice sf m cf))) (by kernel_rfl) ?_;rw[<-n2.out];refine zV 0 ⟨(h0.out _ _ _ hM).1,fun _=>(h0.out _ _ _ hM).2⟩ ?_;refine uA 1 ⟨(h0.out _ _ _ hM).1,fun _=>(h0.out _ _ _ hM).2⟩ ?_;refine zV 2 ⟨(h0.out _ _ _ hM).1,fun _=>(h0.out _ _ _ hM).2⟩ ?_;refine zV 5 ⟨(h0.out _ _ _ hM).1,fun _=>(h0.out _ _ _ hM).2⟩ ?_;refine uA 6 ⟨(h0.out _ _ _ hM).1,fun _=>(h0.out _ _ _ hM).2⟩ ?_;refine zV 7 ⟨(h0.out _ _ _ hM).1,fun _=>(h0.out _ _ _ hM).2⟩ ?_;refine zV 8 ⟨(h0.out _ _ _ hM).1,fun _=>(h0.out _ _ _ hM).2⟩ ?_;refine zV 9 ⟨(h0.out _ _ _ hM).1,fun _=>(h0.out _ _ _ hM).2⟩ ?_;refine zV 10 ⟨(h0.out _ _ _ hM).1,fun _=>(h0.out _ _ _ hM).2⟩ ?_;refine zV 11 ⟨(h0.out _ _ _ hM).1,fun _=>(h0.out _ _ _ hM).2⟩ ?_;refine twoG (i:=3) (j:=12) (by kernel_rfl) rfl rfl (fun K hK=>?_) (fun K hK=>?_)
         ·skip
          go_simp;refine hK.out _ _ ⟨(h0.out _ _ _ (hM.alloc _)).1,fun _=>(h0.out _ _ _ (hM.alloc _)).2⟩ ?_;clear hK K
          try simp only[Act.put,sPa,sPb,sPc]
          refine twoG (i:=4) (j:=12) (by kernel_rfl) rfl rfl (fun K hK=>?_) (fun K hK=>?_)
          ·skip
           refine uK rfl (.tmp 74) (.tmp 76) 40 rfl vU 0 _ _ rfl ⟨_,_,_,_,_,(hM.alloc _),_,rfl,rfl,rfl,rfl,?g3,?g4,d5,_,_,_,List.Mem.head _,(by first|rfl|simp),rfl,?_⟩
           case g3=>(simp only[];unfold maxLen;omega)
           case g4=>(simp only[];omega)
           intro sa1 sc1 w1x a2;have H4:=a2.litcell (List.Mem.head _)
           try simp only[zL]at H4
           refine hK.out _ _ ⟨(h0.out _ _ _ a2).1,fun _=>(h0.out _ _ _ a2).2⟩ ?_;clear hK K
           try simp only[Act.put,sPa,sPb,sPc]
           refine zV 14 ⟨(h0.out _ _ _ a2).1,fun _=>(h0.out _ _ _ a2).2⟩ ?_;refine oneG (i:=12) (by kernel_rfl) rfl (fun K hK=>?_);go_simp;refine hK.out _ _ ⟨(h0.out _ _ _ (a2.alloc _)).1,fun _=>(h0.out _ _ _ (a2.alloc _)).2⟩ ?_;clear hK K
           try simp only[Act.put,sPa,sPb,sPc]
           refine oneG (i:=13) (by kernel_rfl) rfl (fun K hK=>?_);refine uK rfl (.tmp 79) (.tmp 85) 39 rfl xJ 1 _ _ rfl ⟨_,_,_,_,_,(a2.alloc _),_,rfl,rfl,rfl,rfl,?g3,?g4,d5,_,_,_,List.Mem.head _,(by first|rfl|simp),rfl,?_⟩
           case g3=>(simp only[];unfold maxLen;omega)
           case g4=>(simp only[];omega)
           intro sa2 sc2 w2x b7;have H4:=b7.litcell (List.Mem.head _)
           try simp only[zL]at H4
           have a0:=b7.litcell (List.Mem.tail _ (List.Mem.head _))
           try simp only[zL]at a0
           refine hK.out _ _ ⟨(h0.out _ _ _ b7).1,fun _=>(h0.out _ _ _ b7).2⟩ ?_;clear hK K
           try simp only[Act.put,sPa,sPb,sPc]
           refine oneG (i:=15) (by kernel_rfl) rfl (fun K hK=>?_);have h8:=b7.but.heap H1.out g2.out;have cb3:=zI h8 3 (by simp);have cb2:=zI h8 2 (by simp);have fb3:=zE h8 3;have fb2:=zE h8 2;simp only[List.getElem_toArray,List.getElem_cons_zero,List.getElem_cons_succ]at cb3 cb2;go_simp;have h6:=heap_setCell_same _ O 3 _ _ (.slice sa1 (m+1) sc1) h8;have cb22:=zI h6 2 (by simp);have fb22:=zE h6 2;simp at cb22;have H3:=e0.out _ (h0.out _ _ _ b7).1 3 (.slice sa1 (m+1) sc1);refine hK.out _ _ ⟨H3,fun h=>by simp at h⟩ ?_;clear hK K
           try simp only[Act.put,sPa,sPb,sPc]
           refine zV 16 ⟨H3,fun h=>by simp at h⟩ ?_;refine oneG (i:=17) (by kernel_rfl) rfl (fun K hK=>?_);go_simp;have h9:=e0.out _ H3 2 (.slice sa2 (m+1) sc2);refine hK.out _ _ ⟨h9,fun h=>by simp at h⟩ ?_;clear hK K
           try simp only[Act.put,sPa,sPb,sPc]
           refine rP (by kernel_rfl) ?_ _;refine NoPanic.normal ?_;obtain⟨H5,b0⟩:=a4.out.push (b:=bq) (row:=xW l (d.next.getD q0 [])) c7.out b7 c8.out rfl;have H7:=Kh H5;have f4:=Kh (b0 w4 i9.out (by have:=c9.out;omega));clear H5 b0 cb3 cb2 fb3 fb2 h8 h6 cb22 fb22 H3 h9 b7
           (try clear a2)
           go_wp2;go_roundg (l.length-(i+1))
           case measure=>have:=g5.out;omega
           case rel=>exact⟨i+1,_,_,_,_,_,by omega,by go_num,H7.out.congr d9.out f2.out,f4.out⟩
          ·skip
           go_simp;refine hK.out _ _ ⟨(h0.out _ _ _ ((hM.alloc _).alloc _)).1,fun _=>(h0.out _ _ _ ((hM.alloc _).alloc _)).2⟩ ?_;clear hK K
           try simp only[Act.put,sPa,sPb,sPc]
           refine oneG (i:=4) (by kernel_rfl) rfl (fun K hK=>?_);refine uK rfl (.tmp 74) (.tmp 76) 40 rfl vU 0 _ _ rfl ⟨_,_,_,_,_,((hM.alloc _).alloc _),_,rfl,rfl,rfl,rfl,?g3,?g4,d5,_,_,_,List.Mem.tail _ (List.Mem.head _),(by first|rfl|simp),rfl,?_⟩
           case g3=>(simp only[];unfold maxLen;omega)
           case g4=>(simp only[];omega)
           intro sa3 sc3 w3x b6;have H4:=b6.litcell (List.Mem.head _)
           try simp only[zL]at H4
           have a0:=b6.litcell (List.Mem.tail _ (List.Mem.head _))
           try simp only[zL]at a0
           refine hK.out _ _ ⟨(h0.out _ _ _ b6).1,fun _=>(h0.out _ _ _ b6).2⟩ ?_;clear hK K
           try simp only[Act.put,sPa,sPb,sPc]
           refine zV 14 ⟨(h0.out _ _ _ b6).1,fun _=>(h0.out _ _ _ b6).2⟩ ?_;refine oneG (i:=13) (by kernel_rfl) rfl (fun K hK=>?_);refine uK rfl (.tmp 79) (.tmp 85) 39 rfl xJ 1 _ _ rfl ⟨_,_,_,_,_,b6,_,rfl,rfl,rfl,rfl,?g3,?g4,d5,_,_,_,List.Mem.head _,(by first|rfl|simp),rfl,?_⟩
           case g3=>(simp only[];unfold maxLen;omega)
           case g4=>(simp only[];omega)
           intro sa4 sc4 w4x b5;have H4:=b5.litcell (List.Mem.head _)
           try simp only[zL]at H4
           have a0:=b5.litcell (List.Mem.tail _ (List.Mem.head _))
           try simp only[zL]at a0
           refine hK.out _ _ ⟨(h0.out _ _ _ b5).1,fun _=>(h0.out _ _ _ b5).2⟩ ?_;clear hK K
           try simp only[Act.put,sPa,sPb,sPc]
           refine oneG (i:=15) (by kernel_rfl) rfl (fun K hK=>?_);have h8:=b5.but.heap H1.out g2.out;have cb3:=zI h8 3 (by simp);have cb2:=zI h8 2 (by simp);have fb3:=zE h8 3;have fb2:=zE h8 2;simp only[List.getElem_toArray,List.getElem_cons_zero,List.getElem_cons_succ]at cb3 cb2;go_simp;have h6:=heap_setCell_same _ O 3 _ _ (.slice sa3 (m+1) sc3) h8;have cb22:=zI h6 2 (by simp);have fb22:=zE h6 2;simp at cb22;have H3:=e0.out _ (h0.out _ _ _ b5).1 3 (.slice sa3 (m+1) sc3);refine hK.out _ _ ⟨H3,fun h=>by simp at h⟩ ?_;clear hK K
           try simp only[Act.put,sPa,sPb,sPc]
           refine zV 16 ⟨H3,fun h=>by simp at h⟩ ?_;refine oneG (i:=17) (by kernel_rfl) rfl (fun K hK=>?_);go_simp;have h9:=e0.out _ H3 2 (.slice sa4 (m+1) sc4);refine hK.out _ _ ⟨h9,fun h=>by simp at h⟩ ?_;clear hK K
           try simp only[Act.put,sPa,sPb,sPc]
           refine rP (by kernel_rfl) ?_ _;refine NoPanic.normal ?_;obtain⟨H5,b0⟩:=a4.out.push (b:=bq) (row:=xW l (d.next.getD q0 [])) c7.out b5 c8.out rfl;have H7:=Kh H5;have f4:=Kh (b0 w4 i9.out (by have:=c9.out;omega));clear H5 b0 cb3 cb2 fb3 fb2 h8 h6 cb22 fb22 H3 h9 b5
           (try clear b6)
           go_wp2;go_roundg (l.length-(i+1))
           case measure=>have:=g5.out;omega
           case rel=>exact⟨i+1,_,_,_,_,_,by omega,by go_num,H7.out.congr d9.out f2.out,f4.out⟩
         ·skip
          go_simp;refine hK.out _ _ ⟨(h0.out _ _ _ (hM.alloc _)).1,fun _=>(h0.out _ _ _ (hM.alloc _)).2⟩ ?_;clear hK K
          try simp only[Act.put,sPa,sPb,sPc]
          refine oneG (i:=3) (by kernel_rfl) rfl (fun K hK=>?_);go_simp;refine hK.out _ _ ⟨(h0.out _ _ _ ((hM.alloc _).alloc _)).1,fun _=>(h0.out _ _ _ ((hM.alloc _).alloc _)).2⟩ ?_;clear hK K
          try simp only[Act.put,sPa,sPb,sPc]
          refine oneG (i:=4) (by kernel_rfl) rfl (fun K hK=>?_);refine uK rfl (.tmp 74) (.tmp 76) 40 rfl vU 0 _ _ rfl ⟨_,_,_,_,_,((hM.alloc _).alloc _),_,rfl,rfl,rfl,rfl,?g3,?g4,d5,_,_,_,List.Mem.head _,(by first|rfl|simp),rfl,?_⟩
          case g3=>(simp only[];unfold maxLen;omega)
          case g4=>(simp only[];omega)
          intro sa5 sc5 w5x b4;have H4:=b4.litcell (List.Mem.head _)
          try simp only[zL]at H4
          have a0:=b4.litcell (List.Mem.tail _ (List.Mem.head _))
          try simp only[zL]at a0
          refine hK.out _ _ ⟨(h0.out _ _ _ b4).1,fun _=>(h0.out _ _ _ b4).2⟩ ?_;clear hK K
          try simp only[Act.put,sPa,sPb,sPc]
          refine zV 14 ⟨(h0.out _ _ _ b4).1,fun _=>(h0.out _ _ _ b4).2⟩ ?_;refine oneG (i:=13) (by kernel_rfl) rfl (fun K hK=>?_);refine uK rfl (.tmp 79) (.tmp 85) 39 rfl xJ 1 _ _ rfl ⟨_,_,_,_,_,b4,_,rfl,rfl,rfl,rfl,?g3,?g4,d5,_,_,_,List.Mem.tail _ (List.Mem.head _),(by first|rfl|simp),rfl,?_⟩
          case g3=>(simp only[];unfold maxLen;omega)
          case g4=>(simp only[];omega)
          intro sa6 sc6 w6x b3;have H4:=b3.litcell (List.Mem.head _)
          try simp only[zL]at H4
          have a0:=b3.litcell (List.Mem.tail _ (List.Mem.head _))
          try simp only[zL]at a0
          refine hK.out _ _ ⟨(h0.out _ _ _ b3).1,fun _=>(h0.out _ _ _ b3).2⟩ ?_;clear hK K
          try simp only[Act.put,sPa,sPb,sPc]
          refine oneG (i:=15) (by kernel_rfl) rfl (fun K hK=>?_);have h8:=b3.but.heap H1.out g2.out;have cb3:=zI h8 3 (by simp);have cb2:=zI h8 2 (by simp);have fb3:=zE h8 3;have fb2:=zE h8 2;simp only[List.getElem_toArray,List.getElem_cons_zero,List.getElem_cons_succ]at cb3 cb2;go_simp;have h6:=heap_setCell_same _ O 3 _ _ (.slice sa5 (m+1) sc5) h8;have cb22:=zI h6 2 (by simp);have fb22:=zE h6 2;simp at cb22;have H3:=e0.out _ (h0.out _ _ _ b3).1 3 (.slice sa5 (m+1) sc5);refine hK.out _ _ ⟨H3,fun h=>by simp at h⟩ ?_;clear hK K
          try simp only[Act.put,sPa,sPb,sPc]
          refine zV 16 ⟨H3,fun h=>by simp at h⟩ ?_;refine oneG (i:=17) (by kernel_rfl) rfl (fun K hK=>?_);go_simp;have h9:=e0.out _ H3 2 (.slice sa6 (m+1) sc6);refine hK.out _ _ ⟨h9,fun h=>by simp at h⟩ ?_;clear hK K
          try simp only[Act.put,sPa,sPb,sPc]
          refine rP (by kernel_rfl) ?_ _;refine NoPanic.normal ?_;obtain⟨H5,b0⟩:=a4.out.push (b:=bq) (row:=xW l (d.next.getD q0 [])) c7.out b3 c8.out rfl;have H7:=Kh H5;have f4:=Kh (b0 w4 i9.out (by have:=c9.out;omega));clear H5 b0 cb3 cb2 fb3 fb2 h8 h6 cb22 fb22 H3 h9 b3
          (try clear b4)
          go_wp2;go_roundg (l.length-(i+1))
          case measure=>have:=g5.out;omega
          case rel=>exact⟨i+1,_,_,_,_,_,by omega,by go_num,H7.out.congr d9.out f2.out,f4.out⟩
      ·have k0:i=l.length:=by have:=g5.out;omega
       have l5:Hid (nI d l i=(xY d k).final/\nH d l i=(xY d k).next):=Kh (by
        rw[k0];simp only[nI,nH,List.take_length];rw[HL.out]
        exact⟨rfl,rfl⟩)
       have d7:O≠P+1:=(by omega);have H8:=zB (zB (zB n6.out d8.out (by simp)) H0.out (by simp)) h5 (fun e=>d7 (Oj e));have r0:=zI H8 0 (by simp);have r1:=zI H8 1 (by simp);have r2:=zI H8 2 (by simp);have r3:=zI H8 3 (by simp);have q0:=zE H8 0;have q1:=zE H8 1;have q2:=zE H8 2;have q3:=zE H8 3;simp only[List.getElem_toArray,List.getElem_cons_zero,List.getElem_cons_succ]at r0 r1 r2 r3;have f3:=Kh H8;obtain⟨o0,o1,o2,o3⟩:=zF H5.box;clear H5 h5 H8 k0;go_wp2;refine bodyPost_ret (v:=.tuple #[.agg #[.int .i64 (k:Int),.int .i64 0,.slice sf (nI d l i).length cf,.slice sn (nH d l i).length cn],.slice (some ⟨G,0,none⟩) n n]) (by simp[results,Try.results82,go_sem,r0,r1,r2,r3]) rfl ?_;obtain⟨m1,f9⟩:=wF f3.out (.int .i64 (k:Int)) (.int .i64 0) (.slice sf (nI d l i).length cf) (.slice sn (nH d l i).length cn);have i2:=f6.out.far f9 f3.out (fun e=>d7 e.symm);refine⟨_,_,rfl,?_,?_⟩
       ·have he:xY d k=⟨(k:Int),0,nI d l i,nH d l i⟩:=by
         rw[l5.out.1,l5.out.2];have:=HD.out.hk;simp only[xY,this]
        rw[he];exact⟨O,hs,sf,cf,sn,cn,rfl,by have h1:=H0.out.size;have h2:=c9.out;have h3:=i5.out;omega,i2⟩
       ·refine zA (zD n4.out (zD d8.out (zD H0.out (zA (zH _ _) H6.out (fun x e=>by have:=Oj e;have:=c9.out;omega))))) f9 (fun x e=>by have:=Oj e;have:=i5.out;omega)
def PTrimOk (w:World)(d:DfaV)(n k:Nat)(e:Ending)(w':World):Prop :=
 ∃v G,e=.returned (.tuple #[v,.slice (some ⟨G,0,none⟩) n n])/\oE w w' v (xY d k)/\w.heap.size<=G/\Arr w' G 3 (ints (tR n (zZ d k)))/\w.grownBy w' none
theorem qBL (B:Nat)(w:World)(v:Value)(d:DfaV)(n k:Nat)(hB:B<=w.heap.size)(h:tE B w v d)(hd:VD d n k)(h5:n<=512):Calls Try.prog 110 #[v] w (PTrimOk w d n k):=by
 have H0:=h;obtain⟨fb,fo,fc,b,off,cap,RB,RO,RC,rfl,H5⟩:=h.at hd;have hn:=hd.hn;have j8:=hd.n1;have k2:=hd.k6;have k3:=hd.k1;have k4:=H5.fcap.1;have H8:=H5.fcap.2;have k5:=H5.cap.1;have H9:=H5.cap.2;have f9:fc<=9223372036854775807:=by unfold maxLen at H8;omega
 have f8:cap<=9223372036854775807:=by unfold maxLen at H9;omega
 obtain⟨S,hS⟩:∃S,S=st0 d:=⟨_,rfl⟩;have g9:=Kh hS;have d6:dAgg k (st0 d) fb fo fc b off cap n=.agg #[.int .i64 (k:Int),.int .i64 (S:Int),.slice (some ⟨fb,fo,none⟩) n fc,.slice (some ⟨b,off,none⟩) n cap]:=by rw[hS];rfl
 rw[d6]at H0⊢;obtain⟨a1,b4,H6,d4⟩:=sZ w #[.int .i64 (k:Int),.int .i64 (S:Int),.slice (some ⟨fb,fo,none⟩) n fc,.slice (some ⟨b,off,none⟩) n cap] #[.int .i64 0,.int .i64 0,.slice none 0 0,.slice none 0 0] 42;obtain⟨wA,c4⟩:∃wA,wA=(w.alloc (.cells #[.int .i64 (k:Int),.int .i64 (S:Int),.slice (some ⟨fb,fo,none⟩) n fc,.slice (some ⟨b,off,none⟩) n cap] 42)).alloc (.cells #[.int .i64 0,.int .i64 0,.slice none 0 0,.slice none 0 0] 42):=⟨_,rfl⟩;rw[<-c4]at a1 b4 H6 d4;obtain⟨c0,c1,c2,c3⟩:=zF a1;obtain⟨P,hP⟩:∃P,P=w.heap.size:=⟨_,rfl⟩;obtain⟨Q,hQ⟩:∃Q,Q=w.heap.size+1:=⟨_,rfl⟩;have i2:=Kh hP;have i0:Hid (Q=P+1):=Kh (by omega);have l2:P<Q:=by omega
 have k8:Q<wA.heap.size:=by omega
 have l1:w.heap.size<=P:=by omega
 have g4:B<=wA.heap.size:=by omega
 rw[<-hQ]at b4;rw[<-hP]at a1 c0 c1 c2 c3 hB;have j2:=Kh a1;have j1:=Kh b4;have i6:=Kh H6;have g5:=Kh c4;have j3:=Kh (H5.kept H6 (by simp));have HN:=Kh hn;have HD:=Kh hd;have e7:=Kh (rR B wA _ d g4 (H0.kept H6 (by simp)));have g7:=Kh (gZ hd h5);clear a1 b4 H6 c4 H5 hn hd h H0 d6 H8 H9 hS d4 hP hQ;go_enter Try.func110,Try.ntmps110;go_upto_region 1 with fail;rw[<-g5.out,<-i2.out,<-i0.out];go_wp2_with fail;refine e7.out.mono ?_;rintro e w1 ⟨rfl,H4⟩;rw[g7.out];have j7:=H4.size;have i7:=Kh H4;have H3:=Kh (zB j2.out H4 (by simp));have c9:=Kh (zB j1.out H4 (by simp));have e9:=Kh (explore_any B w1 P d n k S fb fo fc b off cap RB RO RC g9.out h5 ⟨H3.out,j3.out.kept H4 (by simp)⟩);obtain⟨d0,d1,d2,d3⟩:=zF H3.out;clear H4 e7 c0 c1 c2 c3;go_wp2_with fail;refine e9.out.mono ?_;rintro e w2 ⟨v2,sa,sc,rfl,⟨o,hs,sf,cf,sn,cn,rfl,ho,H1⟩,h3,b9⟩;clear e9 d0 d1 d2 d3;obtain⟨h6,g0⟩:=xV HD.out;obtain⟨l,hl⟩:∃l,l=zZ d k:=⟨_,rfl⟩;have HL:=Kh hl;rw[<-hl]at h3 h6 g0⊢;have g1:=h6.hd.1;obtain⟨gl,rfl,k0,j9,a2⟩:=yG h3 g1;obtain⟨m,hm⟩:∃m,m=xY d k:=⟨_,rfl⟩;rw[<-hm]at H1;have HM:=Kh hm;have a6:(xY d k).start=0:=rfl;have b0:(xY d k).letters=k:=HD.out.hk;rw[<-hm]at a6 b0;rw[<-hm,a6,b0];have j4:=Kh a2;have c8:=Kh b9;have a4:=Kh h6;have i9:=Kh H1;have i4:=Kh a6;have i5:=Kh b0;have j6:=b9.size;obtain⟨FL,c6⟩:∃FL,FL=m.final.length:=⟨_,rfl⟩;obtain⟨NL,c5⟩:∃NL,NL=m.next.length:=⟨_,rfl⟩;rw[<-c6,<-c5];have i8:=Kh c6;have i3:=Kh c5;clear hl h3 a2 b9 h6 hm a6 b0 H1 c6 c5;obtain⟨w3,b6⟩:∃w3,w3=w2.alloc (.cells #[.int .i64 (k:Int),.int .i64 0,.slice sf FL cf,.slice sn NL cn] 42):=⟨_,rfl⟩;obtain⟨T,hT⟩:∃T,T=w2.heap.size:=⟨_,rfl⟩;have H7:=Ga w2 (.cells #[.int .i64 (k:Int),.int .i64 0,.slice sf FL cf,.slice sn NL cn] 42) none;have a0:=heap_alloc_new w2 (.cells #[.int .i64 (k:Int),.int .i64 0,.slice sf FL cf,.slice sn NL cn] 42);rw[<-b6]at H7 a0;rw[<-hT]at a0;have b5:=Kh H7;have j0:=Kh a0;have g6:=Kh b6;have g8:=Kh hT;have j5:=H7.size;have k7:=zK a0;have k9:Q<T:=by omega
 have l0:P+1<w3.heap.size:=by omega
 obtain⟨d0,d1,d2,d3⟩:=zF (zB (zB H3.out c8.out (by simp)) H7 (by simp));clear H7 a0 b6 hT;go_upto_region 4 with fail;rw[<-g6.out,<-g8.out];go_wp2_with (first|(at_make;refine kC rfl _ _ _ rfl yP rfl .i64 .i64 _ _ n rfl rfl rfl rfl ?b1 ?b2 ?_;(case b1=>omega);(case b2=>(unfold maxLen;omega));intro w4 h0 e5 b8)|fail);obtain⟨G,hG⟩:∃G,G=w3.heap.size:=⟨_,rfl⟩;rw[<-hG]at h0 b8⊢;have f5:=Kh h0;have e8:=Kh e5;have c7:=Kh hG;have l3:T<G:=by omega
 clear h0 e5 hG d0 d1 d2 d3
 go_loopg [8,32] n (fun gh a7 i wr=>∃q:Nat,gh+q=n/\i=.int .i64 q/\Arr wr G 3 (ints (iE n q))/\w3.grownBy wr none)
 case atStart=>exact⟨0,rfl,rfl,by simpa [iE,pN] using f5.out,e8.out⟩
 case round =>
  clear f5 e8;obtain⟨q,hg,rfl,h0,h4⟩:=hrel;have HG:=Kh hg;have HA:=Kh h0;have a3:=Kh h4;clear hg;by_cases hq:q<n
  ·have f7:(q:Int)<n:=by omega
   have cgk:=h0.int q (by rw[pF (by omega)];exact hq);have fgk:=h0.frozen q;have HS:=Kh (qCR hq);clear h0 h4;go_wp2;go_roundg (n-(q+1))
   case measure=>have:=HG.out;omega
   case rel =>
    refine⟨q+1,by omega,by go_num,?_,zA a3.out (zC wr ⟨G,q,none⟩ _) (fun q e=>by have h7:G=q:=Oj e;have:=c7.out;omega)⟩;rw[<-HS.out];exact HA.out.int_set q (by rw[pF (by omega)];exact hq) (-1)
  ·have d7:q=n:=by have:=HG.out;omega
   have HF:Hid (iE n q=tR n (l.take 0)):=Kh (by rw[d7,List.take_zero,bJ];simp[iE]);rw[HF.out]at HA;clear d7 h0 h4 HG;obtain⟨w5,rfl⟩:∃w5:World,w5=wr:=⟨_,rfl⟩;go_wp2
   go_loopg [9,10,41] l.length (fun gh a8 a9 i wr=>∃q:Nat,gh+q=l.length/\i=.int .i64 q/\Arr wr G 3 (ints (tR n (l.take q)))/\w3.grownBy wr none)
   case atStart=>exact⟨0,rfl,rfl,HA.out,a3.out⟩
   case round =>
    clear HA a3 HF;obtain⟨q,hg,rfl,h0,h4⟩:=hrel;have HG:=Kh hg;have HA:=Kh h0;have a3:=Kh h4;clear hg;by_cases hq:q<l.length
    ·have f7:(q:Int)<l.length:=by omega
     have cl:=((j4.out.kept b5.out (by simp)).kept h4 (by simp)).nat q hq;have b7:l.getD q 0<n:=a4.out.lt _ (by rw[zG hq];exact List.getElem_mem _);have a5:l.take (q+1)=l.take q++[l.getD q 0]:=zT hq
     have h9:l.getD q 0 ∉ l.take q:=by
      have h1:=a4.out.nd;have h2:(l.take (q+1)).Nodup:=h1.sublist (List.take_sublist _ _);rw[a5,List.nodup_append]at h2;exact fun hm=>h2.2.2 _ hm _ (by simp) rfl
     obtain⟨s,hs⟩:∃s,s=l.getD q 0:=⟨_,rfl⟩;rw[<-hs]at cl b7 a5 h9;have f6:(s:Int)<n:=(by omega);have cgk:=h0.int s (by rw[vH];exact b7);have fgk:=h0.frozen s
     have HS:Hid ((tR n (l.take q)).set s (q:Int)=tR n (l.take (q+1))):=Kh (by
      have:=bI (n:=n) h9;rw[List.length_take,Nat.min_eq_left (by omega)]at this
      rw[this,a5])
     clear h0 h4 a5 h9 hs;go_wp2;go_roundg (l.length-(q+1))
     case measure=>have:=HG.out;omega
     case rel =>
      refine⟨q+1,by omega,by go_num,?_,zA a3.out (zC wr ⟨G,s,none⟩ _) (fun q e=>by have h7:G=q:=Oj e;have:=c7.out;omega)⟩;rw[<-HS.out];exact HA.out.int_set s (by rw[vH];exact b7) (q:Int)
    ·have d8:q=l.length:=by have:=HG.out;omega
     have d9:l.take q=l:=by rw[d8];exact List.take_length
     rw[d9]at HA h0;have i1:=Kh h0;have h8:=Kh h4;clear d8 d9 h0 HA HG h4;obtain⟨e0,e1,e2,e3⟩:=zF (zB j0.out h8.out (by simp));have H2:=zB (zB (zB c9.out c8.out (by simp)) b5.out (by simp)) h8.out (by simp);obtain⟨q0,q1,q2,q3⟩:=zF H2;have f0:=zE H2 0;have f1:=zE H2 1;have f2:=zE H2 2;have f3:=zE H2 3;have f4:=Kh H2;clear H2;go_wp2;obtain⟨e6,b3⟩:=wF f4.out (.int .i64 (k:Int)) (.int .i64 0) (.slice sf FL cf) (.slice sn NL cn);obtain⟨wz,d5⟩:∃wz,wz=(((wr.setCell ⟨Q,0,none⟩ (.int .i64 (k:Int))).setCell ⟨Q,1,none⟩ (.int .i64 0)).setCell ⟨Q,2,none⟩ (.slice sf FL cf)).setCell ⟨Q,3,none⟩ (.slice sn NL cn):=⟨_,rfl⟩;rw[<-d5]at e6 b3⊢;clear d5;obtain⟨r0,r1,r2,r3⟩:=zF e6;clear e0 e1 e2 e3 q0 q1 q2 q3 f0 f1 f2 f3;refine bodyPost_ret (v:=.tuple #[.agg #[.int .i64 (k:Int),.int .i64 0,.slice sf FL cf,.slice sn NL cn],.slice (some ⟨G,0,none⟩) n n]) (by simp[results,Try.results110,go_sem,r0,r1,r2,r3]) rfl ?_;have g2:w.grownBy wz none:=zA (zA (zA (zA (zA i6.out i7.out (by simp)) c8.out (by simp)) b5.out (by simp)) h8.out (by simp)) b3 (fun k e=>by have h7:Q=k:=Oj e;omega);have g3:=((i9.out.grow b5.out).grow h8.out).far b3 f4.out (by omega);have e4:xY d k=m:=HM.out.symm;refine⟨_,G,rfl,⟨o,hs,sf,cf,sn,cn,?_,by omega,by rw[e4];exact g3⟩,by have:=c7.out;omega,?_,g2⟩
     ·rw[e4,i4.out,i5.out,i8.out,i3.out]
     ·rw[<-HL.out]
      exact i1.out.kept b3 (fun e=>by have h7:Q=G:=Oj e;omega)
end Go.Proofs.Ytjfdomfendbhfaa
namespace Go.Proofs.Ytjfdomfendbhfaa
def acc (d:DfaV)(q:Nat)(w:List Nat):Bool:=d.final.getD (run d q w) false
theorem finB_inj {a b:Bool}(h:finB a=finB b):a=b:=by cases a<;>cases b<;>simp[finB]at h<;>rfl
section
variable {d:DfaV} {n k:Nat}
theorem fY (hd:VD d n k){q q':Nat}(hq:q<n)(hq':q'<n):(jA d).getD q 0=(jA d).getD q' 0↔d.final.getD q false=d.final.getD q' false:=by
 have hn:=hd.hn;rw[jA,oU (by rw[List.length_map];omega) (by rw[List.length_map];omega),List.getElem_map,List.getElem_map,<-zG (d:=false),<-zG (d:=false)];exact⟨finB_inj,fun h=>by rw[h]⟩
theorem dD (hd:VD d n k):∀m {q q':Nat},q<n->q'<n->(yX d k m).getD q 0=(yX d k m).getD q' 0->d.final.getD q false=d.final.getD q' false
 | 0,q,q',hq,hq',h=>(fY hd hq hq').1 h
 | m+1,q,q',hq,hq',h=>dD hd m hq hq' ((qD hd (by rw[yZ,hd.hn]) (by rw[<-hd.hn];exact qFQ d k m) hq hq' k (Nat.le_refl _)).1 h).1
theorem dC (hd:VD d n k):∀m {q q':Nat},q<n->q'<n->(yX d k m).getD q 0≠(yX d k m).getD q' 0->∃w,yO k w/\acc d q w≠acc d q' w
 | 0,q,q',hq,hq',h=>⟨[],fun a ha=>by simp at ha,fun e=>h ((fY hd hq hq').2 e)⟩
 | m+1,q,q',hq,hq',h=>by
  by_cases h1:(yX d k m).getD q 0=(yX d k m).getD q' 0
  ·have hx:¬∀a,a<k->(yX d k m).getD (nx d q a) 0=(yX d k m).getD (nx d q' a) 0:=fun ha=>h ((qD hd (by rw[yZ,hd.hn]) (by rw[<-hd.hn];exact qFQ d k m) hq hq' k (Nat.le_refl _)).2 ⟨h1,ha⟩)
   obtain⟨a,ha⟩:=Classical.not_forall.1 hx
   obtain⟨ha,hne⟩:=Classical.not_imp.1 ha
   obtain⟨w,hw,e⟩:=dC hd m (mA hd hq ha) (mA hd hq' ha) hne
   exact⟨a::w,fun b hb=>by
    rcases List.mem_cons.1 hb with rfl|hb
    ·exact ha
    ·exact hw b hb,e⟩
  ·exact dC hd m hq hq' h1
theorem aR (d:DfaV)(p:List Nat):st0 (tA d p)=p.getD (st0 d) 0:=by simp[st0,tA]
theorem kW (hd:VD d n k){q:Nat}(hq:q<n){w:List Nat}(hw:yO k w):acc (tA d (yW d k)) ((yW d k).getD q 0) w=acc d q w:=by
 have hl:(yW d k).length=n:=by rw[wV,hd.hn]
 have hN:=sI d k;have hr:=cY hd w hq hw;unfold acc;rw[qEI hd hl hN (classesD_fix hd) w hq hw];have hc:=qF hN (show run d q w<(yW d k).length by omega);have hg:=oO hN hc;show ((reps (yW d k)).map fun q=>d.final.getD q false).getD _ false=_;rw[tI (x:=0) (by rw[qC hN];exact hc)];exact dD hd _ (by omega) hr hg.1
theorem qEJ (hd:VD d n k){c c':Nat}(hc:c<cls (yW d k))(hc':c'<cls (yW d k))(h:∀w,yO k w->acc (tA d (yW d k)) c w=acc (tA d (yW d k)) c' w):c=c':=by
 have hl:(yW d k).length=n:=by rw[wV,hd.hn]
 have hN:=sI d k;obtain⟨h1,h2⟩:=oO hN hc;obtain⟨h3,h4⟩:=oO hN hc';rw[hl]at h2 h4;rcases Decidable.em (c=c') with e|e
 ·exact e
 exfalso;obtain⟨w,hw,h0⟩:=dC hd d.final.length h2 h4 (by rw[show yX d k d.final.length=yW d k from rfl,h1,h3];exact e);have a1:=kW hd h2 hw;have a2:=kW hd h4 hw;rw[h1]at a1;rw[h3]at a2;exact h0 (a1.symm.trans ((h w hw).trans a2))
theorem qDY (hd:VD d n k){w:List Nat}(hw:yO k w):acc (xY d k) 0 w=acc d (st0 d) w:=by
 have hA:=(xV hd).1;have hr:=cY (lW hd) w (lW hd).n1 hw;unfold acc;rw[jW hd hr,qDX hd w hA.hd.1 hw,hA.hd.2]
theorem qHD (hd:VD d n k){w:List Nat}(hw:yO k w):acc (minD d k) 0 w=acc d (st0 d) w:=by
 rw[show acc (minD d k) 0 w=acc (tA d (yW d k)) (st0 (tA d (yW d k))) w from qDY (kX hd) hw,aR];exact kW hd (pU hd) hw
end
inductive Side (R:Nat->Nat->Prop):List Nat->List Nat->Prop
 | nil:Side R [] []
 | snoc {l l':List Nat} {q q':Nat}:Side R l l'->R q q'->Side R (l++[q]) (l'++[q'])
theorem Side.len {R:Nat->Nat->Prop}{l l':List Nat}(h:Side R l l'):l.length=l'.length:=by
 induction h with
 | nil=>rfl
 | snoc _ _ ih=>simp[ih]
theorem Side.get {R:Nat->Nat->Prop}{l l':List Nat}(h:Side R l l'):∀i,i<l.length->R (l.getD i 0) (l'.getD i 0):=by
 induction h with
 | nil=>intro i hi;simp at hi
 | @snoc l l' q q' hs hr ih =>
  intro i hi;have hl:=hs.len;simp at hi;by_cases e:i<l.length
  ·rw[qK (List.prefix_append _ _) e,qK (List.prefix_append _ _) (by omega)];exact ih i e
  ·have e1:i=l.length:=by omega
   subst e1;have a1:(l++[q]).getD l.length 0=q:=by simp[List.getD]
   have a2:(l'++[q']).getD l.length 0=q':=by rw[hl];simp[List.getD]
   rw[a1,a2];exact hr
structure One (R:Nat->Nat->Prop):Prop where
 l:∀ {q q' r'},R q q'->R q r'->q'=r'
 r:∀ {q r q'},R q q'->R r q'->q=r
theorem Side.mem {R:Nat->Nat->Prop}(hR:One R){l l':List Nat}(h:Side R l l'){q q':Nat}(hq:R q q'):q∈l↔q'∈l':=by
 have hl:=h.len;constructor
 ·intro hm
  obtain⟨i,hi,rfl⟩:=List.getElem_of_mem hm;have:=h.get i hi;rw[zG hi]at this;rw[hR.l hq this,zG (by omega)];exact List.getElem_mem _
 ·intro hm
  obtain⟨i,hi,rfl⟩:=List.getElem_of_mem hm;have:=h.get i (by omega);rw[zG hi,zG (show i<l.length by omega)]at this;rw[hR.r hq this];exact List.getElem_mem _
theorem Side.add {R:Nat->Nat->Prop}(hR:One R){l l':List Nat}(h:Side R l l'){q q':Nat}(hq:R q q'):Side R (xU l q) (xU l' q'):=by
 unfold xU;by_cases e:q∈l
 ·rw[if_pos e,if_pos ((h.mem hR hq).1 e)];exact h
 ·rw[if_neg e,if_neg (fun e'=>e ((h.mem hR hq).2 e'))];exact .snoc h hq
theorem Side.idx {R:Nat->Nat->Prop}(hR:One R){l l':List Nat}(h:Side R l l')(hn:l.Nodup)(hn':l'.Nodup){q q':Nat}(hq:R q q')(hm:q∈l):l.idxOf q=l'.idxOf q':=by
 have hi:=List.idxOf_lt_length_of_mem hm;have hl:=h.len;have:=h.get _ hi;rw[zG hi,List.getElem_idxOf,zG (show l.idxOf q<l'.length by omega)]at this;have e:=hR.l hq this;have h0:=(h.mem hR hq).1 hm;have h1:=List.idxOf_lt_length_of_mem h0;have e2:l'[l'.idxOf q']=l'[l.idxOf q]'(by omega):=by rw[List.getElem_idxOf];exact e
 exact((List.getElem_inj hn').1 e2).symm
section
variable {x x':DfaV} {n n' k:Nat} {R:Nat->Nat->Prop}
theorem qEF (hR:One R)(hs:∀ {q q' a},R q q'->a<k->R (nx x q a) (nx x' q' a)){l l':List Nat}(h:Side R l l'){i:Nat}(hi:i<l.length):∀a,a<=k->Side R (wX x l i a) (wX x' l' i a)
 | 0,_=>h
 | a+1,ha=>(qEF hR hs h hi a (by omega)).add hR (hs (h.get i hi) (by omega))
theorem qGN (hR:One R)(hs:∀ {q q' a},R q q'->a<k->R (nx x q a) (nx x' q' a)):∀f i {l l':List Nat},Side R l l'->Side R (rQ x k f i l) (rQ x' k f i l')
 | 0,_,_,_,h=>h
 | f+1,i,l,l',h=>by
  rw[rQ,rQ,h.len]
  by_cases e:i<l'.length
  ·rw[if_pos e,if_pos e]
   exact qGN hR hs f (i+1) (qEF hR hs h (by rw[h.len];exact e) k (Nat.le_refl _))
  ·rw[if_neg e,if_neg e];exact h
end
theorem aE {d:DfaV}{n k:Nat}(hd:VD d n k):∀f i l m,AccI d n k i l->n<=i+f->rQ d k (f+m) i l=rQ d k f i l
 | 0,i,l,m,h,hf=>by
  have hl:=mW h.nd h.lt
  rw[dU (f:=0+m) (by omega),rQ]
 | f+1,i,l,m,h,hf=>by
  rw[show f+1+m=(f+m)+1 by omega,rQ,rQ]
  by_cases e:i<l.length
  ·rw[if_pos e,if_pos e]
   exact aE hd f (i+1) _ m (h.row hd e) (by omega)
  ·rw[if_neg e,if_neg e]
theorem dT {d:DfaV}{n k:Nat}(hd:VD d n k)(m:Nat):rQ d k (n+m) 0 [st0 d]=zZ d k:=by
 rw[zZ,hd.hn];exact aE hd n 0 _ m (AccI.start hd) (by omega)
theorem trim_congr {x x':DfaV}{n n' k:Nat}(hx:VD x n k)(hx':VD x' n' k)(hr:∀ {c c'},c<n->c'<n->(∀w,yO k w->acc x c w=acc x c' w)->c=c')(hr':∀ {c c'},c<n'->c'<n'->(∀w,yO k w->acc x' c w=acc x' c' w)->c=c')(hl:∀w,yO k w->acc x (st0 x) w=acc x' (st0 x') w):xY x k=xY x' k:=by
 obtain⟨R,h8⟩:∃R:Nat->Nat->Prop,∀q q',R q q'↔q<n/\q'<n'/\∀w,yO k w->acc x q w=acc x' q' w:=⟨fun q q'=>q<n/\q'<n'/\∀w,yO k w->acc x q w=acc x' q' w,fun _ _=>Iff.rfl⟩
 have hR:One R:=by
  refine⟨fun {q q' r'} h1 h2=>?_,fun {q r q'} h1 h2=>?_⟩
  ·obtain⟨_,h3,h4⟩:=(h8 _ _).1 h1
   obtain⟨_,h5,h6⟩:=(h8 _ _).1 h2;exact hr' h3 h5 (fun w hw=>(h4 w hw).symm.trans (h6 w hw))
  ·obtain⟨h3,_,h4⟩:=(h8 _ _).1 h1
   obtain⟨h5,_,h6⟩:=(h8 _ _).1 h2;exact hr h3 h5 (fun w hw=>(h4 w hw).trans (h6 w hw).symm)
 have hs:∀ {q q' a},R q q'->a<k->R (nx x q a) (nx x' q' a):=fun {q q' a} h ha=>by
  obtain⟨h1,h2,h3⟩:=(h8 _ _).1 h
  exact(h8 _ _).2 ⟨mA hx h1 ha,mA hx' h2 ha,fun w hw=>h3 (a::w) (fun b hb=>by
   rcases List.mem_cons.1 hb with rfl|hb
   ·exact ha
   ·exact hw b hb)⟩
 have h0:R (st0 x) (st0 x'):=(h8 _ _).2 ⟨pU hx,pU hx',hl⟩
 have h7:Side R (zZ x k) (zZ x' k):=by
  have:=qGN (x:=x) (x':=x') (k:=k) hR hs (n+n') 0 (Side.snoc .nil h0);rw[List.nil_append,List.nil_append,dT hx n']at this;rw[Nat.add_comm n n',dT hx' n]at this;exact this
 have hA:=(xV hx).1;have H2:=(xV hx').1;have h9:=h7.len;have hm:∀i,i<(zZ x k).length->(zZ x k).getD i 0∈zZ x k:=fun i hi=>by rw[zG hi];exact List.getElem_mem _
 have key:∀i,i<(zZ x k).length->(xY x k).final.getD i false=(xY x' k).final.getD i false:=fun i hi=>by
  rw[jW hx hi,jW hx' (by omega)];obtain⟨_,_,h⟩:=(h8 _ _).1 (h7.get i hi);exact h [] (fun a ha=>by simp at ha)
 have hv:=lW hx;have H0:=lW hx';have e1:(xY x k).letters=(xY x' k).letters:=hx.hk.trans hx'.hk.symm
 have e3:(xY x k).final=(xY x' k).final:=by
  refine List.ext_getElem (by rw[hv.hn,H0.hn,h9]) fun i h1 h2=>?_;have:=key i (by rw[hv.hn]at h1;exact h1);rw[zG h1,zG h2]at this;exact this
 have e4:(xY x k).next=(xY x' k).next:=by
  refine List.ext_getElem (by rw[hv.nl,H0.nl,h9]) fun i h1 h2=>?_;have hi:i<(zZ x k).length:=by rw[hv.nl]at h1;exact h1
  have r1:=hv.row i hi;have r2:=H0.row i (by omega);rw[zG h1]at r1;rw[zG h2]at r2;refine List.ext_getElem (by rw[r1,r2]) fun a h3 h4=>?_;have ha:a<k:=by omega
  have t1:=kQ hx hi ha;have t2:=kQ hx' (show i<(zZ x' k).length by omega) ha;have hq:=h7.get i hi;have H3:=(xV hx).2;have H1:=hA.cl i a (by omega) hi ha;rw[h7.idx hR hA.nd H2.nd (hs hq ha) H1,<-t2]at t1;unfold ent at t1;rw[zG h1,zG h2,zG h3,zG h4]at t1;exact t1
 show (⟨_,0,(xY x k).final,(xY x k).next⟩:DfaV)=⟨_,0,(xY x' k).final,(xY x' k).next⟩;rw[e3,e4];exact congrArg (fun z=>(⟨z,0,(xY x' k).final,(xY x' k).next⟩:DfaV)) e1
theorem qBY {d d':DfaV}{n n' k:Nat}(hd:VD d n k)(hd':VD d' n' k)(h:∀w,yO k w->acc d (st0 d) w=acc d' (st0 d') w):minD d k=minD d' k:=by
 refine trim_congr (kX hd) (kX hd') (fun h1 h2=>qEJ hd h1 h2) (fun h1 h2=>qEJ hd' h1 h2) fun w hw=>?_;rw[aR,aR,kW hd (pU hd) hw,kW hd' (pU hd') hw];exact h w hw
theorem min_trim {d:DfaV}{n k:Nat}(hd:VD d n k):minD (xY d k) k=minD d k:=qBY (lW hd) hd (fun w hw=>by rw[show st0 (xY d k)=0 from rfl];exact qDY hd hw)
def lH (d:DfaV)(p:List Nat)(q x:Nat):List Nat:=(p.getD q 0::(List.range x).map fun a=>p.getD (nx d q a) 0)++List.replicate (6-x) 0
theorem nS {d:DfaV}{p:List Nat}{q x:Nat}(h:x<=6):(lH d p q x).length=7:=by simp[lH];omega
theorem sigTo_set {d:DfaV}{p:List Nat}{q x:Nat}(h:x<6):(lH d p q x).set (1+x) (p.getD (nx d q x) 0)=lH d p q (x+1):=by
 unfold lH;rw[List.set_append_right _ _ (by simp;omega),List.range_succ,List.map_append,show 6-x=(6-(x+1))+1 by omega,List.replicate_succ];simp[Nat.add_comm]
theorem sigTo_lt {d:DfaV}{p:List Nat}{q x N:Nat}(h:∀c∈p,c<N)(hN:0<N):∀y∈lH d p q x,y<N:=by
 intro y hy;rcases List.mem_append.1 hy with hy|hy
 ·rcases List.mem_cons.1 hy with rfl|hy
  ·exact qA h hN
  ·obtain⟨a,_,rfl⟩:=List.mem_map.1 hy
   exact qA h hN
 ·rw[List.mem_replicate]at hy;omega
theorem sigTo_iff {d:DfaV}{p:List Nat}{q q' k:Nat}:lH d p q k=lH d p q' k↔p.getD q 0=p.getD q' 0/\∀a,a<k->p.getD (nx d q a) 0=p.getD (nx d q' a) 0:=by
 unfold lH;constructor
 ·intro h
  have h:=List.append_cancel_right h;rw[List.cons.injEq,List.map_inj_left]at h;exact⟨h.1,fun a ha=>h.2 a (List.mem_range.2 ha)⟩
 ·rintro ⟨h1,h2⟩
  rw[h1,List.map_congr_left (fun a ha=>h2 a (List.mem_range.1 ha))]
def sigL (d:DfaV)(k:Nat)(p:List Nat):List (List Nat):=(List.range p.length).map fun q=>lH d p q k
theorem lY (d:DfaV)(k:Nat)(p:List Nat):(sigL d k p).length=p.length:=by simp[sigL]
theorem aM {d:DfaV}{k:Nat}{p:List Nat}{q:Nat}(h:q<p.length):(sigL d k p)[q]'(by rw[lY];exact h)=lH d p q k:=by simp[sigL]
theorem sig_refTo {d:DfaV}{n k:Nat}(hd:VD d n k){p:List Nat}(hp:p.length=n)(hn:Norm p):numb (sigL d k p)=uR d p k:=by
 have h0:∀c∈p,c<n:=by have:=mB hn;rwa [hp]at this
 have hl:=lY d k p;refine aW (eG _) (mS hn k) ⟨by rw[yV,hl,xD],fun i j hi hj=>?_⟩;rw[yV,hl]at hi hj;rw[oU (by omega) (by omega),aM hi,aM hj,sigTo_iff,qD hd hp h0 (by omega) (by omega) k (Nat.le_refl _)]
theorem numb_stepG {α:Type}[DecidableEq α]{l:List α}{k:Nat}(hk:k<l.length):(numb l).getD k 0=if l[k]∈yD (l.take k) then (yD (l.take k)).idxOf l[k] else (yD (l.take k)).length:=by
 rw[zG (by rw[yV];exact hk),qY hk,<-qBU hk,List.take_succ_eq_append_getElem hk,tM];by_cases h:l[k]∈yD (l.take k)
 ·rw[uX h,if_pos h]
 ·rw[vE h,if_neg h,List.idxOf_append,if_neg h];simp
theorem eR {α:Type}[DecidableEq α]{l:List α}{k:Nat}(hk:k<l.length):yD (l.take (k+1))=xU (yD (l.take k)) l[k]:=by
 rw[List.take_succ_eq_append_getElem hk,tM]
theorem cls_numb {α:Type}[DecidableEq α](l:List α):cls (numb l)=(yD l).length:=by
 unfold cls numb;rw[firsts_map_inj _ _ (fun x hx y _ h=>qCK (wO.2 hx) h),List.length_map]
def vP (d:DfaV)(q:Nat):List Nat:=(List.range q).map fun i=>if d.final.getD i false=d.final.getD 0 false then 0 else 1
def fstC (d:DfaV)(q:Nat):Nat:=if (vP d q).all (· == 0) then 1 else 2
def fstF (d:DfaV)(n q:Nat):List Nat:=vP d q++List.replicate (n-q) 0
theorem kF {d:DfaV}{n q:Nat}(h:q<=n):(fstF d n q).length=n:=by simp[fstF,vP];omega
theorem fstF_same {d:DfaV}{n q:Nat}(h:q<n)(e:d.final.getD q false=d.final.getD 0 false):fstF d n (q+1)=fstF d n q/\fstC d (q+1)=fstC d q:=by
 have h1:vP d (q+1)=vP d q++[0]:=by
  simp only[vP,List.range_succ,List.map_append,List.map_cons,List.map_nil,if_pos e]
 constructor
 ·unfold fstF
  rw[h1,show n-q=(n-(q+1))+1 by omega,List.replicate_succ,List.append_assoc];rfl
 ·unfold fstC
  rw[h1,List.all_append];simp
theorem fstF_diff {d:DfaV}{n q:Nat}(h:q<n)(e:d.final.getD q false≠d.final.getD 0 false):fstF d n (q+1)=(fstF d n q).set q 1/\fstC d (q+1)=2:=by
 have h1:vP d (q+1)=vP d q++[1]:=by
  simp only[vP,List.range_succ,List.map_append,List.map_cons,List.map_nil,if_neg e]
 have hl:(vP d q).length=q:=by simp[vP]
 constructor
 ·unfold fstF
  rw[h1,List.set_append_right _ _ (by omega),hl,Nat.sub_self,show n-q=(n-(q+1))+1 by omega,List.replicate_succ,List.set_cons_zero,List.append_assoc];rfl
 ·unfold fstC
  rw[h1,List.all_append];simp
theorem fst_part0 {d:DfaV}{n k:Nat}(hd:VD d n k):vP d n=jA d/\fstC d n=cls (jA d):=by
 have hl:(vP d n).length=n:=by simp[vP]
 have hg:∀i,i<n->(vP d n).getD i 0=if d.final.getD i false=d.final.getD 0 false then 0 else 1:=fun i hi=>by
  rw[zG (by omega)];simp[vP]
 have h8:∀i j,i<n->j<n->((vP d n).getD i 0=(vP d n).getD j 0↔(jA d).getD i 0=(jA d).getD j 0):=fun i j hi hj=>by
  rw[hg i hi,hg j hj,fY hd hi hj];cases d.final.getD i false<;>cases d.final.getD j false<;>cases d.final.getD 0 false<;>simp
 have H4:=nZ d;have h9:=hd.n1
 have h6:Norm (vP d n):=by
  unfold Norm;have h0:(vP d n).getD 0 0=0:=by rw[hg 0 (by omega),if_pos rfl]
  refine List.ext_getElem (yV _) fun i h1 h2=>?_;have hi:i<n:=by omega
  rw[qY h2]
  have key:∀m,0<m->m<=n->yD ((vP d n).take m)=if (∃j,j<m/\(vP d n).getD j 0=1) then [0,1] else [0]:=by
   intro m hm H7
   induction m with
   | zero=>omega
   | succ m ih =>
    have H0:m<(vP d n).length:=(by omega);rw[eR H0,<-zG (d:=0) H0];have h7:(vP d n).getD m 0=0\/(vP d n).getD m 0=1:=by rw[hg m (by omega)];split<;>simp
    by_cases hm0:m=0
    ·subst hm0
     rw[h0]
     have:¬∃j,j<0+1/\(vP d n).getD j 0=1:=by
      rintro ⟨j,hj,e⟩;have:j=0:=by omega
      subst this;omega
     rw[if_neg this];rfl
    ·rw[ih (by omega) (by omega)]
     by_cases hex:∃j,j<m/\(vP d n).getD j 0=1
     ·have h5:∃j,j<m+1/\(vP d n).getD j 0=1:=hex.imp fun j h=>⟨by omega,h.2⟩
      rw[if_pos hex,if_pos h5];rcases h7 with e|e<;>rw[e]<;>rfl
     ·rw[if_neg hex]
      rcases h7 with e|e
      ·have h5:¬∃j,j<m+1/\(vP d n).getD j 0=1:=by
        rintro ⟨j,hj,e2⟩;rcases Nat.lt_succ_iff_lt_or_eq.1 hj with hj|rfl
        ·exact hex ⟨j,hj,e2⟩
        ·omega
       rw[if_neg h5,e];rfl
      ·rw[if_pos ⟨m,by omega,e⟩,e];rfl
  have hk:=key n (by omega) (Nat.le_refl _);rw[show (vP d n).take n=vP d n by rw[List.take_of_length_le (by omega)]]at hk;rw[hk];have h7:(vP d n).getD i 0=0\/(vP d n).getD i 0=1:=by rw[hg i hi];split<;>simp
  rw[zG h2]at h7;rcases h7 with e|e
  ·rw[e];split<;>rfl
  ·rw[e,if_pos ⟨i,hi,by rw[zG h2,e]⟩];rfl
 have H1:vP d n=jA d:=aW h6 (bL d) ⟨by rw[hl,H4,hd.hn],fun i j hi hj=>h8 i j (by omega) (by omega)⟩;refine⟨H1,?_⟩;rw[<-H1];unfold fstC;by_cases ha:(vP d n).all (· == 0)=true
 ·rw[if_pos ha]
  have:vP d n=List.replicate n 0:=by
   refine List.eq_replicate_iff.2 ⟨hl,fun x hx=>?_⟩;simpa using List.all_eq_true.1 ha x hx
  rw[this]
  have h1:(yD (List.replicate n 0)) ⊆ [0]:=fun x hx=>by
   have:=wO.1 hx;rw[List.mem_replicate]at this;simp[this.2]
  have h2:=(rH (List.replicate n 0)).length_le_of_subset h1;have h3:=qAN (p:=List.replicate n 0) (by simp;omega);unfold cls at h3⊢;simp at h2;omega
 ·rw[if_neg ha]
  have h1:yD (vP d n) ⊆ [0,1]:=fun x hx=>by
   obtain⟨i,_,rfl⟩:=List.mem_map.1 (wO.1 hx)
   split<;>simp
  have h2:=(rH (vP d n)).length_le_of_subset h1
  have h9:∃x∈vP d n,x≠0:=by
   apply Classical.byContradiction;intro H5
   exact ha (List.all_eq_true.2 fun x hx=>by
    have:x=0:=Classical.byContradiction fun h=>H5 ⟨x,hx,h⟩
    simp[this])
  obtain⟨x,hx,H3⟩:=h9
  have H2:x=1:=by
   obtain⟨i,_,rfl⟩:=List.mem_map.1 hx
   split at H3
   ·omega
   ·rename_i h;rw[if_neg h]
  have H6:0∈vP d n:=by
   rw[vP,List.mem_map];exact⟨0,List.mem_range.2 (by omega),if_pos rfl⟩
  have h3:[0,1] ⊆ yD (vP d n):=fun y hy=>by
   simp only[List.mem_cons,List.not_mem_nil,or_false]at hy;rcases hy with rfl|rfl
   ·exact wO.2 H6
   ·exact wO.2 (H2 ▸ hx)
  have h4:=(show [0,1].Nodup by decide).length_le_of_subset h3;unfold cls;simp at h2 h4;omega
theorem clsIt_sig {d:DfaV}{n k:Nat}(hd:VD d n k)(m:Nat):numb (sigL d k (yX d k m))=yX d k (m+1):=sig_refTo hd (by rw[yZ,hd.hn]) (uW d k m)
theorem clsIt_stop {d:DfaV}{n k:Nat}(hd:VD d n k){m:Nat}(hm:m<=n)(h:cls (yX d k (m+1))=cls (yX d k m)):yX d k (m+1)=yW d k:=by
 have e:uR d (yX d k m) k=yX d k m:=Classical.byContradiction fun hne=>by
  have:=oP hd (by rw[yZ,hd.hn]) (uW d k m) hne;rw[yX]at h;omega
 rw[pO (by rw[hd.hn];exact hm) e,yX,e]
theorem clsIt_more {d:DfaV}{n k:Nat}(hd:VD d n k){m:Nat}(h:cls (yX d k (m+1))≠cls (yX d k m)):cls (yX d k m)<cls (yX d k (m+1)):=by
 have e:uR d (yX d k m) k≠yX d k m:=fun e=>h (by rw[yX,e]);exact oP hd (by rw[yZ,hd.hn]) (uW d k m) e
theorem cls_le_n {d:DfaV}{n k:Nat}(hd:VD d n k)(m:Nat):cls (yX d k m)<=n:=by
 have:=gC (yX d k m)
 rwa [yZ,hd.hn]at this
open Go.Maps Go.RowKit
theorem fM:Try.prog.underlying 176=some (.array 7 3):=by kernel_rfl
theorem sigmap_under:Try.prog.underlying 174=some (.map 176 3):=by kernel_rfl
theorem sig_keyed:Keyed Try.prog 176:=Keyed.of_law (deep_law_laid (m:=5) (by kernel_rfl) (by decide) (of_decide_eq_true (by kernel_rfl)) (by kernel_rfl) (by kernel_rfl))
theorem nat_wf {x:Nat}(hx:x<4611686018427387904):(Lit.int .i64 (x:Int)).wf=true:=qBZ (x:=(x:Int)) ⟨by omega,by omega⟩
theorem tK (d:Nat){x:Nat}(hx:x<4611686018427387904):Try.prog.keyLits (d+1) 3 [.int .i64 (x:Int)]=some [.int .i64 (x:Int)]:=by
 unfold Program.keyLits;rw[sG];simp[nat_wf hx]
def sigV (L:List Nat):Value:=.agg #[.int .i64 ((L.getD 0 0:Nat):Int),.int .i64 ((L.getD 1 0:Nat):Int),.int .i64 ((L.getD 2 0:Nat):Int),.int .i64 ((L.getD 3 0:Nat):Int),.int .i64 ((L.getD 4 0:Nat):Int),.int .i64 ((L.getD 5 0:Nat):Int),.int .i64 ((L.getD 6 0:Nat):Int)]
def qIL (L:List Nat):Prop:=L.length=7/\∀x∈L,x<4611686018427387904
theorem qBG:Try.prog.cellsOf 176=7:=by kernel_rfl
theorem eO:Try.prog.cellsOf 3=1:=by kernel_rfl
theorem sig_some {x0 x1 x2 x3 x4 x5 x6:Nat}(h0:x0<4611686018427387904)(h1:x1<4611686018427387904)(h2:x2<4611686018427387904)(h3:x3<4611686018427387904)(h4:x4<4611686018427387904)(h5:x5<4611686018427387904)(h6:x6<4611686018427387904):(keyOf Try.prog 176 (.agg #[.int .i64 (x0:Int),.int .i64 (x1:Int),.int .i64 (x2:Int),.int .i64 (x3:Int),.int .i64 (x4:Int),.int .i64 (x5:Int),.int .i64 (x6:Int)])).isSome=true:=by
 have hk:Try.prog.keyType 176=true:=by kernel_rfl
 unfold keyOf;rw[fM];simp only[hk,Bool.true_and]
 have hf:(Value.agg #[.int .i64 (x0:Int),.int .i64 (x1:Int),.int .i64 (x2:Int),.int .i64 (x3:Int),.int .i64 (x4:Int),.int .i64 (x5:Int),.int .i64 (x6:Int)]).formed Try.prog 176=true:=by
  simp[Value.formed,fM,qBG]
 rw[if_pos hf]
 have hl:Try.prog.keyLits (Try.prog.types.size+1) 176 (Value.agg #[.int .i64 (x0:Int),.int .i64 (x1:Int),.int .i64 (x2:Int),.int .i64 (x3:Int),.int .i64 (x4:Int),.int .i64 (x5:Int),.int .i64 (x6:Int)]).cells.toList=some [.int .i64 (x0:Int),.int .i64 (x1:Int),.int .i64 (x2:Int),.int .i64 (x3:Int),.int .i64 (x4:Int),.int .i64 (x5:Int),.int .i64 (x6:Int)]:=by
  have hz:Try.prog.types.size=(Try.prog.types.size-1)+1:=by kernel_rfl
  rw[hz];unfold Program.keyLits;rw[fM];simp[Value.cells,qBG,eO,List.range,List.range.loop,tK _ h0,tK _ h1,tK _ h2,tK _ h3,tK _ h4,tK _ h5,tK _ h6]
 rw[hl];rfl
theorem aL:KeyK 174 176 qIL sigV where
 key:=sig_keyed
 und:=sigmap_under
 of:=fun L h=>by
  have hg:∀i,L.getD i 0<4611686018427387904:=fun i=>by
   by_cases hi:i<L.length
   ·rw[zG hi];exact h.2 _ (List.getElem_mem hi)
   ·rw[List.getD,List.getElem?_eq_none (by omega)];simp
  exact sig_some (hg 0) (hg 1) (hg 2) (hg 3) (hg 4) (hg 5) (hg 6)
 inj:=fun L M hL hM e=>by
  simp only[sigV,Value.agg.injEq]at e
  have e:=congrArg Array.toList e
  simp only[List.cons.injEq,Value.int.injEq,true_and,and_true]at e
  refine List.ext_getElem (by rw[hL.1,hM.1]) fun i h1 h2=>?_
  rw[<-zG (d:=0) h1,<-zG (d:=0) h2]
  have:i<7:=by rw[<-hL.1];exact h1
  match i,this with
  | 0,_=>omega
  | 1,_=>omega
  | 2,_=>omega
  | 3,_=>omega
  | 4,_=>omega
  | 5,_=>omega
  | 6,_=>omega
def numF {α:Type}[DecidableEq α](l:List α)(L:α):Option Nat:=if L∈l then some (l.idxOf L) else none
theorem numF_new {α:Type}[DecidableEq α]{l:List α}{L:α}(h:L ∉ l):(fun q=>if q=L then some l.length else numF l q)=numF (l++[L]):=by
 funext q;unfold numF;by_cases e:q=L
 ·subst e
  rw[if_pos rfl,if_pos (by simp),List.idxOf_append,if_neg h];simp
 ·rw[if_neg e]
  by_cases hq:q∈l
  ·rw[if_pos hq,if_pos (by simp[hq]),List.idxOf_append,if_pos hq]
  ·rw[if_neg hq,if_neg (by simp[hq,e])]
theorem numF_old {α:Type}[DecidableEq α]{l:List α}{L:α}(h:L∈l):numF l L=some (if L∈l then l.idxOf L else l.length):=by rw[numF,if_pos h,if_pos h]
theorem numF_no {α:Type}[DecidableEq α]{l:List α}{L:α}(h:L ∉ l):numF l L=none:=if_neg h
theorem numb_old {α:Type}[DecidableEq α]{l:List α}{L:α}{v:Nat}(hv:v=if L∈l then l.idxOf L else l.length)(h:L∈l):numF l L=some v:=by rw[hv,numF_old h]
theorem numb_new {α:Type}[DecidableEq α]{l:List α}{L:α}{v:Nat}(hv:v=if L∈l then l.idxOf L else l.length)(h:L ∉ l):v=l.length:=by rw[hv,if_neg h]
theorem seven {L:List Nat}(h:L.length=7):∃y0 y1 y2 y3 y4 y5 y6,L=[y0,y1,y2,y3,y4,y5,y6]:=by
 match L,h with
 | [y0,y1,y2,y3,y4,y5,y6],_=>exact⟨y0,y1,y2,y3,y4,y5,y6,rfl⟩
theorem sig7_cells {w:World}{g e y0 y1 y2 y3 y4 y5 y6:Nat}(h:Arr w g e (nats [y0,y1,y2,y3,y4,y5,y6])):w.cell? ⟨g,0,none⟩=some (.int .i64 (y0:Int))/\w.cell? ⟨g,1,none⟩=some (.int .i64 (y1:Int))/\w.cell? ⟨g,2,none⟩=some (.int .i64 (y2:Int))/\w.cell? ⟨g,3,none⟩=some (.int .i64 (y3:Int))/\w.cell? ⟨g,4,none⟩=some (.int .i64 (y4:Int))/\w.cell? ⟨g,5,none⟩=some (.int .i64 (y5:Int))/\w.cell? ⟨g,6,none⟩=some (.int .i64 (y6:Int)) :=
 ⟨h.cell 0 (by simp[nats]),h.cell 1 (by simp[nats]),h.cell 2 (by simp[nats]),h.cell 3 (by simp[nats]),h.cell 4 (by simp[nats]),h.cell 5 (by simp[nats]),h.cell 6 (by simp[nats])⟩
theorem numF_nil:(fun _=>none)=numF ([]:List (List Nat)):=by funext L;simp[numF]
theorem pclasses_any (B:Nat)(w:World)(v:Value)(d:DfaV)(n k:Nat)(hB:B<=w.heap.size)(h:tE B w v d)(hd:VD d n k)(h5:n<=512):Calls Try.prog 111 #[v] w (qJN w (yW d k)):=by
 have r7:=@run_makeMap Try.prog;have b6:=h;obtain⟨fb,fo,fc,b,off,cap,RB,RO,RC,rfl,c4⟩:=h.at hd;have hn:=hd.hn;have o0:=hd.n1;have l2:=hd.k6;have s0:=hd.k1;have s6:=c4.fcap.1;have d4:=c4.fcap.2;have s9:=c4.cap.1;have d5:=c4.cap.2;have o2:fc<=9223372036854775807:=by unfold maxLen at d4;omega
 have o1:cap<=9223372036854775807:=by unfold maxLen at d5;omega
 obtain⟨S,hS⟩:∃S,S=st0 d:=⟨_,rfl⟩;have j8:dAgg k (st0 d) fb fo fc b off cap n=.agg #[.int .i64 (k:Int),.int .i64 (S:Int),.slice (some ⟨fb,fo,none⟩) n fc,.slice (some ⟨b,off,none⟩) n cap]:=by rw[hS];rfl
 rw[j8]at b6⊢;obtain⟨wA,j0⟩:∃wA,wA=w.alloc (.cells #[.int .i64 (k:Int),.int .i64 (S:Int),.slice (some ⟨fb,fo,none⟩) n fc,.slice (some ⟨b,off,none⟩) n cap] 42):=⟨_,rfl⟩;have f6:=Ga w (.cells #[.int .i64 (k:Int),.int .i64 (S:Int),.slice (some ⟨fb,fo,none⟩) n fc,.slice (some ⟨b,off,none⟩) n cap] 42) none;have b9:=heap_alloc_new w (.cells #[.int .i64 (k:Int),.int .i64 (S:Int),.slice (some ⟨fb,fo,none⟩) n fc,.slice (some ⟨b,off,none⟩) n cap] 42);rw[<-j0]at b9 f6;obtain⟨P,hP⟩:∃P,P=w.heap.size:=⟨_,rfl⟩;rw[<-hP]at b9;obtain⟨c0,c1,c2,c3⟩:=zF b9;have t1:=zK b9;have p0:B<=wA.heap.size:=by omega
 have p7:=Kh hP;have t2:w.heap.size<=P:=by omega
 have m9:=Kh b9;have q5:=Kh f6;have p3:=Kh j0;have c8:Hid (∀W:World,w.grownBy W none->DAt B W d n k fb fo fc b off cap RB RO RC):=Kh (fun W hg=>c4.kept hg (by simp));have HN:=Kh hn;have HD:=Kh hd;have l7:=Kh (rR B wA _ d p0 (b6.kept f6 (by simp)));have p4:=Kh (gZ hd h5);clear b9 f6 j0 c4 hn hd h b6 j8 d4 d5 hS hP;go_enter Try.func111,Try.ntmps111;go_upto_region 1 with fail;rw[<-p3.out,<-p7.out];go_wp2_with fail;refine l7.out.mono ?_;rintro e w1 ⟨rfl,f9⟩;rw[p4.out];have r3:=f9.size;have q6:=Kh (zA q5.out f9 (by simp));have g3:=Kh (zB m9.out f9 (by simp));obtain⟨d0,d1,d2,d3⟩:=zF g3.out;have t9:B<=w.heap.size:=hB;clear f9 l7 c0 c1 c2 c3 m9;go_wp2_with (first|(at_make;refine kC rfl _ _ _ rfl yP rfl .i64 .i64 _ _ n rfl rfl rfl rfl ?b1 ?b2 ?_;(case b1=>omega);(case b2=>(unfold maxLen;omega));intro w2 h0 f8 i5;(obtain⟨e0,e1,e2,e3⟩:=zF (zB g3.out f8 (by simp))))|fail);obtain⟨G,hG⟩:∃G,G=w1.heap.size:=⟨_,rfl⟩;rw[<-hG]at h0 i5⊢;have t6:P<G:=by omega
 have o9:w.heap.size<=G:=by omega
 have n3:Hid (Arr w2 G 3 (nats (fstF d n 0))):=Kh (by
  rw[show fstF d n 0=List.replicate n 0 by simp[fstF,vP],xI];exact h0)
 have m3:=Kh (zA q6.out f8 (by simp));have m8:=Kh (zB g3.out f8 (by simp));clear h0 f8 hG g3 d0 d1 d2 d3 e0 e1 e2 e3
 go_loopg [4,5,6,26] n (fun gh a4 a5 a6 i wr=>∃q:Nat,gh+q=n/\i=.int .i64 q/\a4=.int .i64 (fstC d q:Nat)/\Arr wr G 3 (nats (fstF d n q))/\wr.heap[P]?=some (.cells #[.int .i64 (k:Int),.int .i64 (S:Int),.slice (some ⟨fb,fo,none⟩) n fc,.slice (some ⟨b,off,none⟩) n cap] 42 (0,0))/\w.grownBy wr none)
 case atStart=>exact⟨0,rfl,rfl,rfl,n3.out,m8.out,m3.out⟩
 case round =>
  clear n3 m8 m3;obtain⟨q,a1,rfl,rfl,h0,h6,h3⟩:=hrel;have h7:=Kh a1;have HA:=Kh h0;have H5:=Kh h6;have H4:=Kh h3;obtain⟨d0,d1,d2,d3⟩:=zF h6;clear a1;by_cases hq:q<n
  ·have n9:(q:Int)<n:=by omega
   have cf0:=(c8.out _ h3).fin (q:=0) (by omega);have cfq:=(c8.out _ h3).fin hq;have s5:=h0.frozen q;have t0:=h0.nat q (by rw[kF (by omega)];exact hq);have i9:(nats (fstF d n q)).length=n:=by rw[zW,kF (by omega)]
   rw[Nat.add_zero]at cf0;by_cases e:d.final.getD q false=d.final.getD 0 false
   ·obtain⟨h1,h2⟩:=fstF_same hq e
    have H1:=Kh h1;have H2:=Kh h2;rw[e]at cfq
    generalize d.final.getD 0 false=b0 at cf0 cfq
    have e1:(b0 != b0)=false:=by simp
    clear h1 h2 e h0 h6;go_wp2;go_roundg (n-(q+1))
    case measure=>have:=h7.out;omega
    case rel=>exact⟨q+1,by have:=h7.out;omega,by go_num,by rw[H2.out],by rw[H1.out];exact HA.out,H5.out,H4.out⟩
   ·obtain⟨h1,h2⟩:=fstF_diff hq e
    have H1:=Kh h1;have H2:=Kh h2;have e1:(d.final.getD q false == d.final.getD 0 false)=false:=by rw[beq_eq_false_iff_ne];exact e
    generalize d.final.getD 0 false=b0 at cf0 e1
    generalize d.final.getD q false=b1 at cfq e1
    clear h1 h2 e h0 h6;go_wp2;go_roundg (n-(q+1))
    case measure=>have:=h7.out;omega
    case rel=>exact⟨q+1,by have:=h7.out;omega,by go_num,by rw[H2.out];rfl,by rw[H1.out];exact HA.out.nat_set q (by rw[kF (by omega)];exact hq) 1,zB H5.out (zC wr ⟨G,q,none⟩ _) (fun e=>by have e:G=P:=Oj e;omega),zA H4.out (zC wr ⟨G,q,none⟩ _) (fun k e=>by have e:G=k:=Oj e;omega)⟩
  ·have f3:q=n:=by have:=h7.out;omega
   obtain⟨l1,l4⟩:=fst_part0 HD.out
   have n4:Hid (Arr wr G 3 (nats (yX d k 0))):=Kh (by
    rw[show yX d k 0=fstF d n q by rw[f3,fstF,l1];simp[yX]];exact h0)
   have r0:Hid (fstC d q=cls (yX d k 0)):=Kh (by rw[f3,l4];rfl);rw[r0.out];have H8:=Kh f3;clear f3 l1 l4 HA h7 h0 h6 h3;obtain⟨w3,rfl⟩:∃w3:World,w3=wr:=⟨_,rfl⟩;go_wp2_with fail
   go_loopg [3,4,7,8,9,10,11,12,13,14,15] (n-cls (yX d k 0)) (fun gh a3 a4 a7 a8 a9 a10 a11 a12 a13 a14 a15 wr=>∃(m g:Nat),gh=n-cls (yX d k m)/\m<=cls (yX d k m)/\a3=.slice (some ⟨g,0,none⟩) n n/\a4=.int .i64 (cls (yX d k m):Nat)/\Arr wr g 3 (nats (yX d k m))/\w.heap.size<=g/\g≠P/\wr.heap[P]?=some (.cells #[.int .i64 (k:Int),.int .i64 (S:Int),.slice (some ⟨fb,fo,none⟩) n fc,.slice (some ⟨b,off,none⟩) n cap] 42 (0,0))/\w.grownBy wr none)
   case atStart=>exact⟨0,G,rfl,by omega,rfl,rfl,n4.out,o9,by omega,H5.out,H4.out⟩
   case round =>
    clear n4 H5 H4;obtain⟨m,g,rfl,o3,rfl,rfl,h0,s1,s3,h6,h3⟩:=hrel;obtain⟨p,hp⟩:∃p,p=yX d k m:=⟨_,rfl⟩;have l0:p.length=n:=by rw[hp,yZ,HN.out]
    have o7:=cls_le_n HD.out m;have c9:∀c∈p,c<n:=(by have:=mB (uW d k m);rw[<-hp,l0]at this;exact this);have j2:Hid (numb (sigL d k p)=yX d k (m+1)):=Kh (by rw[hp];exact clsIt_sig HD.out m);have d8:Hid (cls (yX d k (m+1))=cls (yX d k m)->yX d k (m+1)=yW d k):=Kh (clsIt_stop HD.out (by omega));have e7:Hid (cls (yX d k (m+1))≠cls (yX d k m)->cls (yX d k m)<cls (yX d k (m+1))):=Kh (clsIt_more HD.out);rw[<-hp]at h0;obtain⟨C,hC⟩:∃C,C=cls (yX d k m):=⟨_,rfl⟩;rw[<-hC]at d8 e7 o3 o7⊢;have x2:=Kh hp;have j3:=Kh c9;have q9:=Kh hC;have HA:=Kh h0;have H5:=Kh h6;have H4:=Kh h3;have k7:(sigL d k p).length=n:=by rw[lY,l0]
    obtain⟨wm,f1⟩:∃wm,wm=wr.alloc (.map #[] 0):=⟨_,rfl⟩;obtain⟨mb,i3⟩:∃mb,mb=wr.heap.size:=⟨_,rfl⟩;have i8:wr.grownBy wm none:=by rw[f1];exact Ga wr _ none
    have e6:Hid (MapK 176 qIL sigV wm mb 0 0 (numF [])):=Kh (by
     rw[f1,i3,<-numF_nil];exact MapK.made _ _ _ _)
    have t3:=zK h6;have s2:=h0.lt;have p1:=Kh f1;have c6:=Kh i8;have q0:=Kh i3;have r2:=i8.size;have r6:=e6.out.lt;have t4:P<mb:=(by omega);have o4:g<mb:=(by omega);have n7:w.heap.size<=mb:=by have:=h3.size;omega
    clear hp c9 hC h0 h6 h3 i8 f1 i3;obtain⟨wo,rfl⟩:∃wo:World,wo=wr:=⟨_,rfl⟩;go_upto_region 11 with fail;rw[<-p1.out,<-q0.out];obtain⟨d0,d1,d2,d3⟩:=zF (zB H5.out c6.out (by simp));go_wp2_with (first|(at_make;refine kC rfl _ _ _ rfl yP rfl .i64 .i64 _ _ n rfl rfl rfl rfl ?b1 ?b2 ?_;(case b1=>omega);(case b2=>(unfold maxLen;omega));intro w4 h0 b8 i4;(obtain⟨e0,e1,e2,e3⟩:=zF (zB (zB H5.out c6.out (by simp)) b8 (by simp))))|fail);obtain⟨F,hF⟩:∃F,F=wm.heap.size:=⟨_,rfl⟩;rw[<-hF]at h0 i4⊢;obtain⟨sg,g5⟩:∃sg,sg=sigL d k p:=⟨_,rfl⟩;rw[<-g5]at j2 k7;have s4:g<F:=(by omega);have t5:P<F:=(by omega);have r8:mb<F:=(by omega);have l6:w.heap.size<=F:=by omega
    have i2:(numb sg).length=n:=by rw[yV,k7]
    have p5:=Kh g5;have g0:=Kh i2
    have m4:Hid (Arr w4 F 3 (nats (uL (numb sg) 0))):=Kh (by
     rw[oZ,i2,xI];exact h0)
    have l8:=Kh (e6.out.kept b8 (by simp));have n2:=Kh ((HA.out.kept c6.out (by simp)).kept b8 (by simp));have m7:=Kh (zB (zB H5.out c6.out (by simp)) b8 (by simp));have m2:=Kh (zA (zA H4.out c6.out (by simp)) b8 (by simp));clear g5 i2 h0 b8 hF e6 HA H5 H4 c6 d0 d1 d2 d3 e0 e1 e2 e3
    go_loopg [9,10,11,12,13,14,15,48] n (fun gh a9 a10 a11 a12 a13 a14 a15 i wr=>∃(q c:Nat),gh+q=n/\i=.int .i64 q/\Arr wr F 3 (nats (uL (numb sg) q))/\MapK 176 qIL sigV wr mb q c (numF (yD (sg.take q)))/\c=(yD (sg.take q)).length/\Arr wr g 3 (nats p)/\wr.heap[P]?=some (.cells #[.int .i64 (k:Int),.int .i64 (S:Int),.slice (some ⟨fb,fo,none⟩) n fc,.slice (some ⟨b,off,none⟩) n cap] 42 (0,0))/\w.grownBy wr none)
    case atStart=>exact⟨0,0,rfl,rfl,m4.out,by simpa [yD] using l8.out,by simp[yD],n2.out,m7.out,m2.out⟩
    case round =>
     clear m4 l8 n2 m7 m2;obtain⟨q,c,a1,rfl,h0,H0,hc,d7,h6,h3⟩:=hrel;have h7:=Kh a1;have HF:=Kh h0;have e6:=Kh H0;have HA:=Kh d7;have H5:=Kh h6;have H4:=Kh h3;have e9:=Kh hc;obtain⟨d0,d1,d2,d3⟩:=zF h6;have r1:=h3.size;have t7:=h0.lt;have s8:c<=q:=by rw[hc];have:=tL (sg.take q);rw[List.length_take]at this;omega
     clear a1;by_cases hq:q<n
     ·have n9:(q:Int)<n:=by omega
      have hh:=(c8.out _ h3).hd q hq;have g9:=(c8.out _ h3).rcap q hq;have n8:=(c8.out _ h3).rlt q hq;have g8:=g9.1;have g7:RC q<=9223372036854775807:=by have:=g9.2;unfold maxLen at this;omega
      have d6:=d7.nat q (by omega);obtain⟨rb,i0⟩:∃rb,rb=RB q:=⟨_,rfl⟩;obtain⟨ro,g6⟩:∃ro,ro=RO q:=⟨_,rfl⟩;obtain⟨rc,a2⟩:∃rc,rc=RC q:=⟨_,rfl⟩;rw[<-i0,<-g6,<-a2]at hh;rw[<-a2]at g8 g7;have q8:Hid (∀W:World,w.grownBy W none->∀a,a<k->W.cell? ⟨rb,ro+a,none⟩=some (.int .i64 ((nx d q a:Nat):Int))):=Kh (fun W hg a ha=>by rw[i0,g6];exact(c8.out W hg).el q a hq ha);obtain⟨pq,f4⟩:∃pq,pq=p.getD q 0:=⟨_,rfl⟩;rw[<-f4]at d6;have x1:=Kh f4;obtain⟨wk,f2⟩:∃wk,wk=wr.alloc (.cells #[.int .i64 (pq:Int),.int .i64 0,.int .i64 0,.int .i64 0,.int .i64 0,.int .i64 0,.int .i64 0] 176):=⟨_,rfl⟩;obtain⟨kb,i7⟩:∃kb,kb=wr.heap.size:=⟨_,rfl⟩;have b7:wr.grownBy wk none:=by rw[f2];exact Ga wr _ none
      have m0:Hid (Arr wk kb 176 (nats (lH d p q 0))):=Kh (by
       rw[f2,i7];have:=Arr.new wr 176 #[.int .i64 (pq:Int),.int .i64 0,.int .i64 0,.int .i64 0,.int .i64 0,.int .i64 0,.int .i64 0];rw[show nats (lH d p q 0)=#[Value.int .i64 (pq:Int),.int .i64 0,.int .i64 0,.int .i64 0,.int .i64 0,.int .i64 0,.int .i64 0].toList by rw[lH,<-f4];rfl]
       exact this)
      have p2:=Kh f2;have q2:=Kh i7;have q3:=Kh (zA h3 b7 (by simp));have m5:=Kh (h0.kept b7 (by simp));have l9:=Kh (H0.kept b7 (by simp));have j7:=Kh (d7.kept b7 (by simp));have f0:=Kh (zB h6 b7 (by simp));have t8:F<kb:=(by omega);clear h0 H0 d7 h6 h3 i0 g6 a2 f4 f2 i7 b7 g9 n8 hc;go_upto_region 16 with fail;rw[<-p2.out,<-q2.out];clear d0 d1 d2 d3 d6 hh HF e6 HA H5 H4;have r5:g<kb:=(by omega);go_wp2_with fail
      go_loopg [12,13,60] k (fun gh a12 a13 i wr=>∃x:Nat,gh+x=k/\i=.int .i64 x/\Arr wr kb 176 (nats (lH d p q x))/\wk.grownBy wr (some kb))
      case atStart=>exact⟨0,rfl,rfl,m0.out,zH _ _⟩
      case round =>
       clear m0;obtain⟨x,a1,rfl,h0,h3⟩:=hrel;have H8:=Kh a1;have HK:=Kh h0;have H4:=Kh h3;have H6:=zA q3.out h3 (fun k e=>by have e:kb=k:=Oj e;omega);have m1:=Kh H6;clear a1;by_cases hx:x<k
       ·have r4:(x:Int)<k:=by omega
        have cel:=q8.out wr H6 x hx;have n6:=mA HD.out hq hx;obtain⟨y,hy⟩:∃y,y=nx d q x:=⟨_,rfl⟩;rw[<-hy]at cel n6;have n5:(y:Int)<n:=(by omega);have cy:=(j7.out.kept h3 (fun e=>by have e:kb=g:=Oj e;omega)).nat y (by omega);have h4:=sigTo_set (d:=d) (p:=p) (q:=q) (x:=x) (by omega);rw[<-hy]at h4;have H3:=Kh h4;have k8:=nS (d:=d) (p:=p) (q:=q) (x:=x) (by omega);have ck:=h0.nat (1+x) (by omega);have fk:=h0.frozen (1+x);have p6:=Kh k8;obtain⟨z,hz⟩:∃z,z=p.getD y 0:=⟨_,rfl⟩;rw[<-hz]at cy;have HZ:=Kh hz;clear h4 k8 hz hy h0 h3 H6;go_wp2;go_roundg (k-(x+1))
        case measure=>have:=H8.out;omega
        case rel=>exact⟨x+1,by have:=H8.out;omega,by go_num,by rw[<-H3.out,<-HZ.out];exact HK.out.nat_set (1+x) (by rw[p6.out];omega) z,zD H4.out (zC wr ⟨kb,1+x,none⟩ _)⟩
       ·have g4:x=k:=by have:=H8.out;omega
        have x0:=Kh g4;rw[g4]at h0 HK;have c7:=Kh (m5.out.kept h3 (fun e=>by have e:kb=F:=Oj e;omega));have e4:=Kh (l9.out.kept h3 (fun e=>by have e:kb=mb:=Oj e;omega));have n0:=Kh (j7.out.kept h3 (fun e=>by have e:kb=g:=Oj e;omega));have m6:=Kh (zB f0.out h3 (fun e=>by have e:kb=P:=Oj e;omega));have k9:q<sg.length:=by omega
        have j9:sg[q]=lH d p q k:=by
         have e:=p5.out;subst e;exact aM (by omega)
        have b4:=numb_stepG k9;have H7:=eR k9;rw[j9]at b4 H7;obtain⟨y0,y1,y2,y3,y4,y5,y6,hL⟩:=seven (nS (d:=d) (p:=p) (q:=q) (x:=k) l2)
        have i1:qIL [y0,y1,y2,y3,y4,y5,y6]:=by
         rw[<-hL];exact⟨nS l2,fun z hz=>by have:=sigTo_lt j3.out o0 z hz;omega⟩
        rw[hL]at h0 HK b4 H7;obtain⟨k0,k1,k2,k3,k4,k5,k6⟩:=sig7_cells h0;have h4:=lB (l:=numb sg) (k:=q) (by have:=g0.out;omega);have i9:=wE (l:=numb sg) (k:=q) (by have:=g0.out;omega);have g2:Hid ((uL (numb sg) q).length=n):=Kh (by rw[i9,g0.out]);have cF:=c7.out.nat q (by rw[g2.out];exact hq);have fF:=c7.out.frozen q;have b5:=e4.out.lookup aL i1;obtain⟨Fs,j1⟩:∃Fs,Fs=yD (sg.take q):=⟨_,rfl⟩;rw[<-j1]at b4 H7 b5 e4 e9;have x4:=Kh j1;have p8:=Kh i1;clear hL j9 i9 h0 h3 H6 j1 i1 g4 m5 l9 j7 f0;by_cases hin:[y0,y1,y2,y3,y4,y5,y6]∈Fs
        ·obtain⟨I,hI⟩:∃I,I=(numb sg).getD q 0:=⟨_,rfl⟩
         have H9:=numb_old (hI.trans b4) hin;rw[uX hin]at H7;rw[H9]at b5;rw[<-hI]at h4;replace b5:(Instr.lookup 174 (.map (some mb)) (.agg #[.int .i64 (y0:Int),.int .i64 (y1:Int),.int .i64 (y2:Int),.int .i64 (y3:Int),.int .i64 (y4:Int),.int .i64 (y5:Int),.int .i64 (y6:Int)]) true).run Try.prog wr=.ok (.tuple #[.int .i64 (I:Int),.bool true]) wr:=b5;have H3:=Kh h4;have e8:=Kh H7;clear h4 H7 b4 hI hin H9;go_wp2;go_roundg (n-(q+1))
         case measure=>have:=h7.out;omega
         case rel =>
          refine⟨q+1,c,by have:=h7.out;omega,by go_num,by rw[<-H3.out];exact c7.out.nat_set q (by rw[g2.out];exact hq) I,?_,by rw[e8.out];exact e9.out,n0.out.kept (zC wr ⟨F,q,none⟩ _) (fun e=>by have e:F=g:=Oj e;omega),zB m6.out (zC wr ⟨F,q,none⟩ _) (fun e=>by have e:F=P:=Oj e;omega),zA m1.out (zC wr ⟨F,q,none⟩ _) (fun k e=>by have e:F=k:=Oj e;omega)⟩;rw[e8.out];exact(e4.out.mono (by omega)).kept (zC wr ⟨F,q,none⟩ _) (fun e=>by have e:F=mb:=Oj e;omega)
        ·obtain⟨I,hI⟩:∃I,I=(numb sg).getD q 0:=⟨_,rfl⟩
         have h8:=numF_no hin;have l5:=numb_new (hI.trans b4) hin;rw[vE hin]at H7;rw[h8]at b5;rw[<-hI]at h4;have o8:I=c:=by rw[l5];exact e9.out.symm
         have o5:c<4611686018427387904:=(by omega);have h9:=numF_new hin;rw[<-e9.out]at h9;subst o8;replace b5:(Instr.lookup 174 (.map (some mb)) (.agg #[.int .i64 (y0:Int),.int .i64 (y1:Int),.int .i64 (y2:Int),.int .i64 (y3:Int),.int .i64 (y4:Int),.int .i64 (y5:Int),.int .i64 (y6:Int)]) true).run Try.prog wr=.ok (.tuple #[.int .i64 0,.bool false]) wr:=b5;have i6:=e4.out.len aL;have H3:=Kh h4;have e8:=Kh H7;have j4:=Kh h9;have d9:=Kh h8;clear h4 H7 b4 hI hin h8 l5 h9;go_wp2_with (first|(at_mapUpdate;refine pS aL rfl _ _ _ rfl mb q I (numF Fs) [y0,y1,y2,y3,y4,y5,y6] I rfl rfl rfl e4.out (by unfold maxLen;omega) p8.out o5 ?_;intro w5 a0 f7;(have c5:=Kh a0);(have g1:=Kh f7);(have fF5:=(c7.out.kept f7 (fun e=>by have e:mb=F:=Oj e;omega)).frozen q);(have cF5:=(c7.out.kept f7 (fun e=>by have e:mb=F:=Oj e;omega)).nat q (by rw[g2.out];exact hq));clear a0 f7)|fail);rw[d9.out]at c5;replace c5:=c5.out;have e5:(if (none:Option Nat).isSome=true then I else I+1)=I+1:=rfl;rw[e5,j4.out]at c5;have q1:=Kh c5;clear c5 e5;go_roundg (n-(q+1))
         case measure=>have:=h7.out;omega
         case rel =>
          have f5:=zC w5 ⟨F,q,none⟩ (.int .i64 (I:Int));refine⟨q+1,I+1,by have:=h7.out;omega,by go_num,?_,?_,by rw[e8.out,List.length_append,<-e9.out];rfl,(n0.out.kept g1.out (fun e=>by have e:mb=g:=Oj e;omega)).kept f5 (fun e=>by have e:F=g:=Oj e;omega),zB (zB m6.out g1.out (fun e=>by have e:mb=P:=Oj e;omega)) f5 (fun e=>by have e:F=P:=Oj e;omega),zA (zA m1.out g1.out (fun k e=>by have e:mb=k:=Oj e;omega)) f5 (fun k e=>by have e:F=k:=Oj e;omega)⟩
          ·rw[<-H3.out]
           exact(c7.out.kept g1.out (fun e=>by have e:mb=F:=Oj e;omega)).nat_set q (by rw[g2.out];exact hq) I
          ·rw[e8.out]
           exact q1.out.kept f5 (fun e=>by have e:F=mb:=Oj e;omega)
     ·have b3:q=n:=by have:=h7.out;omega
      have l3:c=cls (yX d k (m+1)):=by
       rw[hc,b3,List.take_of_length_le (by omega),<-j2.out,cls_numb]
      have i6:=H0.len aL
      have j5:Hid (Arr wr F 3 (nats (yX d k (m+1)))):=Kh (by
       have e:uL (numb sg) q=yX d k (m+1):=by rw[b3,<-j2.out,<-g0.out];exact lC _
       rw[<-e];exact h0)
      have j6:=Kh l3;rw[<-l3]at d8 e7;have o6:c<=n:=by omega
      clear h0 H0 hc d7 b3;by_cases he:c=C
      ·have q7:=Kh (d8.out he)
       have p9:Hid ((yW d k).length=n):=Kh (by rw[wV,HN.out]);subst he;clear d8 e7 j6;go_wp2;go_ret;rw[q7.out]at j5;exact⟨F,by rw[p9.out];rfl,l6,j5.out,h3⟩
      ·have r9:=e7.out he
       have s7:((c:Int) == (C:Int))=false:=by rw[beq_eq_false_iff_ne];omega
       have x3:=Kh he;have q4:=Kh h3;clear d8 e7 he h3;go_wp2;go_roundg (n-cls (yX d k (m+1)))
       case measure=>have:=j6.out;have:=q9.out;omega
       case rel=>exact⟨m+1,F,rfl,by have:=j6.out;omega,rfl,rfl,j5.out,l6,by omega,h6,q4.out⟩
end Go.Proofs.Ytjfdomfendbhfaa
