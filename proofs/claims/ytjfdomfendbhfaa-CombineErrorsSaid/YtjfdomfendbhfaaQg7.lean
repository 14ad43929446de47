/- Part 7 of the proof. -/
import Derived.Test.YtjfdomfendbhfaaQg6
import Derived.Deep.OwnRows
import Derived.Deep.DeepCutAuto
set_option linter.unusedVariables false
set_option linter.unusedSimpArgs false
set_option maxRecDepth 100000
set_option maxHeartbeats 16000000
namespace Go.Proofs.Ytjfdomfendbhfaa
open Go.RowKit
def iU (d:DfaV)(p:List Nat)(i:Nat):List Bool:=(uY p i).map fun q=>d.final.getD q false
def iT (d:DfaV)(p:List Nat)(i:Nat):List (List Int):=(uY p i).map fun q=>vH p (d.next.getD q [])
theorem minFs_new {d:DfaV}{p:List Nat}{i:Nat}(h:p.getD i 0=cls (p.take i)):iU d p (i+1)=iU d p i++[d.final.getD i false]:=by simp only[iU,vK h,List.map_append,List.map_cons,List.map_nil]
theorem minTs_new {d:DfaV}{p:List Nat}{i:Nat}(h:p.getD i 0=cls (p.take i)):iT d p (i+1)=iT d p i++[vH p (d.next.getD i [])]:=by simp only[iT,vK h,List.map_append,List.map_cons,List.map_nil]
theorem minFs_old {d:DfaV}{p:List Nat}{i:Nat}(h:p.getD i 0≠cls (p.take i)):iU d p (i+1)=iU d p i:=by simp only[iU,vJ h]
theorem minTs_old {d:DfaV}{p:List Nat}{i:Nat}(h:p.getD i 0≠cls (p.take i)):iT d p (i+1)=iT d p i:=by simp only[iT,vJ h]
theorem kT {d:DfaV}{n k:Nat}(hd:VD d n k){p:List Nat}{q:Nat}(hq:q<n):(vH p (d.next.getD q [])).length=k:=by rw[vH,List.length_map,hd.row q hq]
theorem mapRow_at {d:DfaV}{n k:Nat}(hd:VD d n k){p:List Nat}{q a:Nat}(hq:q<n)(ha:a<k):(vH p (d.next.getD q [])).getD a 0=((p.getD (nx d q a) 0:Nat):Int):=by
 rw[jQ (by rw[hd.row q hq];exact ha)];rfl
def qGX (w:World)(m:DfaV)(e:Ending)(w':World):Prop:=∃ v,e=.returned v/\pT w w' v m/\w.grownBy w' none
theorem fM (B:Nat)(w:World)(v:Value)(d:DfaV)(n k:Nat)(hB:B<=w.heap.size)(h:uW B w v d)(hd:VD d n k):Calls Try.prog 54 #[v] w (qGX w (minD d k)):=by
 have b7:=h;obtain⟨fb,fo,fc,b,off,cap,RB,RO,RC,rfl,d5⟩:=h.at hd;have hn:=hd.hn;have p1:=hd.n1;have j4:=hd.nbig;have p4:=hd.k6;have p5:=hd.k1;have p9:=d5.fcap.1;have e6:=d5.fcap.2;have q0:=d5.cap.1;have e7:=d5.cap.2;have m1:fc<=9223372036854775807:=by unfold maxLen at e6;omega
 have m0:cap<=9223372036854775807:=by unfold maxLen at e7;omega
 obtain⟨S,hS⟩:∃ S,S=st0 d:=⟨_,rfl⟩;have m8:S<n:=by rw[hS];exact oT hd
 have n5:=Kh hS;have j1:dAgg k (st0 d) fb fo fc b off cap n=.agg #[.int .i64 (k:Int),.int .i64 (S:Int),.slice (some ⟨fb,fo,none⟩) n fc,.slice (some ⟨b,off,none⟩) n cap]:=by rw[hS];rfl
 rw[j1]at b7 ⊢;obtain⟨e9,g2,e4,j0⟩:=nD w #[.int .i64 (k:Int),.int .i64 (S:Int),.slice (some ⟨fb,fo,none⟩) n fc,.slice (some ⟨b,off,none⟩) n cap] #[.int .i64 0,.int .i64 0,.slice none 0 0,.slice none 0 0] 42;obtain⟨wA,i3⟩:∃ wA,wA=(w.alloc (.cells #[.int .i64 (k:Int),.int .i64 (S:Int),.slice (some ⟨fb,fo,none⟩) n fc,.slice (some ⟨b,off,none⟩) n cap] 42)).alloc (.cells #[.int .i64 0,.int .i64 0,.slice none 0 0,.slice none 0 0] 42):=⟨_,rfl⟩;rw[<- i3]at e9 g2 e4 j0;obtain⟨c0,c1,c2,c3⟩:=zF e9;obtain⟨P,hP⟩:∃ P,P=w.heap.size:=⟨_,rfl⟩;have g6:=Kh hP;rw[<- hP]at e9 g2 c0 c1 c2 c3 j0 hB;have i8:=Kh e9;have o3:=Kh g2;have o0:=Kh e4;have n2:=Kh i3;have o4:=Kh (d5.kept e4 (by simp));have HN:=Kh hn;have HD:=Kh hd;have l5:=Kh (classes_any B wA _ d n k (by omega) (b7.kept e4 (by simp)) hd);clear e9 g2 e4 i3 d5 hn hd h b7 j1 e6 e7 hS;go_enter Try.func54,Try.ntmps54;go_upto_region 1 with fail;rw[<- n2.out,<- g6.out];clear hP;go_wp2_with fail;refine l5.out.mono ?_;rintro e w1 ⟨G,rfl,m5,H2,g0⟩;have c9:(yO d k).length=n:=by rw[wN,HN.out]
 have f8:=tY d k;obtain⟨p,hp⟩:∃ p,p=yO d k:=⟨_,rfl⟩;have HP:=Kh hp;rw[<- hp]at H2 c9 f8 ⊢;rw[c9];have b4:=nP f8;rw[c9]at b4;have l3:=Kh H2;have f4:=Kh g0;have g5:=Kh f8;have c5:=Kh c9;have n8:=Kh b4;have o6:=g0.size;have p7:=H2.1;obtain⟨d0,d1,d2,d3⟩:=zF (zB i8.out g0 (by simp));have cp:=H2.nat S (by rw[c9];exact m8);rw[Nat.zero_add]at cp;obtain⟨ps,g9⟩:∃ ps,ps=p.getD S 0:=⟨_,rfl⟩;have n7:=Kh g9;rw[<- g9]at cp;have m7:(S:Int)<n:=by omega
 have j6:=World.new_ne w1 _ d0;have e0:=World.new_ne w1 _ d1;have j5:=World.new_ne w1 _ cp;have i0:=World.block_lt_of_cell? w1 _ d0;simp only at j6 e0 j5 i0;have m9:P<w1.heap.size:=i0;clear hp H2 g0 c9 f8 b4 l5 c0 c1 c2 c3 d2 d3 g9;go_upto_region 2 with fail
 go_region_held3 (fun w'=>w'.cell? ⟨P,0,none⟩=some (.int .i64 (k:Int))/\w'.cell? ⟨P,1,none⟩=some (.int .i64 (S:Int))/\w'.cell? ⟨G,S,none⟩=some (.int .i64 (ps:Int))) (first|go_keep|fail) (fail)
 obtain⟨w4,rfl⟩:∃ w4:World,w4=w1:=⟨_,rfl⟩;obtain⟨O,hO⟩:∃ O,O=w4.heap.size:=⟨_,rfl⟩;obtain⟨w6,f7⟩:∃ w6,w6=(w4.alloc (.cells #[.int .i64 (k:Int),.int .i64 (ps:Int),.slice none 0 0,.slice none 0 0] 42)).drew:=⟨_,rfl⟩;rw[<- f7,<- hO];have b6:w4.grownBy w6 none:=by rw[f7];exact zD (Ga w4 _ none) (zO _ _)
 have k5:w6.heap[O]?=some (.cells #[.int .i64 (k:Int),.int .i64 (ps:Int),.slice none 0 0,.slice none 0 0] 42 (0,0)):=by rw[f7,hO];exact heap_alloc_new w4 _
 have l2:Built O w6 O k ps [] [] [] none 0 none 0:=⟨k5,World.ownsRow_nil _ _ _ _,World.ownsRow_nil _ _ _ _,wH.nil,rfl⟩;have l6:=Kh l2;have f3:=Kh b6;have f0:=Kh hO;have q4:G<O:=by omega
 have q2:P+1<O:=by omega
 have l7:=b6.size;clear k5 l2 b6 f7 hO j6 e0 j5 i0 m9 d0 d1 cp;go_wp2
 go_loopg [5,6,7,23] n (fun gh v5 a6 a7 i wr=>∃ (i':Nat) (hs:List Value) (sf:Option Addr) (cf:Nat) (sn:Option Addr) (cn:Nat),gh+i'=n/\i=.int .i64 i'/\v5=.int .i64 (cls (p.take i'):Nat)/\Built O wr O k ps (iU d p i') (iT d p i') hs sf cf sn cn/\w4.grownBy wr (some O))
 case atStart=>exact⟨0,[],none,0,none,0,rfl,rfl,rfl,l6.out,wE f3.out⟩
 case round =>
  clear l6 f3;obtain⟨i,hs,sf,cf,sn,cn,hg,rfl,rfl,h7,h4⟩:=hrel;have f2:=Kh hg;have a1:=Kh h7;have f1:=Kh h4;have o5:=h4.size;clear hg;by_cases hi:i<n
  ·have p6:(i:Int)<n:=by omega
   have b8:O≠P:=(by omega);have l0:O≠G:=(by omega);have k3:=(l3.out.kept h4 (fun e=>l0 (Oj e))).nat i (by rw[c5.out];exact hi);rw[Nat.zero_add]at k3;obtain⟨H7,H4,H3⟩:=kR g5.out (q:=i) (by rw[c5.out];exact hi);have k2:=iP (p.take i);rw[List.length_take]at k2;obtain⟨c,hc⟩:∃ c,c=cls (p.take i):=⟨_,rfl⟩;rw[<- hc]at H7 H4 H3 k2 ⊢;obtain⟨x,hx⟩:∃ x,x=p.getD i 0:=⟨_,rfl⟩;rw[<- hx]at k3 H7 H4 H3;by_cases hxc:x=c
   ·have c7:=Kh (minFs_new (d:=d) (hx.symm.trans (hxc.trans hc)));have d6:=Kh (minTs_new (d:=d) (hx.symm.trans (hxc.trans hc)))
    have f5:Hid (cls (p.take (i+1))=c+1):=Kh (H4 hxc);have e1:((x:Int) != (c:Int))=false:=by rw[hxc];simp
    have d4:(iU d p i).length=c:=by simp only[iU,List.length_map];rw[vO g5.out i (by rw[c5.out];omega),hc]
    have b3:(iT d p i).length=c:=by simp only[iT,List.length_map];rw[vO g5.out i (by rw[c5.out];omega),hc]
    have hA:=(o4.out.kept f4.out (by simp)).kept h4 (fun k e=>by have:=Oj e;omega);have ch:=hA.hd i hi;obtain⟨d0,d1,d2,d3⟩:=zF (zB (zB i8.out f4.out (by simp)) h4 (fun e=>b8 (Oj e)));obtain⟨wo,rfl⟩:∃ wo:World,wo=wr:=⟨_,rfl⟩;have i9:=Kh hA;clear hA h7 h4 H7 H4 H3 hx hxc hc;go_wp2
    go_loopg [8,39] k (fun gh ov i' wr=>∃ (a:Nat) (sr:Option Addr) (cr:Nat),gh+a=k/\i'=.int .i64 a/\ov=.slice sr a cr/\wr.ownsRow wo.heap.size 3 1 (.slice sr a cr) a (ints ((vH p (d.next.getD i [])).take a))/\wo.grownBy wr none)
    case atStart=>exact⟨0,none,0,rfl,rfl,rfl,by simpa [ints] using World.ownsRow_nil _ _ _ _,zL _ _⟩
    case round =>
     obtain⟨a,sr,cr,hg,rfl,rfl,d9,h4⟩:=hrel;have l4:=Kh hg;have a0:=Kh d9;have i5:=Kh h4;clear hg d9 d0 d1 d2 d3;by_cases ha:a<k
     ·have q1:(a:Int)<k:=by omega
      have hA:=i9.out.kept h4 (by simp);have ce:=hA.el i a hi ha;have o9:=(hA.rcap i hi).1;have j3:=nO HD.out hi ha;have cp:=((l3.out.kept f1.out (fun e=>l0 (Oj e))).kept h4 (by simp)).nat (nx d i a) (by rw[c5.out];exact j3);rw[Nat.zero_add]at cp
      have i4:Hid ((vH p (d.next.getD i [])).take (a+1)=(vH p (d.next.getD i [])).take a++[((p.getD (nx d i a) 0:Nat):Int)]):=Kh (by
       rw[zR (d:=0) (by rw[kT HD.out hi];exact ha),mapRow_at HD.out hi ha])
      obtain⟨s,hs⟩:∃ s,s=nx d i a:=⟨_,rfl⟩;rw[<- hs]at ce j3 cp i4;obtain⟨y,hy⟩:∃ y,y=p.getD s 0:=⟨_,rfl⟩;rw[<- hy]at cp i4;have m4:=h4.size;have l9:(s:Int)<n:=(by omega);clear hA hs hy h4;go_wp2_with (first|(at_builtin;refine app1 rfl _ _ _ rfl yU wo.heap.size _ a (ints ((vH p (d.next.getD i [])).take a)) rfl a0.out _ rfl rfl ?c1 ?c2 ?c3 ?_)|fail)
      case c1=>unfold maxLen;omega
      case c2=>omega
      case c3=>exact m4
      intro sa' sc' w6 a3 k0 m3;have n9:=Kh a3;have o1:=Kh k0;clear a3 k0;go_wp2;go_roundg (k - (a+1))
      case measure=>have:=l4.out;omega
      case rel =>
       refine⟨a+1,sa',sc',by omega,by go_num,rfl,?_,zA i5.out o1.out (fun q e=>(a0.out.lt q e).1)⟩;rw[i4.out,qBM];exact n9.out
     ·have k8:a=k:=by have:=l4.out;omega
      have j2:(vH p (d.next.getD i [])).take a=vH p (d.next.getD i []):=by rw[k8,<- kT HD.out (p:=p) hi];exact List.take_length
      rw[j2]at a0;obtain⟨w5,g8⟩:∃ w5,w5=wr.drew:=⟨_,rfl⟩;have n3:=Kh g8;have b5:wr.grownBy w5 none:=(by rw[g8];exact zO wr none);have a2:=Kh ((a1.out.grow h4).grow b5);have c4:Hid (RowT w5.heap.size 3 w5 (.slice sr a cr) (ints (vH p (d.next.getD i [])))):=Kh (RowT.of_owns (yR a0.out b5 (by simp)));have i6:=Kh (zD f1.out (wE (zD h4 b5) (row:=some O)));have l1:=a2.out.box;have H0:=Kh l1;have g7:=Kh a2.out.notbox;have c8:O<=w5.heap.size:=by have:=h4.size;have:=b5.size;have:=f0.out;omega
      have cq:=(((i9.out.kept h4 (by simp)).kept b5 (by simp))).fin hi;obtain⟨_,_,d2,_⟩:=zF (zB (zB (zB (zB i8.out f4.out (by simp)) f1.out (fun e=>b8 (Oj e))) h4 (by simp)) b5 (by simp));have p8:=i9.out.flt;have m6:O≠fb:=(by omega);obtain⟨bq,k4⟩:∃ bq,bq=d.final.getD i false:=⟨_,rfl⟩;rw[<- k4]at cq c7;obtain⟨fsl,e5⟩:∃ x,x=iU d p i:=⟨_,rfl⟩;obtain⟨tsl,d8⟩:∃ x,x=iT d p i:=⟨_,rfl⟩;rw[<- e5]at a2 H0 c7 d4;rw[<- d8]at a2 H0 d6 b3;obtain⟨m,hm⟩:∃ m,m=c:=⟨_,rfl⟩;rw[<- hm]at d4 b3;have b9:=Kh b3;have k9:=a2.out.many
      have hM:Many w5 (FB sf sn) w5 [⟨O,34,.slice sn m cn,m,hs,1⟩,⟨O,4,.slice sf m cf,m,bls fsl,1⟩] [] []:=by
       have h1:=k9;simp only[rN,rF,d4,b3]at h1;exact h1
      have d7:Hid (∀ W:World,(W.cell? ⟨P,2,none⟩=some (.slice (some ⟨fb,fo,none⟩) n fc)/\W.cell? ⟨fb,fo+i,none⟩=some (.bool bq))->∀ (c:Nat) (X:Value),(W.setCell ⟨O,c,none⟩ X).cell? ⟨P,2,none⟩=some (.slice (some ⟨fb,fo,none⟩) n fc)/\(W.setCell ⟨O,c,none⟩ X).cell? ⟨fb,fo+i,none⟩=some (.bool bq)):=Kh (fun W h c X =>
       ⟨by rw[World.cell?_setCell_far W ⟨O,c,none⟩ ⟨P,2,none⟩ X b8];exact h.1,by rw[World.cell?_setCell_far W ⟨O,c,none⟩ ⟨fb,fo+i,none⟩ X m6];exact h.2⟩)
      have h0:Hid (∀ W rs ls,Many w5 (FB sf sn) W rs ls []->(W.cell? ⟨P,2,none⟩=some (.slice (some ⟨fb,fo,none⟩) n fc)/\W.cell? ⟨fb,fo+i,none⟩=some (.bool bq))/\(W.cell? ⟨O,3,none⟩=some (.slice sn m cn)/\W.cell? ⟨O,2,none⟩=some (.slice sf m cf))):=Kh (fun W rs ls h=>by
       have j8:=a2.out.ge;have hb:=h.but.heap H0.out g7.out;rw[d4,b3]at hb;obtain⟨_,_,e2,e3⟩:=zF hb
       exact⟨⟨h.but.cell d2 (fun hf=>by have:=j8 _ hf;simp only at this;omega),h.but.cell cq (fun hf=>by have:=j8 _ hf;simp only at this;omega)⟩,e3,e2⟩)
      rw[d4,b3]at H0;have p2:Hid (m=c):=Kh hm;have p3:m<=4194304:=by omega
      clear k9 l1 j2 k8 g8 b5 h4 k4 e5 d8 hm d4 b3 ch d2 cq;go_upto_region 15 with fail;refine wp_region_noPanic ?_;refine wQ (G:=tZ 15 (fun W=>W.cell? ⟨P,2,none⟩=some (.slice (some ⟨fb,fo,none⟩) n fc)/\W.cell? ⟨fb,fo+i,none⟩=some (.bool bq)) (fun W=>W.cell? ⟨O,3,none⟩=some (.slice sn m cn)/\W.cell? ⟨O,2,none⟩=some (.slice sf m cf))) (by kernel_rfl) ?_;rw[<- n3.out];refine zW 0 ⟨(h0.out _ _ _ hM).1,fun _=>(h0.out _ _ _ hM).2⟩ ?_;refine dD 1 ⟨(h0.out _ _ _ hM).1,fun _=>(h0.out _ _ _ hM).2⟩ ?_;refine zW 2 ⟨(h0.out _ _ _ hM).1,fun _=>(h0.out _ _ _ hM).2⟩ ?_;refine zW 5 ⟨(h0.out _ _ _ hM).1,fun _=>(h0.out _ _ _ hM).2⟩ ?_;refine dD 6 ⟨(h0.out _ _ _ hM).1,fun _=>(h0.out _ _ _ hM).2⟩ ?_;refine zW 7 ⟨(h0.out _ _ _ hM).1,fun _=>(h0.out _ _ _ hM).2⟩ ?_;refine zW 8 ⟨(h0.out _ _ _ hM).1,fun _=>(h0.out _ _ _ hM).2⟩ ?_;refine zW 9 ⟨(h0.out _ _ _ hM).1,fun _=>(h0.out _ _ _ hM).2⟩ ?_;refine zW 10 ⟨(h0.out _ _ _ hM).1,fun _=>(h0.out _ _ _ hM).2⟩ ?_;refine zW 11 ⟨(h0.out _ _ _ hM).1,fun _=>(h0.out _ _ _ hM).2⟩ ?_;refine twoG (i:=3) (j:=12) (by kernel_rfl) rfl rfl (fun K hK=>?_) (fun K hK=>?_)
      ·skip
       go_simp;refine hK.out _ _ ⟨(h0.out _ _ _ (hM.alloc _)).1,fun _=>(h0.out _ _ _ (hM.alloc _)).2⟩ ?_;clear hK K
       try simp only[Act.put,sPa,sPb,sPc]
       refine twoG (i:=4) (j:=12) (by kernel_rfl) rfl rfl (fun K hK=>?_) (fun K hK=>?_)
       ·skip
        refine vV rfl (.tmp 52) (.tmp 54) 40 rfl uP 0 _ _ rfl ⟨_,_,_,_,_,(hM.alloc _),_,rfl,rfl,rfl,rfl,?g3,?g4,c8,_,_,_,List.Mem.head _,(by first|rfl|simp),rfl,?_⟩
        case g3=>(simp only[];unfold maxLen;omega)
        case g4=>(simp only[];omega)
        intro sa1 sc1 w1x H9;have H5:=H9.litcell (List.Mem.head _)
        try simp only[zJ]at H5
        refine hK.out _ _ ⟨(h0.out _ _ _ H9).1,fun _=>(h0.out _ _ _ H9).2⟩ ?_;clear hK K
        try simp only[Act.put,sPa,sPb,sPc]
        refine zW 14 ⟨(h0.out _ _ _ H9).1,fun _=>(h0.out _ _ _ H9).2⟩ ?_;refine oneG (i:=12) (by kernel_rfl) rfl (fun K hK=>?_);go_simp;refine hK.out _ _ ⟨(h0.out _ _ _ (H9.alloc _)).1,fun _=>(h0.out _ _ _ (H9.alloc _)).2⟩ ?_;clear hK K
        try simp only[Act.put,sPa,sPb,sPc]
        refine oneG (i:=13) (by kernel_rfl) rfl (fun K hK=>?_);refine vV rfl (.tmp 57) (.tmp 63) 39 rfl xW 1 _ _ rfl ⟨_,_,_,_,_,(H9.alloc _),_,rfl,rfl,rfl,rfl,?g3,?g4,c8,_,_,_,List.Mem.head _,(by first|rfl|simp),rfl,?_⟩
        case g3=>(simp only[];unfold maxLen;omega)
        case g4=>(simp only[];omega)
        intro sa2 sc2 w2x b2;have H5:=b2.litcell (List.Mem.head _)
        try simp only[zJ]at H5
        have H8:=b2.litcell (List.Mem.tail _ (List.Mem.head _))
        try simp only[zJ]at H8
        refine hK.out _ _ ⟨(h0.out _ _ _ b2).1,fun _=>(h0.out _ _ _ b2).2⟩ ?_;clear hK K
        try simp only[Act.put,sPa,sPb,sPc]
        refine oneG (i:=15) (by kernel_rfl) rfl (fun K hK=>?_);have h5:=b2.but.heap H0.out g7.out;have cb3:=zH h5 3 (by simp);have cb2:=zH h5 2 (by simp);have fb3:=zE h5 3;have fb2:=zE h5 2;simp only[List.getElem_toArray,List.getElem_cons_zero,List.getElem_cons_succ]at cb3 cb2;go_simp;have h3:=heap_setCell_same _ O 3 _ _ (.slice sa1 (m+1) sc1) h5;have cb22:=zH h3 2 (by simp);have fb22:=zE h3 2;simp at cb22;have H1:=d7.out _ (h0.out _ _ _ b2).1 3 (.slice sa1 (m+1) sc1);refine hK.out _ _ ⟨H1,fun h=>by simp at h⟩ ?_;clear hK K
        try simp only[Act.put,sPa,sPb,sPc]
        refine zW 16 ⟨H1,fun h=>by simp at h⟩ ?_;refine oneG (i:=17) (by kernel_rfl) rfl (fun K hK=>?_);go_simp;have h6:=d7.out _ H1 2 (.slice sa2 (m+1) sc2);refine hK.out _ _ ⟨h6,fun h=>by simp at h⟩ ?_;clear hK K
        try simp only[Act.put,sPa,sPb,sPc]
        refine rH (by kernel_rfl) ?_ _;refine NoPanic.normal ?_;obtain⟨h7,a5⟩:=a2.out.push (b:=bq) (row:=vH p (d.next.getD i [])) b9.out b2 c4.out rfl;have H6:=Kh h7;have c6:=Kh (a5 w4 i6.out (by have:=f0.out;omega));clear h7 a5 cb3 cb2 fb3 fb2 h5 h3 cb22 fb22 H1 h6 b2
        (try clear H9)
        go_wp2;go_roundg (n - (i+1))
        case measure=>have:=f2.out;omega
        case rel=>exact⟨i+1,_,_,_,_,_,by omega,by go_num,by rw[f5.out];rfl,H6.out.congr c7.out d6.out,c6.out⟩
       ·skip
        go_simp;refine hK.out _ _ ⟨(h0.out _ _ _ ((hM.alloc _).alloc _)).1,fun _=>(h0.out _ _ _ ((hM.alloc _).alloc _)).2⟩ ?_;clear hK K
        try simp only[Act.put,sPa,sPb,sPc]
        refine oneG (i:=4) (by kernel_rfl) rfl (fun K hK=>?_);refine vV rfl (.tmp 52) (.tmp 54) 40 rfl uP 0 _ _ rfl ⟨_,_,_,_,_,((hM.alloc _).alloc _),_,rfl,rfl,rfl,rfl,?g3,?g4,c8,_,_,_,List.Mem.tail _ (List.Mem.head _),(by first|rfl|simp),rfl,?_⟩
        case g3=>(simp only[];unfold maxLen;omega)
        case g4=>(simp only[];omega)
        intro sa3 sc3 w3x b1;have H5:=b1.litcell (List.Mem.head _)
        try simp only[zJ]at H5
        have H8:=b1.litcell (List.Mem.tail _ (List.Mem.head _))
        try simp only[zJ]at H8
        refine hK.out _ _ ⟨(h0.out _ _ _ b1).1,fun _=>(h0.out _ _ _ b1).2⟩ ?_;clear hK K
        try simp only[Act.put,sPa,sPb,sPc]
        refine zW 14 ⟨(h0.out _ _ _ b1).1,fun _=>(h0.out _ _ _ b1).2⟩ ?_;refine oneG (i:=13) (by kernel_rfl) rfl (fun K hK=>?_);refine vV rfl (.tmp 57) (.tmp 63) 39 rfl xW 1 _ _ rfl ⟨_,_,_,_,_,b1,_,rfl,rfl,rfl,rfl,?g3,?g4,c8,_,_,_,List.Mem.head _,(by first|rfl|simp),rfl,?_⟩
        case g3=>(simp only[];unfold maxLen;omega)
        case g4=>(simp only[];omega)
        intro sa4 sc4 w4x b0;have H5:=b0.litcell (List.Mem.head _)
        try simp only[zJ]at H5
        have H8:=b0.litcell (List.Mem.tail _ (List.Mem.head _))
        try simp only[zJ]at H8
        refine hK.out _ _ ⟨(h0.out _ _ _ b0).1,fun _=>(h0.out _ _ _ b0).2⟩ ?_;clear hK K
        try simp only[Act.put,sPa,sPb,sPc]
        refine oneG (i:=15) (by kernel_rfl) rfl (fun K hK=>?_);have h5:=b0.but.heap H0.out g7.out;have cb3:=zH h5 3 (by simp);have cb2:=zH h5 2 (by simp);have fb3:=zE h5 3;have fb2:=zE h5 2;simp only[List.getElem_toArray,List.getElem_cons_zero,List.getElem_cons_succ]at cb3 cb2;go_simp;have h3:=heap_setCell_same _ O 3 _ _ (.slice sa3 (m+1) sc3) h5;have cb22:=zH h3 2 (by simp);have fb22:=zE h3 2;simp at cb22;have H1:=d7.out _ (h0.out _ _ _ b0).1 3 (.slice sa3 (m+1) sc3);refine hK.out _ _ ⟨H1,fun h=>by simp at h⟩ ?_;clear hK K
        try simp only[Act.put,sPa,sPb,sPc]
        refine zW 16 ⟨H1,fun h=>by simp at h⟩ ?_;refine oneG (i:=17) (by kernel_rfl) rfl (fun K hK=>?_);go_simp;have h6:=d7.out _ H1 2 (.slice sa4 (m+1) sc4);refine hK.out _ _ ⟨h6,fun h=>by simp at h⟩ ?_;clear hK K
        try simp only[Act.put,sPa,sPb,sPc]
        refine rH (by kernel_rfl) ?_ _;refine NoPanic.normal ?_;obtain⟨h7,a5⟩:=a2.out.push (b:=bq) (row:=vH p (d.next.getD i [])) b9.out b0 c4.out rfl;have H6:=Kh h7;have c6:=Kh (a5 w4 i6.out (by have:=f0.out;omega));clear h7 a5 cb3 cb2 fb3 fb2 h5 h3 cb22 fb22 H1 h6 b0
        (try clear b1)
        go_wp2;go_roundg (n - (i+1))
        case measure=>have:=f2.out;omega
        case rel=>exact⟨i+1,_,_,_,_,_,by omega,by go_num,by rw[f5.out];rfl,H6.out.congr c7.out d6.out,c6.out⟩
      ·skip
       go_simp;refine hK.out _ _ ⟨(h0.out _ _ _ (hM.alloc _)).1,fun _=>(h0.out _ _ _ (hM.alloc _)).2⟩ ?_;clear hK K
       try simp only[Act.put,sPa,sPb,sPc]
       refine oneG (i:=3) (by kernel_rfl) rfl (fun K hK=>?_);go_simp;refine hK.out _ _ ⟨(h0.out _ _ _ ((hM.alloc _).alloc _)).1,fun _=>(h0.out _ _ _ ((hM.alloc _).alloc _)).2⟩ ?_;clear hK K
       try simp only[Act.put,sPa,sPb,sPc]
       refine oneG (i:=4) (by kernel_rfl) rfl (fun K hK=>?_);refine vV rfl (.tmp 52) (.tmp 54) 40 rfl uP 0 _ _ rfl ⟨_,_,_,_,_,((hM.alloc _).alloc _),_,rfl,rfl,rfl,rfl,?g3,?g4,c8,_,_,_,List.Mem.head _,(by first|rfl|simp),rfl,?_⟩
       case g3=>(simp only[];unfold maxLen;omega)
       case g4=>(simp only[];omega)
       intro sa5 sc5 w5x a9;have H5:=a9.litcell (List.Mem.head _)
       try simp only[zJ]at H5
       have H8:=a9.litcell (List.Mem.tail _ (List.Mem.head _))
       try simp only[zJ]at H8
       refine hK.out _ _ ⟨(h0.out _ _ _ a9).1,fun _=>(h0.out _ _ _ a9).2⟩ ?_;clear hK K
       try simp only[Act.put,sPa,sPb,sPc]
       refine zW 14 ⟨(h0.out _ _ _ a9).1,fun _=>(h0.out _ _ _ a9).2⟩ ?_;refine oneG (i:=13) (by kernel_rfl) rfl (fun K hK=>?_);refine vV rfl (.tmp 57) (.tmp 63) 39 rfl xW 1 _ _ rfl ⟨_,_,_,_,_,a9,_,rfl,rfl,rfl,rfl,?g3,?g4,c8,_,_,_,List.Mem.tail _ (List.Mem.head _),(by first|rfl|simp),rfl,?_⟩
       case g3=>(simp only[];unfold maxLen;omega)
       case g4=>(simp only[];omega)
       intro sa6 sc6 w6x a8;have H5:=a8.litcell (List.Mem.head _)
       try simp only[zJ]at H5
       have H8:=a8.litcell (List.Mem.tail _ (List.Mem.head _))
       try simp only[zJ]at H8
       refine hK.out _ _ ⟨(h0.out _ _ _ a8).1,fun _=>(h0.out _ _ _ a8).2⟩ ?_;clear hK K
       try simp only[Act.put,sPa,sPb,sPc]
       refine oneG (i:=15) (by kernel_rfl) rfl (fun K hK=>?_);have h5:=a8.but.heap H0.out g7.out;have cb3:=zH h5 3 (by simp);have cb2:=zH h5 2 (by simp);have fb3:=zE h5 3;have fb2:=zE h5 2;simp only[List.getElem_toArray,List.getElem_cons_zero,List.getElem_cons_succ]at cb3 cb2;go_simp;have h3:=heap_setCell_same _ O 3 _ _ (.slice sa5 (m+1) sc5) h5;have cb22:=zH h3 2 (by simp);have fb22:=zE h3 2;simp at cb22;have H1:=d7.out _ (h0.out _ _ _ a8).1 3 (.slice sa5 (m+1) sc5);refine hK.out _ _ ⟨H1,fun h=>by simp at h⟩ ?_;clear hK K
       try simp only[Act.put,sPa,sPb,sPc]
       refine zW 16 ⟨H1,fun h=>by simp at h⟩ ?_;refine oneG (i:=17) (by kernel_rfl) rfl (fun K hK=>?_);go_simp;have h6:=d7.out _ H1 2 (.slice sa6 (m+1) sc6);refine hK.out _ _ ⟨h6,fun h=>by simp at h⟩ ?_;clear hK K
       try simp only[Act.put,sPa,sPb,sPc]
       refine rH (by kernel_rfl) ?_ _;refine NoPanic.normal ?_;obtain⟨h7,a5⟩:=a2.out.push (b:=bq) (row:=vH p (d.next.getD i [])) b9.out a8 c4.out rfl;have H6:=Kh h7;have c6:=Kh (a5 w4 i6.out (by have:=f0.out;omega));clear h7 a5 cb3 cb2 fb3 fb2 h5 h3 cb22 fb22 H1 h6 a8
       (try clear a9)
       go_wp2;go_roundg (n - (i+1))
       case measure=>have:=f2.out;omega
       case rel=>exact⟨i+1,_,_,_,_,_,by omega,by go_num,by rw[f5.out];rfl,H6.out.congr c7.out d6.out,c6.out⟩
   ·have c7:=Kh (minFs_old (d:=d) (fun e=>hxc (hx.trans (e.trans hc.symm))));have d6:=Kh (minTs_old (d:=d) (fun e=>hxc (hx.trans (e.trans hc.symm))))
    have f5:Hid (cls (p.take (i+1))=c):=Kh (H3 hxc);have e1:((x:Int) != (c:Int))=true:=by rw[bne_iff_ne];omega
    clear h7 h4 H7 H4 H3 hx hc hxc;go_wp2;go_roundg (n - (i+1))
    case measure=>have:=f2.out;omega
    case rel=>exact⟨i+1,hs,sf,cf,sn,cn,by omega,by go_num,by rw[f5.out],a1.out.congr c7.out d6.out,f1.out⟩
  ·have j7:i=n:=by have:=f2.out;omega
   have hE:(⟨(k:Int),(ps:Int),iU d p i,iT d p i⟩:DfaV)=uT d p:=by
    have h1:=HD.out.hk;have h2:reps p=uY p i:=by rw[reps,c5.out,j7]
    simp only[uT,iU,iT,h1,h2,n7.out,n5.out]
   have n6:=Kh (qCL HD.out c5.out g5.out);have i2:=h7.dfa;rw[hE]at i2;have n4:=Kh (trim_any wr.heap.size wr _ (uT d p) (cls p) k (Nat.le_refl _) i2 n6.out);obtain⟨d0,d1,d2,d3⟩:=zF h7.box;have b8:O≠P+1:=(by omega);have n0:P+1≠O:=(by omega);clear hE i2 h7 j7;go_wp2_with fail;refine n4.out.mono ?_;rintro e w7 ⟨v7,pv7,rfl,a4,f9⟩;have m2:xT (uT d p) k=minD d k:=by rw[HP.out];rfl
   rw[m2]at a4;obtain⟨o7,l8,sf7,cf7,sn7,cn7,rfl,p0,k7⟩:=a4;have h9:=zB a1.out.box f9 (by simp);have h8:=zB (zB (zB o3.out f4.out (by simp)) h4 (fun e=>b8 (Oj e))) f9 (by simp);have f6:=Kh h9;have i7:=Kh h8;have o2:=Kh k7;have c6:=Kh f9;obtain⟨x0,x1,x2,x3⟩:=zF h9;obtain⟨y0,y1,y2,y3⟩:=zF h8;have fx0:=zE h9 0;have fx1:=zE h9 1;have fx2:=zE h9 2;have fx3:=zE h9 3;have fy0:=zE h8 0;have fy1:=zE h8 1;have fy2:=zE h8 2;have fy3:=zE h8 3;clear h9 h8 k7 f9 h4 d0 d1 d2 d3;go_wp2;refine bodyPost_ret (v:=.agg #[.int .i64 (minD d k).letters,.int .i64 (minD d k).start,.slice sf7 (minD d k).final.length cf7,.slice sn7 (minD d k).next.length cn7]) (by simp[results,Try.results54,go_sem,y0,y1,y2,y3,b8,n0]) rfl ?_;obtain⟨o8,i1⟩:=uF f6.out (.int .i64 (minD d k).letters) (.int .i64 (minD d k).start) (.slice sf7 (minD d k).final.length cf7) (.slice sn7 (minD d k).next.length cn7);have e8:=zB i7.out i1 (fun e=>b8 (Oj e));obtain⟨hsR,j9⟩:=uF e8 (.int .i64 (minD d k).letters) (.int .i64 (minD d k).start) (.slice sf7 (minD d k).final.length cf7) (.slice sn7 (minD d k).next.length cn7);have q3:O<wr.heap.size:=zK a1.out.box;refine⟨_,rfl,⟨o7,l8,sf7,cf7,sn7,cn7,rfl,by have:=g6.out;omega,(o2.out.far i1 f6.out (by omega)).far j9 e8 (by omega)⟩,?_⟩;have g1:w.grownBy wr none:=zD o0.out (zD f4.out (zA (zL _ _) f1.out (fun x e=>by have:=Oj e;have:=f0.out;omega)));refine zA (zA (zD g1 c6.out) i1 (fun x e=>by have:=Oj e;have:=g6.out;omega)) j9 (fun x e=>by have:=Oj e;have:=g6.out;omega)
theorem kK (B:Nat)(w:World)(v:Value)(d:DfaV)(n k:Nat)(hB:B<=w.heap.size)(h:uW B w v d)(hd:VD d n k)(h5:n<=512):Calls Try.prog 58 #[v] w (qGX w (minD d k)):=by
 have h0:=h;obtain⟨fb,fo,fc,b,off,cap,RB,RO,RC,rfl,b6⟩:=h.at hd;obtain⟨S,hS⟩:∃ S,S=st0 d:=⟨_,rfl⟩;have a7:dAgg k (st0 d) fb fo fc b off cap n=.agg #[.int .i64 (k:Int),.int .i64 (S:Int),.slice (some ⟨fb,fo,none⟩) n fc,.slice (some ⟨b,off,none⟩) n cap]:=by rw[hS];rfl
 rw[a7]at h0 ⊢;obtain⟨h4,H1,h6,a5⟩:=nD w #[.int .i64 (k:Int),.int .i64 (S:Int),.slice (some ⟨fb,fo,none⟩) n fc,.slice (some ⟨b,off,none⟩) n cap] #[.int .i64 0,.int .i64 0,.slice none 0 0,.slice none 0 0] 42;obtain⟨wA,H4⟩:∃ wA,wA=(w.alloc (.cells #[.int .i64 (k:Int),.int .i64 (S:Int),.slice (some ⟨fb,fo,none⟩) n fc,.slice (some ⟨b,off,none⟩) n cap] 42)).alloc (.cells #[.int .i64 0,.int .i64 0,.slice none 0 0,.slice none 0 0] 42):=⟨_,rfl⟩;rw[<- H4]at h4 H1 h6 a5;obtain⟨c0,c1,c2,c3⟩:=zF h4;obtain⟨P,hP⟩:∃ P,P=w.heap.size:=⟨_,rfl⟩;obtain⟨Q,hQ⟩:∃ Q,Q=w.heap.size+1:=⟨_,rfl⟩;have c9:=Kh hP;have c8:Hid (Q=P+1):=Kh (by omega);have f4:P<Q:=by omega
 have e7:Q<wA.heap.size:=by omega
 have e9:w.heap.size<=P:=by omega
 have b7:B<=wA.heap.size:=by omega
 rw[<- hQ]at H1;rw[<- hP]at h4 c0 c1 c2 c3 hB;have d9:=Kh h4;have d8:=Kh H1;have d4:=Kh h6;have b8:=Kh H4;have HD:=Kh hd;have a2:=Kh (h0.kept h6 (by simp));have a9:=Kh (tQ B wA _ d b7 a2.out);have c4:=Kh (gE hd h5);clear h4 H1 h6 H4 b6 hd h h0 a7 hS a5 hP hQ;go_enter Try.func58,Try.ntmps58;go_upto_region 1 with fail;rw[<- b8.out,<- c9.out,<- c8.out];go_wp2_with fail;refine a9.out.mono ?_;rintro e w1 ⟨rfl,h2⟩;rw[c4.out];have e6:=h2.size;have d6:=Kh h2;have a4:=Kh (zB d9.out h2 (by simp));have a3:=Kh (zB d8.out h2 (by simp));have b1:=Kh (pminimal_any B w1 _ d n k (by omega) (a2.out.kept h2 (by simp)) HD.out h5);obtain⟨d0,d1,d2,d3⟩:=zF a4.out;clear h2 a9 c0 c1 c2 c3;go_wp2_with fail;refine b1.out.mono ?_;rintro e w2 ⟨v2,sv,rfl,⟨o,hs,sf,cf,sn,cn,rfl,ho,h9⟩,h8⟩;rw[min_trim HD.out]at h9 ⊢;obtain⟨R,hR⟩:∃ R,R=minD d k:=⟨_,rfl⟩;rw[<- hR]at h9 ⊢;have H7:R.letters=k:=by rw[hR];exact(iJ HD.out).hk
 have H6:R.start=0:=by rw[hR];rfl
 obtain⟨FL,H9⟩:∃ FL,FL=R.final.length:=⟨_,rfl⟩;obtain⟨NL,H8⟩:∃ NL,NL=R.next.length:=⟨_,rfl⟩;rw[H7,H6,<- H9,<- H8];have b0:=Kh hR;have c7:=Kh H7;have c6:=Kh H6;have a1:=Kh H9;have a0:=Kh H8;have d7:=Kh h9;have d5:=Kh h8;obtain⟨T3,H5⟩:∃ T3,T3=w2.heap.size:=⟨_,rfl⟩;obtain⟨w3,H2⟩:∃ w3,w3=w2.alloc (.cells #[.int .i64 (k:Int),.int .i64 0,.slice sf FL cf,.slice sn NL cn] 42):=⟨_,rfl⟩;have h3:=Ga w2 (.cells #[.int .i64 (k:Int),.int .i64 0,.slice sf FL cf,.slice sn NL cn] 42) none;have H0:=heap_alloc_new w2 (.cells #[.int .i64 (k:Int),.int .i64 0,.slice sf FL cf,.slice sn NL cn] 42);rw[<- H2]at h3 H0;rw[<- H5]at H0;have e5:=h8.size;have e4:=h3.size;have b9:=Kh H2;have c5:=Kh H5;have b2:=Kh h3;have h1:=zB (zB a3.out h8 (by simp)) h3 (by simp);have b3:=Kh h1;obtain⟨e0,e1,e2,e3⟩:=zF H0;obtain⟨q0,q1,q2,q3⟩:=zF h1;have f0:=zE h1 0;have f1:=zE h1 1;have f2:=zE h1 2;have f3:=zE h1 3;have e8:Q<T3:=by omega
 clear hR H7 H6 H9 H8 h9 h8 H2 H5 h3 H0 h1 d0 d1 d2 d3 b1 a2;go_upto_region 4 with fail;rw[<- b9.out,<- c5.out];go_wp2;obtain⟨a8,H3⟩:=uF b3.out (.int .i64 (k:Int)) (.int .i64 0) (.slice sf FL cf) (.slice sn NL cn);obtain⟨wz,a6⟩:∃ wz,wz=(((w3.setCell ⟨Q,0,none⟩ (.int .i64 (k:Int))).setCell ⟨Q,1,none⟩ (.int .i64 0)).setCell ⟨Q,2,none⟩ (.slice sf FL cf)).setCell ⟨Q,3,none⟩ (.slice sn NL cn):=⟨_,rfl⟩;rw[<- a6]at a8 H3 ⊢;clear a6;obtain⟨r0,r1,r2,r3⟩:=zF a8;clear e0 e1 e2 e3 q0 q1 q2 q3 f0 f1 f2 f3;refine bodyPost_ret (v:=.agg #[.int .i64 (k:Int),.int .i64 0,.slice sf FL cf,.slice sn NL cn]) (by simp[results,Try.results58,go_sem,r0,r1,r2,r3]) rfl ?_;have b4:w.grownBy wz none:=zA (zA (zA (zA d4.out d6.out (by simp)) d5.out (by simp)) b2.out (by simp)) H3 (fun k e=>by have h7:Q=k:=Oj e;omega);have b5:=(d7.out.grow b2.out).far H3 b3.out (by omega);refine⟨_,rfl,⟨o,hs,sf,cf,sn,cn,?_,by omega,by rw[<- b0.out];exact b5⟩,b4⟩;rw[<- b0.out,c6.out,c7.out,a1.out,a0.out]
theorem qGB (n:Nat)(h:n<=4096):∀ w:World,(Instr.makeSlice 39 (.int .i64 (n:Int)) (.int .i64 (n:Int))).run Try.prog w=.ok (.slice (some ⟨w.heap.size,0,none⟩) n n) (w.alloc (.cells (madeCells #[.bool false] n) 4)) :=
 fun w=>run_make_row' 39 4 (.bool false) 1 Try.underlying39 (by kernel_rfl) rfl .i64 .i64 n (by omega) (by omega) w
theorem qBG (n:Nat):(madeCells #[.bool false] n).toList=bls (List.replicate n false):=by
 have:=kU (z:=.bool false) rfl n;rw[Nat.mul_one]at this;rw[show bls (List.replicate n false)=List.replicate n (.bool false) by simp[bls]];exact this
def qHB:DfaV:=⟨0,0,[],[]⟩
theorem sO {x:Int}(h:-9223372036854775808<=x/\x<=9223372036854775807):IntKind.i64.wrap x=x:=by
 unfold IntKind.wrap;simp[IntKind.bits,IntKind.signed];omega
theorem qEL:ElemN Try.prog 117 119 2 (.agg #[.int .i64 0,.int .i64 0]) 16:=⟨by kernel_rfl,by kernel_rfl,by rfl,by decide⟩
def ordV (p:Int×Int):List Value:=[.int .i64 p.1,.int .i64 p.2]
def dE (l:List (Int×Int)):List Value:=l.flatMap ordV
theorem cV (l:List (Int×Int))(p:Int×Int):dE (l++[p])=dE l++ordV p:=by simp[dE]
theorem fC:∀ (l:List (Int×Int)) (i:Nat) (h:i<l.length),(dE l)[i * 2]?=some (.int .i64 l[i].1)/\(dE l)[i * 2+1]?=some (.int .i64 l[i].2)
 | [],i,h=>by simp at h
 | x::l,0,_=>⟨rfl,rfl⟩
 | x::l,i+1,h=>by
  have h1:=fC l i (by simpa using h)
  rw[show dE (x::l)=.int .i64 x.1::.int .i64 x.2::dE l from rfl,show (i+1) * 2=i * 2+1+1 by omega,show i * 2+1+1+1=(i * 2+1)+1+1 by omega]
  simpa using h1
def ordK (s b:Nat):List (Int×Int):=(List.range (b - max 1 (s - 4))).map fun j=>(((max 1 (s - 4)+j:Nat):Int),(s:Int) - ((max 1 (s - 4)+j:Nat):Int))
def ordC (s:Nat):List (Int×Int):=(List.range s).flatMap fun i=>ordK (i+1) (i+2)
def ordO (f b:Nat):List (Int×Int):=(List.range (b - f)).map fun j=>(((f+j:Nat):Int),0)
def ordL (kind:Int)(most:Nat):List (Int×Int):=if kind=7 then ordC most else ordO (if kind=1 then 0 else 1) (most+1)
theorem kP {s b:Nat}(h:max 1 (s - 4)<=b):ordK s (b+1)=ordK s b++[((b:Int),(s:Int) - (b:Int))]:=by
 unfold ordK;rw[show b+1 - max 1 (s - 4)=(b - max 1 (s - 4))+1 by omega,List.range_succ,List.map_append];simp only[List.map_cons,List.map_nil];rw[show max 1 (s - 4)+(b - max 1 (s - 4))=b by omega]
theorem nN (s:Nat):ordC (s+1)=ordC s++ordK (s+1) (s+2):=by
 unfold ordC;rw[List.range_succ,List.flatMap_append];simp
theorem kO {f b:Nat}(h:f<=b):ordO f (b+1)=ordO f b++[((b:Int),0)]:=by
 unfold ordO;rw[show b+1 - f=(b - f)+1 by omega,List.range_succ,List.map_append];simp only[List.map_cons,List.map_nil];rw[show f+(b - f)=b by omega]
def OrdI (w0 w:World)(sa:Option Addr)(n sc:Nat)(l:List (Int×Int)):Prop:=n=l.length/\w.ownsRow w0.heap.size 119 2 (.slice sa n sc) n (dE l)/\w0.grownBy w none
theorem ordO_len {f b:Nat}(hf:f<=b)(hb:b<=9):(ordO f b).length<=9:=by simp[ordO];omega
theorem qDT (s b:Nat):(ordK s b).length=b - max 1 (s - 4):=by simp[ordK]
theorem qDU:∀ s,s<=8->(ordC s).length<=5 * s
 | 0,_=>by simp[ordC]
 | s+1,h=>by
  rw[nN,List.length_append,qDT]
  have:=qDU s (by omega)
  omega
theorem orders_any (w:World)(kind:Int)(most:Nat)(hm:most<=8):
  Calls Try.prog 71 #[.int .i64 kind,.int .i64 (most:Int)] w fun e w'=>∃ sa n sc,e=.returned (.slice sa n sc)/\OrdI w w' sa n sc (ordL kind most):=by
 have H0:Hid (OrdI w w none 0 0 []):=Kh ⟨rfl,World.ownsRow_nil _ _ _ _,zL _ _⟩;go_enter Try.func71,Try.ntmps71;by_cases hk:kind=7
 ·have e1:(kind == 7)=true:=by rw[hk];rfl
  have HL:Hid (ordL kind most=ordC most):=Kh (by rw[ordL,if_pos hk]);clear hk;go_wp2
  go_loopg [5,6,7] (most+1) (fun gh v5 v6 v7 wr=>∃ (s n sc:Nat) (sa:Option Addr),gh+s=most+2/\1<=s/\s<=most+1/\v6=.int .i64 (s:Nat)/\v5=.slice sa n sc/\OrdI w wr sa n sc (ordC (s - 1)))
  case atStart=>exact⟨1,0,0,none,by omega,by omega,by omega,rfl,rfl,H0.out⟩
  case round =>
   clear H0;obtain⟨s,n,sc,sa,H4,a1,a0,rfl,rfl,hi⟩:=hrel;have H2:=Kh H4;have HI:=Kh hi;clear H4 hi;by_cases hs:s<=most
   ·have H6:(s:Int)<=most:=by omega
    obtain⟨f,hf⟩:∃ f:Nat,f=max 1 (s - 4):=⟨_,rfl⟩;have H7:1<=f/\f<=s:=by omega
    have HF:=Kh hf;have h2:(¬ (1:Int)<(s:Int) - 4/\((f:Nat):Int)=1)\/((1:Int)<(s:Int) - 4/\(s:Int) - 4=(f:Nat)):=by omega
    clear hf;rcases h2 with ⟨q1,q2⟩|⟨q1,q2⟩
    all_goals
     have Q2:=Kh q2;go_wp2;clear q1 q2
     go_loopg [5,7] (s+1 - f) (fun gh v5 v7 wr=>∃ (b n sc:Nat) (sa:Option Addr) (l:List (Int×Int)),gh+b=s+1/\f<=b/\v7=.int .i64 (b:Nat)/\v5=.slice sa n sc/\l=ordC (s - 1)++ordK s b/\OrdI w wr sa n sc l)
     case atStart =>
      have e0:ordC (s - 1)++ordK s f=ordC (s - 1):=by rw[ordK,<- HF.out,Nat.sub_self];simp
      exact⟨f,n,sc,sa,_,by omega,Nat.le_refl _,by first|rfl|(refine congrArg (Value.int .i64) ?_;have:=Q2.out;have:=HF.out;omega),rfl,e0.symm,HI.out⟩
     case round =>
      obtain⟨b,n,sc,sa,l,h5,h7,rfl,rfl,hl,hn,ho,hg⟩:=hrel;have h4:=Kh h5;have h3:=Kh hl;have HN:=Kh hn;have HO:=Kh ho;have HG:=Kh hg;clear h5 hl hn ho hg HI;by_cases hb:b<=s
      ·have h9:(b:Int)<=s:=by omega
       have h8:n<=100:=by
        have h1:=qDU (s - 1) (by omega);rw[HN.out,h3.out,List.length_append,qDT];omega
       go_wp2_with (first|(at_builtin;refine lW rfl _ _ _ rfl qEL w.heap.size (.slice sa n sc) n (dE l) rfl HO.out [.int .i64 (b:Nat),.int .i64 ((s:Int) - (b:Int))] rfl rfl ?z1 ?z2 ?z3 ?z4 ?_;(case z1=>(intro v hv;simp only[List.mem_cons,List.not_mem_nil,or_false]at hv;rcases hv with rfl|rfl<;>rfl));(case z2=>(unfold maxLen;omega));(case z3=>omega);(case z4=>exact HG.out.size);intro sa' sc' w2 h0 h6;have H1:=Kh h0;have H3:=Kh h6;clear h0 h6)|fail);go_wp2;go_roundg (s+1 - (b+1))
       case measure=>have:=h4.out;omega
       case rel=>exact⟨b+1,n+1,sc',sa',l++[((b:Int),(s:Int) - (b:Int))],by have:=h4.out;omega,by omega,by go_num,rfl,by rw[h3.out,List.append_assoc,kP (by rw[<- HF.out];exact h7)],by rw[List.length_append,<- HN.out];rfl,by rw[cV];exact H1.out,zA HG.out H3.out (fun j e=>(HO.out.lt j e).1)⟩
      ·have h9:¬ (b:Int)<=s:=by omega
       have H8:b=s+1:=by have:=h4.out;omega
       go_wp2;go_roundg (most+1 - s)
       case measure=>have:=H2.out;omega
       case rel =>
        have e9:ordC (s+1 - 1)=ordC (s - 1)++ordK s b:=by
         have:=nN (s - 1);rw[show s - 1+1=s by omega,show s - 1+2=s+1 by omega]at this;rw[Nat.add_sub_cancel,this,H8]
        exact⟨s+1,n,sc,sa,by have:=H2.out;omega,by omega,by omega,by go_num,rfl,by rw[e9,<- h3.out];exact⟨HN.out,HO.out,HG.out⟩⟩
   ·have H6:¬ (s:Int)<=most:=by omega
    have H5:s - 1=most:=by have:=H2.out;omega
    go_wp2;go_ret;exact⟨sa,n,sc,rfl,by rw[HL.out,<- H5];exact HI.out⟩
 ·have e1:(kind == 7)=false:=by rw[beq_eq_false_iff_ne];exact hk
  have HL:Hid (ordL kind most=ordO (if kind=1 then 0 else 1) (most+1)):=Kh (by rw[ordL,if_neg hk]);clear hk;obtain⟨f,hf⟩:∃ f:Nat,f=(if kind=1 then 0 else 1):=⟨_,rfl⟩;rw[<- hf]at HL;have H7:f<=1:=by rw[hf];split<;>omega
  have a2:=Kh hf;have REST:Hid (∀ (gh:Nat) (h:gh+f=most+1),f<=most+1):=Kh (fun _ _=>by omega)
  have h2:((kind == 1)=true/\(0:Int)=(f:Nat))\/((kind == 1)=false/\(1:Int)=(f:Nat)):=by
   by_cases h1:kind=1
   ·rw[if_pos h1]at hf;exact .inl ⟨by rw[h1];rfl,by rw[hf];rfl⟩
   ·rw[if_neg h1]at hf;exact .inr ⟨by rw[beq_eq_false_iff_ne];exact h1,by rw[hf];rfl⟩
  clear hf;rcases h2 with ⟨e2,q2⟩|⟨e2,q2⟩
  all_goals
   have Q2:=Kh q2;clear q2;go_wp2
   go_loopg [5,9] (most+1 - f) (fun gh v5 v9 wr=>∃ (b n sc:Nat) (sa:Option Addr) (l:List (Int×Int)),gh+b=most+1/\f<=b/\v9=.int .i64 (b:Nat)/\v5=.slice sa n sc/\l=ordO f b/\OrdI w wr sa n sc l)
   case atStart=>exact⟨f,0,0,none,[],by omega,Nat.le_refl _,by rw[<- Q2.out],rfl,by simp[ordO],H0.out⟩
   case round =>
    clear H0;obtain⟨b,n,sc,sa,l,h5,h7,rfl,rfl,hl,hn,ho,hg⟩:=hrel;have h4:=Kh h5;have h3:=Kh hl;have HN:=Kh hn;have HO:=Kh ho;have HG:=Kh hg;clear h5 hl hn ho hg;by_cases hb:b<=most
    ·have h9:(b:Int)<=most:=by omega
     have h8:n<=100:=by
      have h1:=ordO_len h7 (by omega:b<=9);rw[HN.out,h3.out];omega
     go_wp2_with (first|(at_builtin;refine lW rfl _ _ _ rfl qEL w.heap.size (.slice sa n sc) n (dE l) rfl HO.out [.int .i64 (b:Nat),.int .i64 (0)] rfl rfl ?z1 ?z2 ?z3 ?z4 ?_;(case z1=>(intro v hv;simp only[List.mem_cons,List.not_mem_nil,or_false]at hv;rcases hv with rfl|rfl<;>rfl));(case z2=>(unfold maxLen;omega));(case z3=>omega);(case z4=>exact HG.out.size);intro sa' sc' w2 h0 h6;have H1:=Kh h0;have H3:=Kh h6;clear h0 h6)|fail);go_wp2;go_roundg (most+1 - (b+1))
     case measure=>have:=h4.out;omega
     case rel=>exact⟨b+1,n+1,sc',sa',l++[((b:Int),0)],by have:=h4.out;omega,by omega,by go_num,rfl,by rw[h3.out,kO h7],by rw[List.length_append,<- HN.out];rfl,by rw[cV];exact H1.out,zA HG.out H3.out (fun j e=>(HO.out.lt j e).1)⟩
    ·have h9:¬ (b:Int)<=most:=by omega
     have H9:b=most+1:=by have:=h4.out;omega
     go_wp2;go_ret;exact⟨sa,n,sc,rfl,by rw[HL.out,<- H9,<- h3.out];exact⟨HN.out,HO.out,HG.out⟩⟩
theorem jY {w:World}{p e:Nat}{x0 x1 x2 x3 x4 x5:Value}(h:w.heap[p]?=some (.cells #[x0,x1,x2,x3,x4,x5] e (0,0))):w.cell? ⟨p,0,none⟩=some x0/\w.cell? ⟨p,1,none⟩=some x1/\w.cell? ⟨p,2,none⟩=some x2/\w.cell? ⟨p,3,none⟩=some x3/\w.cell? ⟨p,4,none⟩=some x4/\w.cell? ⟨p,5,none⟩=some x5:=by
 have c0:=zH h 0 (by simp);have c1:=zH h 1 (by simp);have c2:=zH h 2 (by simp);have c3:=zH h 3 (by simp);have c4:=zH h 4 (by simp);have c5:=zH h 5 (by simp);exact⟨by simpa using c0,by simpa using c1,by simpa using c2,by simpa using c3,by simpa using c4,by simpa using c5⟩
structure BoxS (B:Nat)(X:Nat->Prop)(o ty:Nat)(w0 wk:World)(rs:List RowS)(c:Array Value)(w:World):Prop where
 mem:EMem X w rs
 typ:∀ r∈rs,r.base=B/\r.e≠ty
 box:w.heap[o]?=some (.cells c ty (0,0))
 off:¬ X o
 size:w0.heap.size<=B
 old:w0.heap.size<=o
 base:B<=wk.heap.size
 grown:w0.grownBy w none
 kept:vZ X wk w
 wk:wk.heap.size<=w.heap.size
section
variable {B:Nat} {X:Nat->Prop} {o ty:Nat} {w0 wk w:World} {rs:List RowS} {c:Array Value}
theorem BoxS.grow (h:BoxS B X o ty w0 wk rs c w){w':World}(hg:w.grownBy w' none):BoxS B X o ty w0 wk rs c w' :=
 ⟨h.mem.grow hg,h.typ,zB h.box hg (by simp),h.off,h.size,h.old,h.base,zA h.grown hg (by simp),h.kept.trans (h.mem.keep hg),Nat.le_trans h.wk hg.size⟩
theorem BoxS.set (h:BoxS B X o ty w0 wk rs c w)(f:Nat)(u:Value):BoxS B X o ty w0 wk rs (c.setIfInBounds f u) (w.setCell ⟨o,f,none⟩ u):=by
 have hs:=heap_setCell_same w o f _ _ u h.box;have hg:=zC w ⟨o,f,none⟩ u;exact⟨h.mem.far hg (fun r hr=>zQ (h.mem.own r hr) h.box (h.typ r hr).2),h.typ,hs,h.off,h.size,h.old,h.base,zA h.grown hg (fun j e=>by have e:o=j:=Oj e;have:=h.old;omega),h.kept.trans (vZ.of_grown h.mem.lt hg (fun j e hx=>by have e:o=j:=Oj e;subst e;exact h.off hx)),Nat.le_trans h.wk hg.size⟩
theorem BoxS.own (h:BoxS B X o ty w0 wk rs c w){r:RowS}(hr:r∈rs):w.ownsRow r.base r.e r.sz r.v r.n r.xs:=h.mem.own r hr
theorem BoxS.add (h : BoxS B X o ty w0 wk rs c w){w' : World}(hg : w.grownBy w' none){e sz n : Nat}{v : Value}{xs : List Value}(ho : w'.ownsRow w.heap.size e sz v n xs)(he : e ≠ ty): BoxS B X o ty w0 wk (rs ++ [⟨B, e, v, n, xs, sz⟩]) c w' :=
 ⟨h.mem.add hg (xM ho (Nat.le_trans h.base h.wk)) (fun k hk => (ho.lt k hk).1), fun r hr => by
  rcases List.mem_append.1 hr with hr | hr
  ·exact h.typ r hr
  ·rw[List.mem_singleton]at hr; subst hr; exact⟨rfl, he⟩, zB h.box hg (by simp), h.off, h.size, h.old, h.base, zA h.grown hg (by simp), h.kept.trans (h.mem.keep hg), Nat.le_trans h.wk hg.size⟩
theorem qAV {w:World}{b e n g cap i:Nat}{xs:List Value}(h:w.ownsRow b e 1 (.slice (some ⟨g,0,none⟩) n cap) n xs)(hi:i<n)(u:Value):(w.setCell ⟨g,i,none⟩ u).ownsRow b e 1 (.slice (some ⟨g,0,none⟩) n cap) n (xs.set i u):=by
 refine⟨by rw[List.length_set];exact h.1,?_⟩;rcases h.2 with ⟨hv,_⟩|⟨g',cap',cur,hv,hb,hg,hnc,hcm,hcs,htake⟩
 ·simp at hv
 ·simp only[Value.slice.injEq,Option.some.injEq,Addr.mk.injEq]at hv
  obtain⟨⟨rfl,_⟩,_,rfl⟩:=hv;have hs:=heap_setCell_same w g i _ _ u hg;refine .inr ⟨g,cap,_,rfl,hb,hs,hnc,hcm,by simpa using hcs,?_⟩;rw[<- htake];simp[List.take_set]
theorem BoxS.put (h:BoxS B X o ty w0 wk rs c w){j g n cap b e i:Nat}{xs:List Value}(hr:rs[j]?=some ⟨b,e,.slice (some ⟨g,0,none⟩) n cap,n,xs,1⟩)(hi:i<n)(u:Value):BoxS B X o ty w0 wk (rs.set j ⟨b,e,.slice (some ⟨g,0,none⟩) n cap,n,xs.set i u,1⟩) c (w.setCell ⟨g,i,none⟩ u):=by
 have h0:=List.mem_of_getElem? hr;have ho:=h.mem.own _ h0;have ht:=h.typ _ h0;simp only at ho ht;have hg:=zC w ⟨g,i,none⟩ u;have h7:g≠o:=fun e1=>by subst e1;exact zQ ho h.box ht.2 rfl
 obtain⟨h4,h2⟩:=List.getElem?_eq_some_iff.1 hr;have h3:=List.pairwise_iff_getElem.1 h.mem.apart;refine⟨⟨fun r hr'=>?_,?_,fun r hr' k hk=>?_,fun k hk=>Nat.lt_of_lt_of_le (h.mem.lt k hk) hg.size⟩,fun r hr'=>?_,zB h.box hg (fun e1=>h7 (Oj e1)),h.off,h.size,h.old,h.base,zA h.grown hg (fun k e1=>?_),h.kept.trans (vZ.of_grown h.mem.lt hg (fun k e1 hx=>?_)),Nat.le_trans h.wk hg.size⟩
 ·obtain⟨q,hq,rfl⟩:=List.getElem_of_mem hr'
  rw[List.getElem_set];have h1:q<rs.length:=by simpa using hq
  split
  ·exact qAV ho hi u
  ·rename_i hne
   refine(h.mem.own _ (List.getElem_mem h1)).kept hg (.inr (fun e1=>?_));rcases Nat.lt_or_gt_of_ne hne with hlt|hlt
   ·exact h3 j q h4 h1 hlt g (by rw[h2];rfl) e1
   ·exact h3 q j h1 h4 hlt g e1 (by rw[h2];rfl)
 ·rw[List.pairwise_iff_getElem]
  intro p q hp hq h5;have h6:p<rs.length:=by simpa using hp
  have h1:q<rs.length:=by simpa using hq
  have:=h3 p q h6 h1 h5;rw[List.getElem_set,List.getElem_set]
  split<;>split
  ·omega
  ·rename_i e1 e2;subst e1;rw[h2]at this;exact this
  ·rename_i e1 e2;subst e2;rw[h2]at this;exact this
  ·exact this
 ·rcases List.mem_or_eq_of_mem_set hr' with hr'|rfl
  ·exact h.mem.offX r hr' k hk
  ·exact h.mem.offX _ h0 k hk
 ·rcases List.mem_or_eq_of_mem_set hr' with hr'|rfl
  ·exact h.typ r hr'
  ·exact ht
 ·have e1:g=k:=Oj e1
  have:=(ho.lt g rfl).1;have:=h.size;omega
 ·have e1:g=k:=Oj e1
  subst e1;exact h.mem.offX _ h0 g rfl hx
end
open Go.Maps
section
variable {B:Nat} {X:Nat->Prop} {o ty:Nat} {w0 wk w w':World} {rs:List RowS} {c:Array Value}
theorem BoxS.rebase (h:BoxS B X o ty w0 wk rs c w):BoxS B X o ty w0 w rs c w :=
 ⟨h.mem,h.typ,h.box,h.off,h.size,h.old,Nat.le_trans h.base h.wk,h.grown,vZ.refl _ _,Nat.le_refl _⟩
theorem BoxS.fresh (h : BoxS B X o ty w0 wk rs c w)(hg : w.grownBy w' none){Y : Nat -> Prop}(hY : ∀ k, Y k -> w.heap.size <= k /\ k < w'.heap.size): BoxS B (fun k => X k \/ Y k) o ty w0 w' rs c w' :=
 ⟨h.mem.fresh hg hY, h.typ, zB h.box hg (by simp), fun e => by
  rcases e with e | e
  ·exact h.off e
  ·have := (hY o e).1
   have := zK h.box
   omega, h.size, h.old, Nat.le_trans (Nat.le_trans h.base h.wk) hg.size, zA h.grown hg (by simp), vZ.refl _ _, Nat.le_refl _⟩
theorem BoxS.far (h:BoxS B X o ty w0 wk rs c w){mb:Nat}(hg:w.grownBy w' (some mb))(hr:∀ r∈rs,r.v.ownBlock≠some mb)(hx:¬ X mb)(ho:o≠mb)(hold:w0.heap.size<=mb):BoxS B X o ty w0 wk rs c w' :=
 ⟨h.mem.far hg hr,h.typ,zB h.box hg (fun e=>ho (Oj e).symm),h.off,h.size,h.old,h.base,zA h.grown hg (fun j e=>by have e:mb=j:=Oj e;omega),h.kept.trans (vZ.of_grown h.mem.lt hg (fun j e hxx=>by have e:mb=j:=Oj e;subst e;exact hx hxx)),Nat.le_trans h.wk hg.size⟩
theorem BoxS.appAt (h:BoxS B X o ty w0 wk rs c w){j:Nat}{r:RowS}(hr:rs[j]?=some r){v':Value}{n':Nat}{us:List Value}(ho:w'.ownsRow r.base r.e r.sz v' n' (r.xs++us))(hg:w.grownBy w' r.v.ownBlock)(hm:qH w w' r.v v'):BoxS B X o ty w0 wk (rs.set j ⟨r.base,r.e,v',n',r.xs++us,r.sz⟩) c w':=by
 have h0:=List.mem_of_getElem? hr;have h1:=h.mem.own _ h0;have ht:=h.typ _ h0;have h2:∀ k,r.v.ownBlock=some k->B<=k/\k≠o/\¬ X k:=fun k hk=>⟨by have:=(h1.lt k hk).1;rw[ht.1]at this;exact this,fun e=>by subst e;exact zQ h1 h.box ht.2 hk,h.mem.offX r h0 k hk⟩;refine⟨h.mem.appAt hr ho hg hm,fun s hs=>?_,zB h.box hg (fun e=>(h2 o e).2.1 rfl),h.off,h.size,h.old,h.base,zA h.grown hg (fun k e=>Nat.le_trans h.size (h2 k e).1),h.kept.trans (vZ.of_grown h.mem.lt hg (fun k e=>(h2 k e).2.2)),Nat.le_trans h.wk hg.size⟩;rcases List.mem_or_eq_of_mem_set hs with hs|rfl
 ·exact h.typ s hs
 ·exact ht
theorem BoxS.stand (h : BoxS B X o ty w0 wk rs c w){mb : Nat}(hb : mb < w.heap.size)(hr : ∀ r ∈ rs, r.v.ownBlock ≠ some mb)(ho : o ≠ mb): BoxS B (fun q => X q \/ q = mb) o ty w0 w rs c w :=
  ⟨⟨h.mem.own, h.mem.apart, fun r hr' k hk hx => by
    rcases hx with hx | hx
    · exact h.mem.offX r hr' k hk hx
    · subst hx; exact hr r hr' hk, fun k hk => by
    rcases hk with hk | hk
    · exact h.mem.lt k hk
    · subst hk; exact hb⟩, h.typ, h.box, fun e => by
    rcases e with e | e
    · exact h.off e
    · exact ho e, h.size, h.old, Nat.le_trans h.base h.wk, h.grown, vZ.refl _ _, Nat.le_refl _⟩
theorem BoxS.less {X':Nat->Prop}(h:BoxS B X' o ty w0 wk rs c w)(hX:∀ q,X q->X' q):BoxS B X o ty w0 wk rs c w :=
 ⟨⟨h.mem.own,h.mem.apart,fun r hr k hk hx=>h.mem.offX r hr k hk (hX k hx),fun k hk=>h.mem.lt k (hX k hk)⟩,h.typ,h.box,fun e=>h.off (hX o e),h.size,h.old,h.base,h.grown,fun k hk=>h.kept k (hX k hk),h.wk⟩
end
theorem MapK.of_block {α:Type}{kt:TypeId}{V:α->Prop}{kv:α->Value}{w w':World}{b n c:Nat}{f:α->Option Nat}(h:MapK kt V kv w b n c f)(hb:w'.heap[b]?=w.heap[b]?):MapK kt V kv w' b n c f:=by
 obtain⟨D,⟨es,clock,h1,h2⟩,h3⟩:=h;exact⟨D,⟨es,clock,hb.trans h1,h2⟩,h3⟩
theorem yD {w:World}{base e sz n b:Nat}{v:Value}{xs:List Value}{es:Array (Value×Value)}{clock:Nat}(h:w.ownsRow base e sz v n xs)(hb:∃ es clock,w.heap[b]?=some (.map es clock)):v.ownBlock≠some b:=by
 obtain⟨es,clock,hb⟩:=hb;rcases h.2 with ⟨h1,_⟩|⟨g,cap,cur,h1,_,hg,_⟩
 ·rw[h1];simp[Value.ownBlock]
 ·rw[h1]
  intro e;have e:g=b:=by simpa [Value.ownBlock] using e
  subst e;rw[hb]at hg;simp at hg
theorem RowX.of_new {X:Nat->Prop}{w:World}{g n c:Nat}{f:List Nat}(h:Arr w g 3 (nats f))(hn:f.length=n)(hc:n<=c)(hm:c<=maxLen)(hX:X g):RowX X 3 w (.slice (some ⟨g,0,none⟩) n c) (nats f):=by
 subst hn;have:=h.rowT' (cap:=c) (by rw[zT];exact hc) hm;rw[zT]at this;exact⟨this,fun k hk=>by simp[Value.ownBlock]at hk;subst hk;exact hX⟩
def numE (els:List (List Nat))(f:List Nat):Option Nat:=if f∈els then some (els.idxOf f) else none
theorem qBC {els:List (List Nat)}{f:List Nat}(h:f ∉ els):(fun q=>if q=f then some els.length else numE els q)=numE (els++[f]):=by
 funext q;unfold numE;by_cases e:q=f
 ·subst e
  rw[if_pos rfl,if_pos (by simp),List.idxOf_append,if_neg h];simp
 ·rw[if_neg e]
  by_cases hq:q∈els
  ·rw[if_pos hq,if_pos (by simp[hq]),List.idxOf_append,if_pos hq]
  ·rw[if_neg hq,if_neg (by simp[hq,e])]
theorem make1o {P:Program}{w:World}{ops:Array Oper}{rest:List Oper}{o:Oper}{a:Act}{Q:Exit->Act->World->Prop}(hgd:o.guard=none)(l c:Operand)(t:TypeId)(ho:o.op=.makeSlice t l c){e:TypeId}{z:Value}{bytes:Nat}(E:ElemOk P t e z bytes)(hz:z.cells=#[z])(kl kc:IntKind)(L C:Int)(n:Nat)(hl:a.eval l=.int kl L)(hc:a.eval c=.int kc C)(hL:L=(n:Int))(hC:C=(n:Int))(hb:bytes * n<=281474976710656)(h63:n<=maxLen)(h:∀ w',w'.ownsRow w.heap.size e 1 (.slice (some ⟨w.heap.size,0,none⟩) n n) n (List.replicate n z)->w.grownBy w' none->w.heap.size<w'.heap.size->wpList P ops Q rest (a.put o.dst (.slice (some ⟨w.heap.size,0,none⟩) n n)) w'):wpList P ops Q (o::rest) a w:=by
 obtain⟨i,hi,h1,h2,h3⟩:=info_parts E.hi;refine wpList_make_full w hgd l c t ho w.heap.size e i z 1 E.ht hi h1 h2 kl kc L C n hl hc hL hC (by rw[h3];exact hb) h63 (Nat.le_refl _) ?_;intro w' h0 hg;have ha:=Arr.of_owns h0;rw[kU hz]at h0;exact h w' h0 hg ha.lt
end Go.Proofs.Ytjfdomfendbhfaa
namespace Go.Proofs.Ytjfdomfendbhfaa
open Go.RowKit
def zb (l:List Nat):List Int:=l.map fun(x:Nat)=>(x:Int)
def txtT (f:List Nat):ByteArray:=strOfNums (zb f)
theorem aZ (l:List Nat):(zb l).length=l.length:=by simp[zb]
def u8s (l:List Nat):List Value:=(zb l).map (Value.int .u8)
theorem dM (l:List Nat):(u8s l).length=l.length:=by simp[u8s,zb]
theorem gH (l:List Nat)(i x:Nat):(u8s l).set i (.int .u8 (x:Int))=u8s (l.set i x):=by simp[u8s,zb,List.map_set]
theorem u8s_replicate (n:Nat):u8s (List.replicate n 0)=List.replicate n (.int .u8 0):=by simp[u8s,zb]
theorem bO {w:World}{g:Nat}{l:List Nat}(h:Arr w g 5 (u8s l))(i:Nat)(hi:i<l.length):w.cell? ⟨g,i,none⟩=some (.int .u8 ((l.getD i 0:Nat):Int)):=by
 rw[h.cell i (by rw[dM];exact hi),zG hi];simp[u8s,zb]
theorem qCZ {f g:List Nat}(hf:∀ x∈f,x<256)(hg:∀ x∈g,x<256)(h:txtT f=txtT g):f=g:=by
 have h1:(zb f).map (fun n=>UInt8.ofNat n.toNat)=(zb g).map (fun n=>UInt8.ofNat n.toNat):=by
  have:=congrArg (fun s:ByteArray=>s.data.toList) h;simpa [txtT,strOfNums] using this
 simp only[zb,List.map_map]at h1;refine List.ext_getElem (by have:=congrArg List.length h1;simpa using this) fun i h2 h3=>?_;have h4:=congrArg (fun l=>l[i]?) h1;simp only[List.getElem?_map,List.getElem?_eq_getElem h2,List.getElem?_eq_getElem h3,Option.map_some,Option.some.injEq,Function.comp,Int.toNat_natCast]at h4;have h5:=congrArg UInt8.toNat h4;have h6:=hf _ (List.getElem_mem h2);have h7:=hg _ (List.getElem_mem h3);simp only[UInt8.toNat_ofNat']at h5;omega
theorem qCR:ElemOk Try.prog 106 5 (.int .u8 0) 1:=⟨Try.underlying106,by kernel_rfl,rfl⟩
def aB (letters:Int)(n:Int):Prop:=97<=n/\n<97+letters
def pL (letters:Int)(c:UInt8):Bool:=decide (97<=(c.toNat:Int)/\(c.toNat:Int) - 97<letters)
def zY (s:ByteArray)(letters:Int):Bool:=decide (1<=letters/\letters<=6/\s.size<=2048) && s.data.toList.all (pL letters)
theorem qI (s:ByteArray)(letters:Int)(k:Nat)(hk:k<s.size)(h:(s[k].toNat:Int)<97\/letters<=((s[k].toNat:Int) - 97) % 256):zY s letters=false:=by
 have hm:s[k]∈s.data.toList:=by
  have:s[k]=s.data[k]'(by simpa using hk):=rfl;rw[this];simp
 have h2:pL letters s[k]=false:=by
  have:=UInt8.toNat_lt s[k];simp[pL];omega
 unfold zY;rw[Bool.and_eq_false_iff];right;rw[List.all_eq_false];exact⟨_,hm,by simp[h2]⟩
theorem qEZ (s:ByteArray)(letters:Int)(k:Nat)(hk:k<s.size)(h:(s.data.toList.take k).all (pL letters)=true)(h1:97<=(s[k].toNat:Int)/\((s[k].toNat:Int) - 97) % 256<letters):(s.data.toList.take (k+1)).all (pL letters)=true:=by
 rw[List.take_succ_eq_append_getElem (by simpa using hk),List.all_append,h];have:s.data.toList[k]'(by simpa using hk)=s[k]:=rfl;have h3:=UInt8.toNat_lt s[k];simp[this,pL];omega
theorem lY (s:ByteArray)(letters:Int)(k:Nat)(hk:s.size<=k)(h:1<=letters/\letters<=6/\s.size<=2048)(ha:(s.data.toList.take k).all (pL letters)=true):zY s letters=true:=by
 rw[List.take_of_length_le (by simpa using hk)]at ha;simp[zY,ha,h]
theorem pU (s:ByteArray)(letters:Int)(w:World)(hs:s.size<=maxLen):
  Calls Try.prog 39 #[.string s,.int .i64 letters] w fun e w'=>e=.returned (.bool (zY s letters))/\w=w':=by
 unfold maxLen at hs;by_cases h1:letters<1
 ·go_enter Try.func39,Try.ntmps39
  go_wp2;go_ret;exact⟨yB (by simp[zY];omega),rfl⟩
 by_cases h2:6<letters
 ·go_enter Try.func39,Try.ntmps39
  go_wp2;go_ret;exact⟨yB (by simp[zY];omega),rfl⟩
 by_cases h3:2048<s.size
 ·go_enter Try.func39,Try.ntmps39
  go_wp2;go_ret;exact⟨yB (by simp[zY];omega),rfl⟩
 go_enter Try.func39,Try.ntmps39;go_wp2
 go_loop [19] (fun i=>∃ k:Nat,k<=s.size/\i=.int .i64 k/\(s.data.toList.take k).all (pL letters)=true) (fun i=>s.size - (intOf i).toNat)
 case atStart=>exact⟨0,Nat.zero_le _,rfl,rfl⟩
 case round =>
  obtain⟨k,hk,rfl,h0⟩:=hrel;have HA:=Kh h0;clear h0;by_cases hlt:k<s.size
  ·go_wp2
   ·go_ret
    exact⟨yB (by rw[eq_comm];exact qI s letters k hlt (by omega)),rfl⟩
   ·go_round
    case rel=>exact⟨k+1,by omega,by go_num,qEZ s letters k hlt HA.out (by omega)⟩
    case measure=>simp[intOf];omega
   ·go_ret
    exact⟨yB (by rw[eq_comm];exact qI s letters k hlt (by omega)),rfl⟩
  ·go_wp2
   go_ret;exact⟨yB (by rw[eq_comm];exact lY s letters k (by omega) (by omega) HA.out),rfl⟩
def sZ (letters:Int):Nat->List Int->List Int×Bool
 | 0,l=>(l,false)
 | i+1,l=>if l.getD i 0 - 97<letters - 1 then (l.set i (l.getD i 0+1),true) else sZ letters i (l.set i 97)
theorem nextAt_stop {letters:Int}{j:Nat}{c:List Int}(hj:j<c.length)(h:c[j] - 97<letters - 1):sZ letters (j+1) c=(c.set j (c[j]+1),true):=by
 have h3:c.getD j 0=c[j]:=by simp[List.getD,hj]
 unfold sZ;rw[h3,if_pos h]
theorem nextAt_go {letters:Int}{j:Nat}{c:List Int}(hj:j<c.length)(h:¬ c[j] - 97<letters - 1):sZ letters (j+1) c=sZ letters j (c.set j 97):=by
 have h3:c.getD j 0=c[j]:=by simp[List.getD,hj]
 rw[sZ,h3,if_neg h]
theorem next_word (g cap:Nat)(l:List Int)(letters:Int)(w:World)(h1:1<=letters)(h6:letters<=6)(hok:∀ n∈l,aB letters n)(hlen:l.length<=1000)(hown:Arr w g 5 (l.map (Value.int .u8))):
  Calls Try.prog 125 #[.slice (some ⟨g,0,none⟩) l.length cap,.int .i64 letters] w fun e w' =>
   e=.returned (.bool (sZ letters l.length l).2)/\Arr w' g 5 ((sZ letters l.length l).1.map (Value.int .u8))/\w.grownBy w' (some g):=by
 go_enter Try.func125,Try.ntmps125;go_wp2
 go_loopw [5] (fun i wr=>∃ (c:List Int) (k:Nat),i=.int .i64 ((k:Int) - 1)/\k<=l.length/\c.length=l.length/\(∀ n∈c,aB letters n)/\sZ letters k c=sZ letters l.length l /\
   Arr wr g 5 (c.map (Value.int .u8))/\w.grownBy wr (some g))
  (fun i _=>(intOf i+1).toNat)
 case atStart=>exact⟨l,l.length,rfl,Nat.le_refl _,rfl,hok,rfl,hown,zL _ _⟩
 case round =>
  clear hown;obtain⟨c,k,rfl,hk,h4,h3,hn,hown,hg⟩:=hrel;have CL:=Kh h4;have NX:=Kh hn;clear h4 hn;by_cases hp:0<k
  ·obtain⟨j,rfl⟩:∃ j,k=j+1:=⟨k - 1,by omega⟩
   have hj:j<c.length:=(by rw[CL.out];omega);have hc:=hown.cell j (by simpa using hj);have hf:=hown.frozen j;rw[List.getElem_map]at hc;have hm:=h3 _ (List.getElem_mem hj);have h7:=hm.1;have h5:=hm.2;have h2:=hown.set j (by simpa using hj) (.int .u8 (c[j]+1));have h0:=hown.set j (by simpa using hj) (.int .u8 97);have e1:((j+1:Nat):Int) - 1=j:=by omega
   rw[e1];have OW:=Kh hown;have S1:=Kh h2;have S2:=Kh h0;clear hown h2 h0 e1 hm;by_cases hlt:c[j] - 97<letters - 1
   ·go_wp2
    go_ret;rw[<- NX.out,nextAt_stop hj (by omega)];exact⟨rfl,by rw[List.map_set];exact S1.out,zD hg (zC _ _ _)⟩
   ·go_wp2
    go_roundw
    case rel =>
     refine⟨c.set j 97,j,rfl,by omega,by simp[CL.out],?_,by rw[<- NX.out,nextAt_go hj (by omega)],by rw[List.map_set];exact S2.out,zD hg (zC _ _ _)⟩;intro n hn;rcases List.mem_or_eq_of_mem_set hn with hn|hn
     ·exact h3 n hn
     ·subst hn;unfold aB;omega
    case measure=>simp[intOf]
  ·obtain rfl:k=0:=by omega
   go_wp2;go_ret;rw[<- NX.out];exact⟨rfl,hown,hg⟩
def lex (letters:Nat):Nat->List (List Int)
 | 0=>[[]]
 | n+1=>(lex letters n).flatMap fun w=>(List.range letters).map fun(c:Nat)=>w++[97+(c:Int)]
def kS (letters:Nat)(l:List Int):List Int×Bool:=sZ letters l.length l
def Run (letters:Nat):List (List Int)->Prop
 | []=>False
 | [w]=>(kS letters w).2=false
 | w::v::r=>kS letters w=(v,true)/\Run letters (v::r)
theorem qFO {letters:Nat}:∀ {L:List (List Int)} (_:Run letters L) (i:Nat) (hi:i<L.length),(kS letters L[i]).2=decide (i+1<L.length)/\∀ h:i+1<L.length,(kS letters L[i]).1=L[i+1]
 | [w],h,0,_=>by
  have h':(kS letters w).2=false:=h
  exact⟨by simpa using h',by simp⟩
 | w::v::r,h,0,_=>⟨by simp[h.1],fun _=>by simp[h.1]⟩
 | w::v::r,h,i+1,hi=>by
  have:=qFO h.2 i (by simpa using hi)
  simpa using this
theorem nextAt_front (letters:Int)(c:Int):∀ (i:Nat) (w:List Int),i<=w.length->sZ letters i (w++[c])=((sZ letters i w).1++[c],(sZ letters i w).2):=by
 intro i
 induction i with
 | zero=>intro w _;rfl
 | succ i ih =>
  intro w hi;have h1:(w++[c]).getD i 0=w.getD i 0:=by simp[List.getD,List.getElem?_append_left (show i<w.length by omega)]
  unfold sZ;rw[h1,List.set_append_left _ _ (by omega),List.set_append_left _ _ (by omega)]
  split
  ·rfl
  ·exact ih _ (by simpa using (show i<=w.length by omega))
theorem bB (letters:Nat)(w:List Int)(c:Nat)(hc:c<letters):kS letters (w++[97+(c:Int)])=if c+1<letters then (w++[97+((c+1:Nat):Int)],true) else ((kS letters w).1++[97],(kS letters w).2):=by
 unfold kS;rw[List.length_append,List.length_singleton];have h1:(w++[97+(c:Int)]).getD w.length 0=97+(c:Int):=by simp[List.getD]
 rw[sZ,h1];by_cases h:c+1<letters
 ·rw[if_pos (by omega),if_pos h]
  simp;omega
 ·rw[if_neg (by omega),if_neg h,List.set_append_right _ _ (Nat.le_refl _)]
  simp only[Nat.sub_self,List.set_cons_zero];exact nextAt_front _ _ _ _ (Nat.le_refl _)
def block (letters:Nat)(w:List Int)(c:Nat):List (List Int):=(List.range' c (letters - c)).map fun(c:Nat)=>w++[97+(c:Int)]
theorem mS {letters c:Nat}(w:List Int)(h:c<letters):block letters w c=(w++[97+(c:Int)])::block letters w (c+1):=by
 unfold block;rw[show letters - c=(letters - (c+1))+1 by omega,List.range'_succ];rfl
theorem block_nil {letters c:Nat}(w:List Int)(h:letters<=c):block letters w c=[]:=by
 unfold block;rw[show letters - c=0 by omega];rfl
theorem kV (letters n:Nat):lex letters (n+1)=(lex letters n).flatMap fun w=>block letters w 0:=by
 simp[lex,block,List.range_eq_range']
theorem qAL {letters:Nat}(w:List Int)(rest:List (List Int))(hend:(rest=[]/\(kS letters w).2=false)\/∃ v r,rest=(v++[97])::r/\kS letters w=(v,true)/\Run letters rest):∀ (d c:Nat),letters=c+d->0<d->Run letters (block letters w c++rest):=by
 intro d
 induction d with
 | zero=>intro c _ h;omega
 | succ d ih =>
  intro c hc _;rw[mS w (by omega)];by_cases hd:d=0
  ·subst hd
   rw[block_nil w (by omega),List.cons_append,List.nil_append];have hs:=bB letters w c (by omega);rw[if_neg (by omega)]at hs;rcases hend with ⟨rfl,h⟩|⟨v,r,rfl,h,hr⟩
   ·show (kS letters _).2=false
    rw[hs];exact h
   ·refine⟨?_,hr⟩
    rw[hs,h]
  ·have hi:=ih (c+1) (by omega) (by omega)
   rw[mS w (by omega)]at hi ⊢;refine⟨?_,hi⟩;rw[bB letters w c (by omega),if_pos (by omega)]
theorem qDK {letters:Nat}(h1:0<letters):∀ {L:List (List Int)},Run letters L->Run letters (L.flatMap fun w=>block letters w 0)
 | [w],h=>by
  have:=qAL w [] (.inl ⟨rfl,h⟩) letters 0 (by omega) h1
  simpa using this
 | w::v::r,h=>by
  have hr:=qDK h1 h.2
  rw[List.flatMap_cons]
  refine qAL w _ (.inr ⟨v,block letters v 1++r.flatMap fun w=>block letters w 0,?_,h.1,hr⟩) letters 0 (by omega) h1
  rw[List.flatMap_cons,mS v h1]
  simp
theorem qFN {letters:Nat}(h1:0<letters):∀ n,Run letters (lex letters n)
 | 0=>rfl
 | n+1=>by rw[kV];exact qDK h1 (qFN h1 n)
theorem sM {letters:Nat}:∀ {n:Nat} {w:List Int},w∈lex letters n->w.length=n/\∀ x∈w,aB letters x
 | 0,w,h=>by simp[lex]at h;subst h;simp
 | n+1,w,h=>by
  simp only[lex,List.mem_flatMap,List.mem_map,List.mem_range]at h
  obtain⟨v,hv,c,hc,rfl⟩:=h
  obtain⟨h1,h2⟩:=sM hv
  refine⟨by simp[h1],fun x hx=>?_⟩
  rcases List.mem_append.1 hx with hx|hx
  ·exact h2 x hx
  ·simp at hx;subst hx;unfold aB;omega
theorem vN (letters:Nat):∀ n,(lex letters n).length=letters ^ n
 | 0=>rfl
 | n+1=>by
  rw[kV,List.length_flatMap]
  have:(lex letters n).map (fun w=>(block letters w 0).length)=List.replicate (letters ^ n) letters:=by
   rw[<- vN letters n,<- List.map_const'];refine List.map_congr_left fun w _=>?_;simp[block]
  rw[this,List.sum_replicate_nat,Nat.pow_succ]
theorem qEC {letters:Nat}(h1:0<letters):∀ n,∃ r,lex letters n=List.replicate n 97::r
 | 0=>⟨[],rfl⟩
 | n+1=>by
  obtain⟨r,hr⟩:=qEC h1 n
  rw[kV,hr,List.flatMap_cons,mS _ h1]
  refine⟨block letters (List.replicate n 97) (0+1)++List.flatMap (fun w=>block letters w 0) r,?_⟩
  rw[List.cons_append,List.replicate_succ']
  simp
end Go.Proofs.Ytjfdomfendbhfaa
