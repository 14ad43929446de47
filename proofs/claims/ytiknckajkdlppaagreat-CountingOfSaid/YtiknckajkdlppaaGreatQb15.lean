/- Part 15 of the proof. -/
import Derived.Test.YtiknckajkdlppaaGreatQb14
import Derived.Deep.OwnRows
set_option linter.unusedVariables false
set_option linter.unusedSimpArgs false
set_option maxRecDepth 100000
set_option maxHeartbeats 16000000
namespace Go.Proofs.YtiknckajkdlppaaGreat
open Go.Maps Go.RowKit
variable{wm w5:World}{v x0 x1 x2:Value}{M:DfaV}{n b m o5 b5 rb rf cR r0 ro rc:Nat}{im:List Nat}{a0:Act}{l:Array Bool}
theorem rT.apart {w:World}{k fb fo fc off cap:Nat}{RB RO RC:Nat->Nat}(h:rT wm w v M)(hv:v=dAgg k (st0 M) fb fo fc b off cap n)(a9:DAt w.heap.size w M n k fb fo fc b off cap RB RO RC){ty o:Nat}{cs:Array Value}{m:Nat×Nat}(ho:w.heap[o]?=some (.cells cs ty m))(h1:ty≠3)(h2:ty≠22)(h3:ty≠4):b≠o/\fb≠o/\∀q,q<n->RB q≠o:=by
 obtain⟨o',hs,sf,cf,sn,cn,e,_,hb⟩:=h;have hn:=a9.ok.n1;rw[hv]at e;simp only[dAgg,Value.agg.injEq,Array.mk.injEq,List.cons.injEq,Value.slice.injEq,Value.int.injEq,true_and,and_true]at e;obtain⟨_,_,⟨rfl,e1,rfl⟩,⟨rfl,e2,rfl⟩⟩:=e;have hN:=hb.ownN;have hF:=hb.ownF;have h5:=zR hN ho (fun e=>h2 e.symm);have h6:=zR hF ho (fun e=>h3 e.symm);refine⟨fun e=>h5 (by rw[e];rfl),fun e=>h6 (by rw[e];rfl),fun q hq e=>?_⟩;obtain⟨nb,e3,_,_,h0⟩:=yV hN (by rw[a9.ok.nl];exact hn);simp only[Option.some.injEq,Addr.mk.injEq]at e3;obtain⟨rfl,rfl,_⟩:=e3;have h4:q<hs.length:=by rw[hb.rows.1,a9.ok.nl];exact hq
 have c1:=h0.cell q h4;have c2:=a9.hd q hq;rw[Nat.zero_add,c1]at c2;have c3:=hb.rows.2 q h4 (by rw[a9.ok.nl];exact hq);rw[Oj c2]at c3;rcases c3 with ⟨c4,_⟩|⟨b2,off2,cap2,cur,m2,c4,_,_,_,c5,_⟩
 ·simp at c4
 simp only[Value.slice.injEq,Option.some.injEq,Addr.mk.injEq]at c4;rw[<-c4.1.1,e,ho]at c5;simp at c5;exact h1 c5.2.1
inductive SysA (w0 we:World)(B o gb k a:Nat)(done:List (List Nat))(w:World):Prop
 | mk (X:Nat->Prop) (hsD:List Value) (hB:BoxS B X o 101 w0 w (⟨B,22,.slice (some ⟨gb,0,none⟩) k k,k,hsD++List.replicate (k-a) (.slice none 0 0),1⟩::[]) #[.slice (some ⟨gb,0,none⟩) k k,.slice none 0 0,.int .i64 ((0:Nat):Int)] w)
  (hD:xX X 3 nats w hsD done) (hl:hsD.length=a/\done.length=a) (hG:we.grownBy w (some o)) (hgb:we.heap.size<=gb) (hB0:we.heap.size<=B)
section
variable {w0 we w:World} {B o gb k a q r:Nat} {done:List (List Nat)} {cur:List Nat}
theorem SysA.go (h:SysA w0 we B o gb k a done w)(ha:a<k):SysG w0 we B o gb k a 0 (k-(a+1)) done [] w:=by
 obtain⟨X,h0,hB,hD,⟨h2,h1⟩,hG,h3,h4⟩:=h;have hS:=hB.nil (e:=3) (sz:=1) jd;rw[show k-a=(k-(a+1))+1 by omega,List.replicate_succ]at hS;exact⟨X,h0,none,0,hS,hD,⟨h2,h1,yo,rfl⟩,hG,h3,h4⟩
theorem SysG.fin (h:SysG w0 we B o gb k a q r done cur w):SysA w0 we B o gb k (a+1) (done++[cur]) w:=by
 obtain⟨X,h0,sR,cR,hB,hD,⟨h2,h1,h6,h5⟩,hG,h3,h4⟩:=h;have hR:=BoxS.retire (rs:=⟨B,22,.slice (some ⟨gb,0,none⟩) k k,k,h0++.slice sR q cR::List.replicate r (.slice none 0 0),1⟩::[]) (r:=⟨B,3,.slice sR q cR,q,nats cur,1⟩) hB;have hX:RowX (fun j=>X j\/(Value.slice sR q cR).ownBlock=some j) 3 w (.slice sR q cR) (nats cur):=RowX.of_owns (hB.own (r:=⟨B,3,.slice sR q cR,q,nats cur,1⟩) yq) (fun j hj=>.inr hj);refine⟨_,h0++[.slice sR q cR],?_,(hD.mono (fun j hj=>.inl hj)).snoc hX,⟨by simp[h2],by simp[h1]⟩,hG,h3,h4⟩;rw[show k-(a+1)=r by omega,List.append_assoc];exact hR
theorem SysA.full (h:SysA w0 we B o gb k k done w):SysF w0 we B o gb k done w:=by
 obtain⟨X,h0,hB,hD,⟨h1,h3⟩,hG,h4,h2⟩:=h;rw[Nat.sub_self,List.replicate_zero,List.append_nil]at hB;exact⟨X,h0,hB,hD,h1,hG,h2⟩
theorem SysA.g (h:SysA w0 we B o gb k a done w):we.grownBy w (some o):=by
 obtain⟨X,h0,hB,hD,hl,hG,_⟩:=h;exact hG
theorem SysG.g (h:SysG w0 we B o gb k a q r done cur w):we.grownBy w (some o):=by
 obtain⟨X,h0,sR,cR,hB,hD,hl,hG,_⟩:=h;exact hG
theorem SysA.cell (h:SysA w0 we B o gb k a done w):w.cell? ⟨o,0,none⟩=some (.slice (some ⟨gb,0,none⟩) k k):=by
 obtain⟨X,h0,hB,hD,_⟩:=h;have q0:=zJ hB.box 0;simpa only[sPd,sPe,sPf] using q0
end
theorem qTX {w:World}{base e cN:Nat}{sN:Option Addr}(h:w.ownsRow base e 3 (.slice sN 1 cN) 1 [x0,x1,x2]):∃pb,sN=some ⟨pb,0,none⟩/\1<=cN/\cN<=maxLen/\w.cell? ⟨pb,0,none⟩=some x0/\w.cell? ⟨pb,1,none⟩=some x1/\w.cell? ⟨pb,2,none⟩=some x2:=by
 rcases h.2 with ⟨h',h0⟩|⟨g,cap,cur,h1,hb,hg,hnc,hcm,hcs,htake⟩
 ·simp at h'
 simp only[Value.slice.injEq]at h1;obtain⟨rfl,-,rfl⟩:=h1
 have ht:∀i (u:Value),[x0,x1,x2][i]?=some u->w.cell? ⟨g,i,none⟩=some u:=fun i u hu=>by
  rw[cell_of_row w g i _ _ _ hg,<-Array.getElem?_toList];rw[<-htake]at hu;rw[List.getElem?_take]at hu
  split at hu
  ·exact hu
  cases hu
 exact⟨g,rfl,hnc,hcm,ht 0 _ rfl,ht 1 _ rfl,ht 2 _ rfl⟩
def qQA (w0:World)(o n k:Nat)(M:DfaV)(w':World):Prop:=∃(gb pb cp:Nat) (fA:Option Addr) (fC:Nat),
 w'.heap[o]?=some (.cells #[.slice (some ⟨gb,0,none⟩) k k,.slice (some ⟨pb,0,none⟩) 1 cp,.int .i64 (n:Int)] 101 (0,0))/\nV w'.heap.size w' (.slice (some ⟨gb,0,none⟩) k k) (pH M n k) /\
 w'.cell? ⟨pb,0,none⟩=some (.int .i64 ((st0 M:Nat):Int))/\w'.cell? ⟨pb,1,none⟩=some (.slice fA n fC)/\w'.cell? ⟨pb,2,none⟩=some (.int .i64 0)/\1<=cp/\cp<=maxLen/\RowT w'.heap.size 4 w' (.slice fA n fC) (bls M.final)/\w0.grownBy w' none
theorem qDF {w0 w:World}{o k:Nat}(a8:w.heap[o]?=some (.cells #[.slice none 0 0,.slice none 0 0,.int .i64 0] 101 (0,0)))(h0:w0.grownBy w none)(ho:w0.heap.size<=o)(a9:rT wm w v M)(hM:VD M n k)(a5:n<=512):Calls Tryz.prog 68 #[.pointer (some ⟨o,0,none⟩),v] w fun e w'=>(32<n/\e=.returned (.int .i64 3)/\w0.grownBy w' none)\/(n<=32/\e=.returned (.int .i64 0)/\qQA w0 o n k M w'):=by
 obtain⟨fb,fo,fc,b,off,cap,RB,RO,RC,hv,h8⟩:=a9.dfa.at hM;obtain⟨d4,e4,d7⟩:=a9.apart hv h8 a8 jd jd jd;subst hv;obtain⟨we,H6⟩:=Nm (w.alloc (.cells #[.int .i64 (k:Int),.int .i64 ((st0 M:Nat):Int),.slice (some ⟨fb,fo,none⟩) n fc,.slice (some ⟨b,off,none⟩) n cap] 29));obtain⟨mx,a2⟩:=Nm w.heap.size;have h6:w.grownBy we none:=by rw[H6];exact Ga w _ none
 have H4:=heap_alloc_new w (.cells #[.int .i64 (k:Int),.int .i64 ((st0 M:Nat):Int),.slice (some ⟨fb,fo,none⟩) n fc,.slice (some ⟨b,off,none⟩) n cap] 29);rw[<-H6,<-a2]at H4;have h3:=zD a8 h6;have H7:o≠mx:=fun e=>by rw[e,H4]at h3;simp at h3
 obtain⟨m0,m1,m2,m3⟩:=zM H4;have H3:mx<we.heap.size:=zS H4;have a4:b<we.heap.size:=Nat.lt_of_lt_of_le h8.bltw h6.size;have e0:st0 M<n:=by have:=hM.sn;have:=hM.s0;unfold st0;omega
 have g2:=hM.k1;have e3:=hM.k6;have g1:=hM.n1;have H1:=h8.cap;have c9:=H1.1;have c8:cap<=9223372036854775807:=by have:=H1.2;unfold maxLen at this;omega
 have e5:=h8.fcap.1
 have b9:∀q a,q<n->a<k->nx M q a<n:=fun q a hq ha=>by
  have h1:=hM.lo q a hq ha;have h2:=hM.hi q a hq ha;unfold nx;show (ent M.next q a).toNat<n;omega
 have keep:∀(W:World),we.grownBy W (some o)->∀(bb i:Nat) (u:Value),bb≠o->we.cell? ⟨bb,i,none⟩=some u->W.cell? ⟨bb,i,none⟩=some u:=fun W hg bb i u hb hc=>(World.cell?_of_block (hg.block bb (World.block_lt_of_cell? _ _ hc) (fun e=>hb (Oj e)))).trans hc;have a0:Hid (∀W:World,we.grownBy W (some o)->W.cell? ⟨mx,0,none⟩=some (.int .i64 (k:Int))/\W.cell? ⟨mx,1,none⟩=some (.int .i64 ((st0 M:Nat):Int))/\W.cell? ⟨mx,2,none⟩=some (.slice (some ⟨fb,fo,none⟩) n fc)/\W.cell? ⟨mx,3,none⟩=some (.slice (some ⟨b,off,none⟩) n cap)):=Kh (fun W hg=>⟨keep W hg mx 0 _ H7.symm m0,keep W hg mx 1 _ H7.symm m1,keep W hg mx 2 _ H7.symm m2,keep W hg mx 3 _ H7.symm m3⟩);have f7:Hid (∀W:World,we.grownBy W (some o)->∀q,q<n->W.cell? ⟨b,off+q,none⟩=some (.slice (some ⟨RB q,RO q,none⟩) k (RC q))):=Kh (fun W hg q hq=>keep W hg b _ _ d4 (zN (h8.hd q hq) h6));have f8:Hid (∀W:World,we.grownBy W (some o)->∀q a,q<n->a<k->W.cell? ⟨RB q,RO q+a,none⟩=some (.int .i64 ((nx M q a:Nat):Int))):=Kh (fun W hg q a hq ha=>keep W hg (RB q) _ _ (d7 q hq) (zN (h8.el q a hq ha) h6));have d9:Hid (∀q,q<n->(k<=RC q/\RC q<=maxLen)/\RB q<we.heap.size):=Kh (fun q hq=>⟨h8.rcap q hq,Nat.lt_of_lt_of_le (h8.rlt q hq).2 h6.size⟩);obtain⟨f5,H5,f3,f6⟩:=Kd b9 h3 H6 a2
 have f9:Hid (∀W:World,we.grownBy W (some o)->RowT W.heap.size 4 W (.slice (some ⟨fb,fo,none⟩) n fc) (bls M.final)):=Kh (fun W hg=>by
  obtain⟨o',hs,sf,cf,sn,cn,e,_,hb⟩:=a9;simp only[dAgg,Value.agg.injEq,Array.mk.injEq,List.cons.injEq,Value.slice.injEq,Value.int.injEq,true_and,and_true]at e;obtain⟨_,_,⟨rfl,e1,rfl⟩,_⟩:=e;have hr:=RowT.of_owns hb.ownF;rw[<-e1]at hr
  exact((hr.kept h6 yq).kept hg (fun j hj=>.inr ⟨_,_,_,by have:=Oj hj;subst this;exact h3,jd⟩)).mono (Nat.le_trans h6.size hg.size))
 have b6:Hid (w0.grownBy we none):=Kh (zE h0 h6);have f4:=Kh ho;have q35:∀(W:World) (a:Option Addr) (n c n' c':Nat),(binOp .eql 27 (.slice a n c) (.slice none n' c')).run Tryz.prog W=.ok (.bool a.isNone) W:=fun W a n c n' c'=>Lib.run_eql_slice_nil W _ _ a n c n' c' Tryz.underlying27;have b0:=zJ h3 0;have b2:=zJ h3 2;simp only[sPd,sPe,sPf]at b0 b2;have f1:=zB h3 0;clear a9 h8 d4 e4 d7 a8 h0 H4 h6 keep b9 H6 a2 h3 m0 m1 m3;unfold dAgg;go_enter Tryz.func68,Tryz.ntmps68;go_upto_region 1 with fail;rw[<-f3.out,<-f6.out];go_upto_region 2 with fail;by_cases hn:32<n
 ·have e1:decide (32<(n:Int))=true:=by rw[decide_eq_true_eq];omega
  go_wp2;go_ret;exact .inl ⟨hn,rfl,b6.out⟩
 have e1:decide (32<(n:Int))=false:=by rw[decide_eq_false_iff_not];omega
 have H2:n<=32:=yo
 go_upto_region 5 with fail;have c0:=(a0.out we (zX _ _)).1;go_upto_region 6 with (first|(at_make;refine eD rfl _ _ _ rfl xT rfl .i64 .i64 _ _ k rfl rfl rfl rfl ?b1 ?b2 ?_;(case b1=>omega);(case b2=>(unfold maxLen;omega));intro w5 h5 H0 a3;(have b05:=zN b0 H0);(have f0:=zB (zD H5.out H0) 0))|fail)
 obtain⟨gb,H8⟩:=Nm we.heap.size;rw[<-H8]at h5⊢;have d3:=zD H5.out H0;have h4:w5.ownsRow we.heap.size 22 1 (.slice (some ⟨gb,0,none⟩) k k) k (List.replicate k (.slice none 0 0)):=by rw[<-H8];exact h5
 have d6:BoxS we.heap.size (fun _=>False) o 101 w0 w5 (⟨we.heap.size,22,.slice (some ⟨gb,0,none⟩) k k,k,List.replicate k (.slice none 0 0),1⟩::[]) #[.slice none 0 0,.slice none 0 0,.int .i64 ((0:Nat):Int)] w5 :=
  ⟨⟨fun r hr=>by rw[List.mem_singleton]at hr;subst hr;exact h4,yq,fun r hr j hj hx=>hx.elim,fun j hj=>hj.elim⟩,fun r hr=>by rw[List.mem_singleton]at hr;subst hr;exact⟨rfl,yq⟩,d3,fun h=>h,b6.out.size,f4.out,H0.size,zE b6.out H0,wG.refl _ _,Nat.le_refl _⟩
 have b3:=d6.set 0 (.slice (some ⟨gb,0,none⟩) k k);obtain⟨w6,a1⟩:=Nm (w5.setCell ⟨o,0,none⟩ (.slice (some ⟨gb,0,none⟩) k k));have d8:we.grownBy w6 (some o):=by rw[a1];exact zI (zE (zX we (some o)) H0) (zH w5 ⟨o,0,none⟩ _)
 rw[<-a1]at b3⊢;have hA:SysA w0 we we.heap.size o gb k 0 [] w6:=⟨_,[],b3.rebase,xX.nil,⟨rfl,rfl⟩,d8,by rw[H8];exact Nat.le_refl _,Nat.le_refl _⟩;have HA:=Kh hA;have q6:=hA.cell;clear h5 H0 a3 b05 f0 d3 h4 d6 b3 a1 d8 hA b0 b2 f1 H8;go_wp2
 go_loopg [6,7,34] k (fun gh a6 a7 i wr=>∃a:Nat,gh+a=k/\i=.int .i64 a/\SysA w0 we we.heap.size o gb k a ((pH M n k).take a) wr)
 case atStart=>exact⟨0,rfl,rfl,HA.out⟩
 clear HA q6;obtain⟨a,c7,rfl,hA⟩:=hrel;have b5:=Kh c7;have HA:=Kh hA;clear c7;by_cases ha:a<k
 ·have e8:(a:Int)<k:=yo
  have HS:=Kh (hA.go ha);clear hA;go_wp2
  go_loopg [7,38] n (fun gh a7 i wr=>∃q:Nat,gh+q=n/\i=.int .i64 q/\SysG w0 we we.heap.size o gb k a q (k-(a+1)) ((pH M n k).take a) ((colD M n a).take q) wr)
  case atStart=>exact⟨0,rfl,rfl,HS.out⟩
  clear HS;obtain⟨q,c6,rfl,hS⟩:=hrel;have b4:=Kh c6;have HS:=Kh hS;clear c6;by_cases hq:q<n
  ·have e2:(q:Int)<n:=yo
   have hg:=hS.g;have c3:=(a0.out _ hg).2.2.2;have c4:=f7.out _ hg q hq;have c5:=f8.out _ hg q a hq ha;have g0:Hid ((colD M n a).take q++[nx M q a]=(colD M n a).take (q+1)):=Kh (qCB hq).symm;clear hS hg;go_upto_region 12 with fail;refine qQS HS.out e3 hq H2 (Nat.lt_of_lt_of_le (f5.out q a hq ha) H2) c3 c4 c5 H1 (d9.out q hq).1 ⟨H3,a4,(d9.out q hq).2⟩ ?_;intro z41 z42 z43 z44 z45 z46 z47 z48 z49 z50 z51 z52 z53 z54 z55 z56 z57 z58 z59 z60 z61 z62 z63 z64 z65 z66 z67 z68 w9 h9;rw[g0.out]at h9;have H9:=Kh h9;clear h9 c3 c4 c5;go_wp2;go_roundg (n-(q+1))
   case measure=>have:=b4.out;omega
   exact⟨q+1,by have:=b4.out;omega,by go_num,H9.out⟩
  have b8:q=n:=by have:=b4.out;omega
  have e2:¬(q:Int)<n:=yo;have h9:=hS.fin;rw[b8,List.take_of_length_le (l:=colD M n a) (by rw[nI];exact Nat.le_refl _),<-cO ha]at h9;have H9:=Kh h9;clear h9 hS b8;go_wp2;go_roundg (k-(a+1))
  case measure=>have:=b5.out;omega
  exact⟨a+1,by have:=b5.out;omega,by go_num,H9.out⟩
 have d5:a=k:=by have:=b5.out;omega
 have e8:¬(a:Int)<k:=yo;have h9:=hA;rw[d5,List.take_of_length_le (by rw[uH];exact Nat.le_refl _)]at h9;have HF:=Kh h9.full;have hg:=hA.g;have c1:=(a0.out _ hg).2.1;have c2:=(a0.out _ hg).2.2.1;clear h9 hA d5 hg;go_upto_region 15 with fail;refine qQT HF.out c1 c2 (Nat.lt_of_lt_of_le e0 H2) H3 ?_;intro z71 z72 z73 z74 z75 z76 z77 z78 z79 z80 z81 z82 z83 z84 z85 z86 z87 z88 z89 z90 z91 z92 z93 w9 h9;obtain⟨X,b7,sN,cN,hB,hD,hl,hG,g3⟩:=h9;have d2:=zJ hB.box 2;simp only[sPd,sPe,sPf]at d2;have f2:=zB hB.box 2;obtain⟨HB,HD,HG⟩:=Kc hB hD hG;clear hB hD hG c1 c2;go_wp2;go_ret;have hZ:=HB.out.set 2 (.int .i64 (n:Int));simp only[sPa,sPb,sPc]at hZ;obtain⟨pb,rfl,e7,e6,d0,d1,d2⟩:=qTX (hZ.own (r:=⟨we.heap.size,115,.slice sN 1 cN,1,[.int .i64 ((st0 M:Nat):Int),.slice (some ⟨fb,fo,none⟩) n fc,.int .i64 ((0:Nat):Int)],3⟩) yq);have e9:=zI HG.out (zH w9 ⟨o,2,none⟩ (.int .i64 (n:Int)));have h7:qQA w0 o n k M (w9.setCell ⟨o,2,none⟩ (.int .i64 (n:Int))):=⟨gb,pb,cN,some ⟨fb,fo,none⟩,fc,hZ.box,⟨b7,RowT.of_owns (hZ.own (r:=⟨we.heap.size,22,.slice (some ⟨gb,0,none⟩) k k,k,b7,1⟩) yq),(HD.out.kept hZ.kept hZ.wk).rowsT⟩,d0,d1,d2,e7,e6,f9.out _ e9,hZ.grown⟩
 first|exact .inr ⟨H2,rfl,h7⟩|exact⟨H2,rfl,h7⟩|exact⟨rfl,h7⟩|exact⟨H2,h7⟩
theorem oF {w:World}{e:TypeId}{z:Value}(h:(madeCells #[z] m).toList=List.replicate m z)(hb:b<=w.heap.size)(hm:m<=maxLen):(w.alloc (.cells (madeCells #[z] m) e)).ownsRow b e 1 (.slice (some ⟨w.heap.size,0,none⟩) m m) m (List.replicate m z):=by
 refine⟨yq,.inr ⟨w.heap.size,m,_,rfl,hb,heap_alloc_new w _,Nat.le_refl _,hm,?_,?_⟩⟩
 ·rw[<-Array.length_toList,h];simp
 rw[h];simp
inductive pm7I (k m o5 b5 gb rb rf cR r0 ro rc:Nat)(im:List Nat)(w5:World)(a0:Act)(l:Array Bool)(a:Act)(w:World):Prop
 | mk (x42:Value) (x44:Value) (x49:Value) (x51:Value) (x52:Value) (x8:Value) (o:Nat) (ha:a=yK a0 [(42,x42),(44,x44),(49,x49),(51,x51),(52,x52),(8,x8)]) (HR:∀j∈[0,1,2,3,4,5,7,9,10,11,12,14],l.getD j true=true) (H6:Hid (l.getD 6 true=true->∃g,x42=.slice (some ⟨g,0,none⟩) m m/\w.ownsRow w5.heap.size 22 1 (.slice (some ⟨g,0,none⟩) m m) m (List.replicate m (.slice none 0 0)))) (H8:Hid (l.getD 8 true=true->∃g,x44=.slice (some ⟨g,0,none⟩) m m/\w.ownsRow w5.heap.size 9 1 (.slice (some ⟨g,0,none⟩) m m) m (List.replicate m (.string ⟨#[]⟩)))) (H13:Hid (l.getD 13 true=true->∃g c,x49=.slice (some ⟨g,0,none⟩) k c/\k<=c/\c<=maxLen/\w.ownsRow w5.heap.size 3 1 (.slice (some ⟨g,0,none⟩) k c) k (nats im))) (H15:Hid (l.getD 15 true=true->∃g,x51=.slice (some ⟨g,0,none⟩) m m/\w.ownsRow w5.heap.size 4 1 (.slice (some ⟨g,0,none⟩) m m) m (List.replicate m (.bool false)))) (H16:Hid (l.getD 16 true=true->l.getD 6 true=true/\l.getD 8 true=true/\l.getD 13 true=true/\l.getD 15 true=true/\x52=.agg #[.int .i64 k,x42,x44,x49,.slice none 0 0,x51])) (H17:Hid (l.getD 17 true=true->x8=.pointer (some ⟨o,0,none⟩)/\w5.heap.size<=o)) (B1:Hid (l.getD 17 true=true->(l.getD 18 true=false->w.heap[o]?=some (.cells #[.int .i64 0,.slice none 0 0,.slice none 0 0,.slice none 0 0,.slice none 0 0,.slice none 0 0] 39 (0,0))))) (B2:Hid (l.getD 18 true=true->l.getD 6 true=true/\l.getD 8 true=true/\l.getD 13 true=true/\l.getD 15 true=true/\l.getD 16 true=true/\l.getD 17 true=true/\w.heap[o]?=some (.cells #[.int .i64 k,x42,x44,x49,.slice none 0 0,x51] 39 (0,0)))) (HG:(w5.grownBy w none))
theorem qTV {k gb:Nat}{a:Act}{w:World}(hc:w5.cell? ⟨o5,0,none⟩=some (.slice (some ⟨gb,0,none⟩) k k)/\w5.cell? ⟨b5,6,none⟩=some (.slice (some ⟨rb,rf,none⟩) m cR)/\w5.cell? ⟨rb,rf,none⟩=some (.slice (some ⟨r0,ro,none⟩) k rc))(h:pm7I k m o5 b5 gb rb rf cR r0 ro rc im w5 a0 l a w):xM 18 (fun W=>W.cell? ⟨o5,0,none⟩=some (.slice (some ⟨gb,0,none⟩) k k)/\W.cell? ⟨b5,6,none⟩=some (.slice (some ⟨rb,rf,none⟩) m cR)/\W.cell? ⟨rb,rf,none⟩=some (.slice (some ⟨r0,ro,none⟩) k rc)) (fun _=>True) l w:=by
 obtain⟨x42,x44,x49,x51,x52,x8,o,ha,HR,H6,H8,h3,h2,h1,h0,B1,B2,HG⟩:=h;exact⟨⟨zN hc.1 HG,zN hc.2.1 HG,zN hc.2.2 HG⟩,fun _=>trivial⟩
theorem qTU {k gb:Nat}{a:Act}{w:World}(h:pm7I k m o5 b5 gb rb rf cR r0 ro rc im w5 a0 l a w):∀j∈[0,1,2,3,4,5,7,9,10,11,12,14],l.getD j true=true:=by
 obtain⟨x42,x44,x49,x51,x52,x8,o,ha,HR,H6,H8,h3,h2,h1,h0,B1,B2,HG⟩:=h;exact HR
theorem qJM {k gb:Nat}{v0 v1 v2 v3 v4 v5 v6 v7 v8 v9 y3 y4 y5 y6 y7 y8 y9 x3 x4 x5 x6 x7 x9 t0 t1 t2 t3 t4 t5 t6 t7 t8 t9 r1 r2 r3 r4 r5 r6 r7 r8 r9 q0 q1 q2 q3 q4 q5 q6 q7 q8 q9 p0 p1 p2 p3 p4 p5 p6 p7 p8 p9 o0 o1 o2 o3 o4 o6 o7 o8 o9 n0 n1 n2 n3 n4 n5 n6 n7 n8 n9 m0 m1 m2 m3 m8 m9 l0 l1 l2 l3 l4 l5 l6 l7 l8 l9 k6 k7 k8 k9 j0 j1 j2 j3 j4 j5 j6 j7 j8 j9 i0 i1 i2 i3 i4 i5 i6 i7 i8 i9 g0 g1 g2 g3 g4 g5 g7 g9 f6 f7 f8 f9 e0 e1 e2 e3 e4 e5 e6 e7 e8 e9 d0 d1 d2 d3 d4 d5 d6 d7 d8 d9 c0 c1 c2 c3 c4 c5 c7 c8 c9 b0 b1 b2 b3 b4 b6 b7 b8 b9 a1 a2 a3 a4 a5 a6 a7 a8 a9:Value}{dd:_}(z8:a0=⟨#[v0,v1,v2,v3,v4,v5,v6,v7,v8,v9,y3,y4,y5,y6,y7,y8,y9,x0,x1,x2,x3,x4,x5,x6,x7,x9,t0,t1,t2,t3,t4,t5,t6,t7,t8,t9,.pointer (some ⟨o5,0,none⟩),.pointer (some ⟨o5,0,none⟩),.pointer (some ⟨o5,0,none⟩),.slice (some ⟨gb,0,none⟩) k k,.int .i64 k,.int .i64 m,r1,.int .i64 m,r2,.pointer (some ⟨b5,6,none⟩),.slice (some ⟨rb,rf,none⟩) m cR,.pointer (some ⟨rb,rf,none⟩),.slice (some ⟨r0,ro,none⟩) k rc,r3,.int .i64 m,r4,r5,r6,r7,r8,r9,q0,q1,q2,q3,q4,q5,q6,q7,q8,q9,p0,p1,p2,p3,p4,p5,p6,p7,p8,p9,o0,o1,o2,o3,o4,o6,o7,o8,o9,n0,n1,n2,n3,n4,n5,n6,n7,n8,n9,m0,m1,m2,m3,m8,m9,l0,l1,l2,l3,l4,l5,l6,l7,l8,l9,k6,k7,k8,k9,j0,j1,j2,j3,j4,j5,j6,j7,j8,j9,i0,i1,i2,i3,i4,i5,i6,i7,i8,i9,g0,g1,g2,g3,g4,g5,g7,g9,f6,f7,f8,f9,e0,e1,e2,e3,e4,e5,e6,e7,e8,e9,d0,d1,d2,d3,d4,d5,d6,d7,d8,d9,c0,c1,c2,c3,c4,c5,c7,c8,c9,b0,b1,b2,b3,b4,b6,b7,b8,b9,a1,a2,a3,a4,a5,a6,a7,a8,a9],dd⟩)(z9:∀w:World,(Instr.makeSlice 27 (.int .i64 (m:Int)) (.int .i64 (m:Int))).run Tryz.prog w=.ok (.slice (some ⟨w.heap.size,0,none⟩) m m) (w.alloc (.cells (madeCells #[(.slice none 0 0)] m) 22)))(y0:∀w:World,(Instr.makeSlice 37 (.int .i64 (m:Int)) (.int .i64 (m:Int))).run Tryz.prog w=.ok (.slice (some ⟨w.heap.size,0,none⟩) m m) (w.alloc (.cells (madeCells #[(.string ⟨#[]⟩)] m) 9)))(m4:∀w:World,(Instr.makeSlice 26 (.int .i64 (m:Int)) (.int .i64 (m:Int))).run Tryz.prog w=.ok (.slice (some ⟨w.heap.size,0,none⟩) m m) (w.alloc (.cells (madeCells #[(.bool false)] m) 4)))(y1:Hid ((madeCells #[(.slice none 0 0)] m).toList=List.replicate m (.slice none 0 0)))(y2:Hid ((madeCells #[(.string ⟨#[]⟩)] m).toList=List.replicate m (.string ⟨#[]⟩)))(m6:Hid ((madeCells #[(.bool false)] m).toList=List.replicate m (.bool false)))(m5:m<=maxLen)(z7:∀W:World,w5.grownBy W none->Calls Tryz.prog 83 #[.slice (some ⟨r0,ro,none⟩) k rc] W fun e w'=>∃g c,e=.returned (.slice (some ⟨g,0,none⟩) k c)/\k<=c/\c<=maxLen/\w'.ownsRow w5.heap.size 3 1 (.slice (some ⟨g,0,none⟩) k c) k (nats im)/\W.grownBy w' none)(m7:Array Oper)(Q7:Exit->Act->World->Prop):qI (mX Tryz.prog .any m7 Q7 (pm7I k m o5 b5 gb rb rf cR r0 ro rc im w5 a0)) 0 (rL Tryz.f70 7).toList:=by
 refine kT fun l a w h=>?_;have HH:=h;obtain⟨x42,x44,x49,x51,x52,x8,o,ha,HR,H6,H8,H5,H4,h5,H3,B1,B2,HG⟩:=h;have h4:=fun(x42 x44 x49 x51 x52 x8:Value)=>(show yK a0 [(42,x42),(44,x44),(49,x49),(51,x51),(52,x52),(8,x8)]=_ from by simp only[z8,yK,List.foldl_cons,List.foldl_nil,Act.put,sPa,sPb,sPc];exact rfl);refine⟨?s0,?s1,?s2,?s3,?s4,?s5,?s6,?s7,?s8,?s9,?s10,?s11,?s12,?s13,?s14,?s15,?s16,?s17,?s18,trivial⟩
 case s6 =>
  intro h3 h0 K hK;rw[ha,h4];go_simp;have z1:=oF (e:=22) y1.out HG.size m5;refine hK.out _ _ ?_;refine⟨(.slice (some ⟨w.heap.size,0,none⟩) m m),x44,x49,x51,x52,x8,o,(by rw[h4]),fun j hj=>zF (HR j hj),Kh (fun _=>⟨w.heap.size,rfl,z1⟩),Kh (fun h=>let ⟨g,e,ho⟩:=H8.out (zG jd h);⟨g,e,zZ ho (Ga w (.cells (madeCells #[(.slice none 0 0)] m) 22) none)⟩),Kh (fun h=>let ⟨g,c,e,h1,h2,ho⟩:=H5.out (zG jd h);⟨g,c,e,h1,h2,zZ ho (Ga w (.cells (madeCells #[(.slice none 0 0)] m) 22) none)⟩),Kh (fun h=>let ⟨g,e,ho⟩:=H4.out (zG jd h);⟨g,e,zZ ho (Ga w (.cells (madeCells #[(.slice none 0 0)] m) 22) none)⟩),(hs7A h5 h3),(hs7P H3),Kh (fun h h9=>zD (B1.out (zG jd h) (zK h9)) (Ga w (.cells (madeCells #[(.slice none 0 0)] m) 22) none)),(hs7A B2 h3),zE HG (Ga w (.cells (madeCells #[(.slice none 0 0)] m) 22) none)⟩
 case s8 =>
  intro h3 h0 K hK;rw[ha,h4];go_simp;have z1:=oF (e:=9) y2.out HG.size m5;refine hK.out _ _ ?_;refine⟨x42,(.slice (some ⟨w.heap.size,0,none⟩) m m),x49,x51,x52,x8,o,(by rw[h4]),fun j hj=>zF (HR j hj),Kh (fun h=>let ⟨g,e,ho⟩:=H6.out (zG jd h);⟨g,e,zZ ho (Ga w (.cells (madeCells #[(.string ⟨#[]⟩)] m) 9) none)⟩),Kh (fun _=>⟨w.heap.size,rfl,z1⟩),Kh (fun h=>let ⟨g,c,e,h1,h2,ho⟩:=H5.out (zG jd h);⟨g,c,e,h1,h2,zZ ho (Ga w (.cells (madeCells #[(.string ⟨#[]⟩)] m) 9) none)⟩),Kh (fun h=>let ⟨g,e,ho⟩:=H4.out (zG jd h);⟨g,e,zZ ho (Ga w (.cells (madeCells #[(.string ⟨#[]⟩)] m) 9) none)⟩),(hs7B h5 h3),(hs7P H3),Kh (fun h h9=>zD (B1.out (zG jd h) (zK h9)) (Ga w (.cells (madeCells #[(.string ⟨#[]⟩)] m) 9) none)),(hs7B B2 h3),zE HG (Ga w (.cells (madeCells #[(.string ⟨#[]⟩)] m) 9) none)⟩
 case s13 =>
  intro h3 h0 K hK;rw[ha,h4];go_simp
  go_at_call 83
  refine(z7 w HG).mono ?_;rintro e w6 ⟨g6,c6,rfl,A2,A3,H7,z0⟩;refine hK.out _ _ ?_;refine⟨x42,x44,(.slice (some ⟨g6,0,none⟩) k c6),x51,x52,x8,o,(by rw[h4]),fun j hj=>zF (HR j hj),Kh (fun h=>let ⟨g,e,ho⟩:=H6.out (zG jd h);⟨g,e,zZ ho z0⟩),Kh (fun h=>let ⟨g,e,ho⟩:=H8.out (zG jd h);⟨g,e,zZ ho z0⟩),Kh (fun _=>⟨g6,c6,rfl,A2,A3,H7⟩),Kh (fun h=>let ⟨g,e,ho⟩:=H4.out (zG jd h);⟨g,e,zZ ho z0⟩),Kh (fun h=>absurd (h5.out (zG jd h)).2.2.1 (by rw[h3];simp)),(hs7P H3),Kh (fun h h9=>zD (B1.out (zG jd h) (zK h9)) z0),Kh (fun h=>absurd (B2.out (zG jd h)).2.2.1 (by rw[h3];simp)),zE HG z0⟩
 case s15 =>
  intro h3 h0 K hK;rw[ha,h4];go_simp;have z1:=oF (e:=4) m6.out HG.size m5;refine hK.out _ _ ?_;refine⟨x42,x44,x49,(.slice (some ⟨w.heap.size,0,none⟩) m m),x52,x8,o,(by rw[h4]),fun j hj=>zF (HR j hj),Kh (fun h=>let ⟨g,e,ho⟩:=H6.out (zG jd h);⟨g,e,zZ ho (Ga w (.cells (madeCells #[(.bool false)] m) 4) none)⟩),Kh (fun h=>let ⟨g,e,ho⟩:=H8.out (zG jd h);⟨g,e,zZ ho (Ga w (.cells (madeCells #[(.bool false)] m) 4) none)⟩),Kh (fun h=>let ⟨g,c,e,h1,h2,ho⟩:=H5.out (zG jd h);⟨g,c,e,h1,h2,zZ ho (Ga w (.cells (madeCells #[(.bool false)] m) 4) none)⟩),Kh (fun _=>⟨w.heap.size,rfl,z1⟩),Kh (fun h=>absurd (h5.out (zG jd h)).2.2.2.1 (by rw[h3];simp)),(hs7P H3),Kh (fun h h9=>zD (B1.out (zG jd h) (zK h9)) (Ga w (.cells (madeCells #[(.bool false)] m) 4) none)),Kh (fun h=>absurd (B2.out (zG jd h)).2.2.2.1 (by rw[h3];simp)),zE HG (Ga w (.cells (madeCells #[(.bool false)] m) 4) none)⟩
 case s16 =>
  intro h3 h0 K hK;have DH6:=H6.out (zO (h0 ⟨6,.data⟩ yq rfl));have DH8:=H8.out (zO (h0 ⟨8,.data⟩ yq rfl));have DH13:=H5.out (zO (h0 ⟨13,.data⟩ yq rfl));have DH15:=H4.out (zO (h0 ⟨15,.data⟩ yq rfl));obtain⟨g6,rfl,z3⟩:=DH6;obtain⟨g8,rfl,z2⟩:=DH8;obtain⟨g13,c13,rfl,h8,H2,h7⟩:=DH13;obtain⟨g15,rfl,h6⟩:=DH15;rw[ha,h4];go_simp;refine hK.out _ _ ?_;refine⟨(.slice (some ⟨g6,0,none⟩) m m),(.slice (some ⟨g8,0,none⟩) m m),(.slice (some ⟨g13,0,none⟩) k c13),(.slice (some ⟨g15,0,none⟩) m m),(.agg #[.int .i64 k,(.slice (some ⟨g6,0,none⟩) m m),(.slice (some ⟨g8,0,none⟩) m m),(.slice (some ⟨g13,0,none⟩) k c13),.slice none 0 0,(.slice (some ⟨g15,0,none⟩) m m)]),x8,o,(by rw[h4]),fun j hj=>zF (HR j hj),Kh (fun _=>⟨g6,rfl,z3⟩),Kh (fun _=>⟨g8,rfl,z2⟩),Kh (fun _=>⟨g13,c13,rfl,h8,H2,h7⟩),Kh (fun _=>⟨g15,rfl,h6⟩),Kh (fun _=>⟨zF (zO (h0 ⟨6,.data⟩ yq rfl)),zF (zO (h0 ⟨8,.data⟩ yq rfl)),zF (zO (h0 ⟨13,.data⟩ yq rfl)),zF (zO (h0 ⟨15,.data⟩ yq rfl)),rfl⟩),(hs7P H3),Kh (fun h h9=>B1.out (zG jd h) (zK h9)),Kh (fun h=>absurd (B2.out (zG jd h)).2.2.2.2.1 (by rw[h3];simp)),HG⟩
 case s17 =>
  intro h3 h0 K hK;rw[ha,h4];go_simp;refine hK.out _ _ ?_;refine⟨x42,x44,x49,x51,x52,(.pointer (some ⟨w.heap.size,0,none⟩)),w.heap.size,(by rw[h4]),fun j hj=>zF (HR j hj),Kh (fun h=>let ⟨g,e,ho⟩:=H6.out (zG jd h);⟨g,e,zZ ho (Ga w (.cells #[.int .i64 0,.slice none 0 0,.slice none 0 0,.slice none 0 0,.slice none 0 0,.slice none 0 0] 39) none)⟩),Kh (fun h=>let ⟨g,e,ho⟩:=H8.out (zG jd h);⟨g,e,zZ ho (Ga w (.cells #[.int .i64 0,.slice none 0 0,.slice none 0 0,.slice none 0 0,.slice none 0 0,.slice none 0 0] 39) none)⟩),Kh (fun h=>let ⟨g,c,e,h1,h2,ho⟩:=H5.out (zG jd h);⟨g,c,e,h1,h2,zZ ho (Ga w (.cells #[.int .i64 0,.slice none 0 0,.slice none 0 0,.slice none 0 0,.slice none 0 0,.slice none 0 0] 39) none)⟩),Kh (fun h=>let ⟨g,e,ho⟩:=H4.out (zG jd h);⟨g,e,zZ ho (Ga w (.cells #[.int .i64 0,.slice none 0 0,.slice none 0 0,.slice none 0 0,.slice none 0 0,.slice none 0 0] 39) none)⟩),Kh (fun h=>⟨zF (h5.out (zG jd h)).1,zF (h5.out (zG jd h)).2.1,zF (h5.out (zG jd h)).2.2.1,zF (h5.out (zG jd h)).2.2.2.1,(h5.out (zG jd h)).2.2.2.2⟩),Kh (fun _=>⟨rfl,HG.size⟩),Kh (fun _ _=>heap_alloc_new w _),Kh (fun h=>absurd (B2.out (zG jd h)).2.2.2.2.2.1 (by rw[h3];simp)),zE HG (Ga w (.cells #[.int .i64 0,.slice none 0 0,.slice none 0 0,.slice none 0 0,.slice none 0 0,.slice none 0 0] 39) none)⟩
 case s18 =>
  intro h3 h0 K hK;have DH17:=H3.out (zO (h0 ⟨17,.data⟩ yq rfl));have DB1:=B1.out (zO (h0 ⟨17,.data⟩ yq rfl));have DH16:=h5.out (zO (h0 ⟨16,.data⟩ yq rfl));obtain⟨rfl,ho⟩:=DH17;obtain⟨z5,z4,H1,H0,rfl⟩:=DH16;have A0:=zO (h0 ⟨16,.data⟩ yq rfl);have z6:=zO (h0 ⟨17,.data⟩ yq rfl);obtain⟨g6,rfl,z3⟩:=H6.out z5;obtain⟨g8,rfl,z2⟩:=H8.out z4;obtain⟨g13,c13,rfl,h8,H2,h7⟩:=H5.out H1;obtain⟨g15,rfl,h6⟩:=H4.out H0;have hb:=DB1 h3;rw[ha,h4];obtain⟨k0,k1,k2,k3,k4,k5⟩:=zU hb;have f0:=zB hb 0;have f1:=zB hb 1;have f2:=zB hb 2;have f3:=zB hb 3;have f4:=zB hb 4;have f5:=zB hb 5;go_simp;obtain⟨A1,H9⟩:=uT hb (.int .i64 k) (.slice (some ⟨g6,0,none⟩) m m) (.slice (some ⟨g8,0,none⟩) m m) (.slice (some ⟨g13,0,none⟩) k c13) (.slice none 0 0) (.slice (some ⟨g15,0,none⟩) m m);refine hK.out _ _ ?_;refine⟨(.slice (some ⟨g6,0,none⟩) m m),(.slice (some ⟨g8,0,none⟩) m m),(.slice (some ⟨g13,0,none⟩) k c13),(.slice (some ⟨g15,0,none⟩) m m),(.agg #[.int .i64 k,(.slice (some ⟨g6,0,none⟩) m m),(.slice (some ⟨g8,0,none⟩) m m),(.slice (some ⟨g13,0,none⟩) k c13),.slice none 0 0,(.slice (some ⟨g15,0,none⟩) m m)]),(.pointer (some ⟨o,0,none⟩)),o,(by rw[h4]),fun j hj=>zF (HR j hj),Kh (fun _=>⟨g6,rfl,z3.kept H9 (.inr (zR z3 hb jd))⟩),Kh (fun _=>⟨g8,rfl,z2.kept H9 (.inr (zR z2 hb jd))⟩),Kh (fun _=>⟨g13,c13,rfl,h8,H2,h7.kept H9 (.inr (zR h7 hb jd))⟩),Kh (fun _=>⟨g15,rfl,h6.kept H9 (.inr (zR h6 hb jd))⟩),Kh (fun _=>⟨zF z5,zF z4,zF H1,zF H0,rfl⟩),Kh (fun _=>⟨rfl,ho⟩),Kh (fun _ h9=>yF h9),Kh (fun _=>⟨zF z5,zF z4,zF H1,zF H0,zF A0,zF z6,A1⟩),yM HG H9 (by show _<=o;omega)⟩
 all_goals exact hs7Z (qTU HH _ yq)
end Go.Proofs.YtiknckajkdlppaaGreat
namespace Go.Proofs.YtiknckajkdlppaaGreat
open Go.RowKit
variable{w w5:World}{b off k m P aC tC:Nat}{aA tA:Option Addr}{ac:List Bool}{a0 a:Act}{l:Array Bool}
def uZ (l:List ByteArray):List Value:=l.map .string
theorem qCI {α:Type}[BEq α][LawfulBEq α][DecidableEq α]:∀(xs ys:List α),Lib.allEq (fun x y=>x == y) xs ys=decide (xs=ys)
 | [],[]=>rfl
 | [],y::ys=>by simp[Lib.allEq]
 | x::xs,[]=>by simp[Lib.allEq]
 | x::xs,y::ys=>by
  rw[Lib.allEq,qCI xs ys,Bool.eq_iff_iff]
  simp
theorem cV (B C:Nat)(w:World)(v1 v2:Value)(xs ys:List Int)(h1:Row B w v1 (ints xs))(h2:Row C w v2 (ints ys))(hl:1<=xs.length):Calls Tryz.prog 47 #[v1,v2] w fun e w'=>e=.returned (.bool (decide (xs=ys)))/\w.grownBy w' none:=by
 by_cases he:xs.length=ys.length
 ·obtain⟨b1,o1,c1,rfl,_,_,m1,r1⟩:=h1.some_ (by rw[zL];omega)
  obtain⟨b2,o2,c2,rfl,_,_,m2,r2⟩:=h2.some_ (by rw[zL];omega);have k1:=h1.len_le;have k2:=h2.len_le;rw[zL]at k1 k2⊢;rw[zL];unfold maxLen at k1 k2;refine(Tryz.slices_Equal_int b1 o1 xs.length c1 b2 o2 ys.length c2 xs ys w (Nat.le_refl _) (Nat.le_refl _) yo yo (fun j hj=>r1.int j hj) (fun j hj=>r2.int j hj)).mono ?_;rintro e w' ⟨rfl,q,rfl⟩;rw[List.take_of_length_le (Nat.le_refl _),List.take_of_length_le (Nat.le_refl _)];exact⟨by rw[show (xs == ys)=decide (xs=ys) by rw[Bool.eq_iff_iff];simp],zT _ _ none⟩
 obtain⟨a1,c1,rfl⟩:=h1.shape;obtain⟨a2,c2,rfl⟩:=h2.shape;rw[zL,zL];exact(Tryz.slices_Equal_int_lens a1 a2 xs.length c1 ys.length c2 w he).mono fun e w' ⟨e1,e2⟩=>⟨by rw[e1,decide_eq_false (fun e=>he (by rw[e]))],by rw[e2];exact zX _ _⟩
theorem uE.str_ {zs:List ByteArray}(h:uE w b off (uZ zs))(i:Nat)(hi:i<zs.length):w.cell? ⟨b,off+i,none⟩=some (.string (zs.getD i ByteArray.empty)):=by
 rw[uE.map h i hi];simp[List.getD,List.getElem?_eq_getElem hi]
theorem uE.bool_ {zs:List Bool}(h:uE w b off (bls zs))(i:Nat)(hi:i<zs.length):w.cell? ⟨b,off+i,none⟩=some (.bool zs[i]!):=by
 rw[uE.map (f:=Value.bool) h i hi,getElem!_pos zs i hi]
theorem qHI (B C:Nat)(w:World)(v1 v2:Value)(xs ys:List ByteArray)(h1:Row B w v1 (uZ xs))(h2:Row C w v2 (uZ ys))(hl:1<=xs.length):Calls Tryz.prog 48 #[v1,v2] w fun e w'=>e=.returned (.bool (decide (xs=ys)))/\w.grownBy w' none:=by
 have l1:(uZ xs).length=xs.length:=by simp[uZ]
 have l2:(uZ ys).length=ys.length:=by simp[uZ]
 by_cases he:xs.length=ys.length
 ·obtain⟨b1,o1,c1,rfl,_,_,m1,r1⟩:=h1.some_ yo
  obtain⟨b2,o2,c2,rfl,_,_,m2,r2⟩:=h2.some_ yo;have k1:=h1.len_le;have k2:=h2.len_le;rw[l1]at k1⊢;rw[l2]at k2⊢;unfold maxLen at k1 k2;refine(Tryz.slices_Equal_string b1 o1 xs.length c1 b2 o2 ys.length c2 xs ys w (Nat.le_refl _) (Nat.le_refl _) yo yo (fun j hj=>r1.str_ j hj) (fun j hj=>r2.str_ j hj)).mono ?_;rintro e w' ⟨rfl,q,rfl⟩;rw[List.take_of_length_le (Nat.le_refl _),List.take_of_length_le (Nat.le_refl _)];exact⟨rfl,zT _ _ none⟩
 obtain⟨a1,c1,rfl⟩:=h1.shape;obtain⟨a2,c2,rfl⟩:=h2.shape;rw[l1,l2];exact(Tryz.slices_Equal_string_lens a1 a2 xs.length c1 ys.length c2 w he).mono fun e w' ⟨e1,e2⟩=>⟨by rw[e1,decide_eq_false (fun e=>he (by rw[e]))],by rw[e2];exact zX _ _⟩
theorem eL (B C:Nat)(w:World)(v1 v2:Value)(xs ys:List Bool)(h1:Row B w v1 (bls xs))(h2:Row C w v2 (bls ys))(hl:1<=xs.length)(a9:1<=ys.length):Calls Tryz.prog 49 #[v1,v2] w fun e w'=>e=.returned (.bool (decide (xs=ys)))/\w.grownBy w' none:=by
 obtain⟨b1,o1,c1,rfl,_,_,m1,r1⟩:=h1.some_ (by rw[yB];omega);obtain⟨b2,o2,c2,rfl,_,_,m2,r2⟩:=h2.some_ (by rw[yB];omega);have k1:=h1.len_le;have k2:=h2.len_le;rw[yB]at k1 k2⊢;rw[yB];unfold maxLen at k1 k2;refine(Tryz.slices_Equal_f49 Value.bool (fun x y=>x == y) (NeqAt.bool _ Tryz.underlying4) b1 o1 xs.length c1 b2 o2 ys.length c2 xs ys w (Nat.le_refl _) (Nat.le_refl _) yo yo (fun j hj=>r1.bool_ j hj) (fun j hj=>r2.bool_ j hj)).mono ?_;rintro e w' ⟨rfl,q,rfl⟩;rw[List.take_of_length_le (Nat.le_refl _),List.take_of_length_le (Nat.le_refl _),qCI];exact⟨rfl,zT _ _ none⟩
theorem qHW (B:Nat)(w:World)(v:Value)(f:List Bool)(h:Row B w v (bls f))(h1:1<=f.length)(hb:f.length<=1000000):Calls Tryz.prog 71 #[v] w fun e w'=>∃sa sc,e=.returned (.slice sa f.length sc)/\w'.ownsRow w.heap.size 4 1 (.slice sa f.length sc) f.length (bls f)/\w.grownBy w' none:=by
 obtain⟨b,off,cap,rfl,_,H0,h9,h7⟩:=h.some_ (by rw[yB];omega);rw[yB]at h⊢;obtain⟨n,hn⟩:=Nm f.length;have HN:=Kh hn;have HR:=Kh h
 have h8:Hid (∀u∈bls f,u.oneCell'=true):=Kh (fun u hu=>by
  obtain⟨y,_,rfl⟩:=List.mem_map.1 hu;rfl)
 rw[<-hn]at h1 hb HR⊢;have h2:=Ga w (.cells #[] 4) none;have h0:=jK (heap_alloc_new w (.cells #[] 4)) (Nat.le_refl _);obtain⟨w1,h3⟩:=Nm (w.alloc (.cells #[] 4));rw[<-h3]at h2 h0;have H2:=Kh (HR.out.kept h2 yq);obtain⟨h6,H3,H1⟩:=Kc h2 h0 h3;clear h H0 h9 h7 hn h2 h0 h3;have q4:∀(W:World) (a:Option Addr) (n c n' c':Nat),(binOp .eql 26 (.slice a n c) (.slice none n' c')).run Tryz.prog W=.ok (.bool a.isNone) W:=fun W a n c n' c'=>Lib.run_eql_slice_nil W _ _ a n c n' c' Tryz.underlying26;go_enter Tryz.func71,Tryz.ntmps71;go_wp2_with (first|(rw[<-H1.out];at_builtin;refine appR rfl (.tmp 5) (.tmp 6) _ rfl xK w.heap.size _ 0 [] rfl H3.out _ (bls f) rfl ⟨_,H2.out⟩ h8.out n ?a1 ?a2 ?a3 ?a4 ?_)|fail)
 case a1=>rw[yB];have:=HN.out;omega
 case a2=>unfold maxLen;omega
 case a3=>omega
 case a4=>exact h6.out.size
 intro sa sc w2 h4 h5;have HO:=Kh h4;have H4:=Kh h5;clear h4 h5;go_wp2;go_ret;exact⟨sa,sc,rfl,HO.out,zE h6.out H4.out (fun j e=>by cases e;exact Nat.le_refl _)⟩
def inR (n:Nat)(zs:List Int):Bool:=zs.all fun x=>decide (0<=x/\x<n)
theorem dH (B:Nat)(w:World)(v:Value)(zs:List Int)(n:Nat)(h:Row B w v (ints zs)):Calls Tryz.prog 66 #[v,.int .i64 (n:Int)] w fun e w'=>e=.returned (.bool (inR n zs))/\w'=w:=by
 have h2:=h.len_le;rw[zL]at h2;unfold maxLen at h2;by_cases h0:zs.length=0
 ·have hx:zs=[]:=List.eq_nil_of_length_eq_zero h0
  subst hx;obtain⟨a,c,rfl⟩:=h.nil_ rfl;clear h;go_enter Tryz.func66,Tryz.ntmps66;go_wp2
  go_loopg [6,9] 0 (fun g a6 i wr=>i=.int .i64 0/\wr=w)
  case atStart=>exact⟨rfl,rfl⟩
  obtain⟨rfl,rfl⟩:=hrel;go_wp2;go_ret;exact⟨rfl,rfl⟩
 obtain⟨b,o,c,rfl,_,h7,h6,hr⟩:=h.some_ (by rw[zL];omega);have R:=Kh hr;rw[zL]at h7⊢;clear h hr;unfold maxLen at h6;go_enter Tryz.func66,Tryz.ntmps66;go_wp2
 go_loopg [6,9] zs.length (fun g a6 i wr=>∃k:Nat,g+k=zs.length/\i=.int .i64 k/\inR n (zs.take k)=true/\wr=w)
 case atStart=>exact⟨0,rfl,rfl,rfl,rfl⟩
 obtain⟨k,hg,rfl,hn,rfl⟩:=hrel;have HG:=Kh hg;have HN:=Kh hn;clear hg hn;by_cases hk:k<zs.length
 ·have h8:(k:Int)<zs.length:=yo
  have ca:=R.out.int k hk;obtain⟨x,hx⟩:=Nm (zs.getD k 0);rw[<-hx]at ca;have HX:=Kh hx;clear hx;have h5:Hid (x∈zs):=Kh (by rw[HX.out,List.getD_eq_getElem?_getD,List.getElem?_eq_getElem hk];exact List.getElem_mem hk)
  have h3:¬(0<=x/\x<n)->inR n zs=false:=fun h=>by
   rw[inR,List.all_eq_false];exact⟨x,h5.out,by simpa using h⟩
  have h4:=Kh h3;clear h3;by_cases hx0:x<0
  ·go_wp2
   go_ret;exact⟨yQ (h4.out yo).symm,rfl⟩
  by_cases hxn:(n:Int)<=x
  ·go_wp2
   go_ret;exact⟨yQ (h4.out yo).symm,rfl⟩
  go_wp2;go_roundg (zs.length-(k+1))
  case measure=>have:=HG.out;omega
  refine⟨k+1,by have:=HG.out;omega,by go_num,?_,rfl⟩;have h1:=HN.out;unfold inR at h1⊢;rw[yH (d:=0) hk,List.all_append,h1,<-HX.out];simp;omega
 have HM:Hid (inR n zs=true):=Kh (by
  have:=HN.out
  rwa [List.take_of_length_le (by have:=HG.out;omega)]at this)
 go_wp2;go_ret;exact⟨yQ HM.out.symm,rfl⟩
open Go.Maps
inductive pa1I (k m P aC tC:Nat)(aA tA:Option Addr)(ac:List Bool)(w5:World)(a0:Act)(l:Array Bool)(a:Act)(w:World):Prop
 | mk (x12:Value) (x16:Value) (x17:Value) (x3:Value) (o:Nat) (ha:a=yK a0 [(12,x12),(16,x16),(17,x17),(3,x3)]) (HR:∀j∈[0,1,2,3,5,6,7],l.getD j true=true) (H4:Hid (l.getD 4 true=true->∃sa sc,x12=.slice sa m sc/\w.ownsRow w5.heap.size 4 1 (.slice sa m sc) m (bls ac))) (H8:Hid (l.getD 8 true=true->∃g,x16=.slice (some ⟨g,0,none⟩) m m/\w.ownsRow w5.heap.size 22 1 (.slice (some ⟨g,0,none⟩) m m) m (List.replicate m (.slice none 0 0)))) (H9:Hid (l.getD 9 true=true->l.getD 4 true=true/\l.getD 8 true=true/\x17=.agg #[.int .i64 k,.int .i64 0,x12,x16])) (H10:Hid (l.getD 10 true=true->x3=.pointer (some ⟨o,0,none⟩)/\w5.heap.size<=o)) (B1:Hid (l.getD 10 true=true->(l.getD 11 true=false->w.heap[o]?=some (.cells #[.int .i64 0,.int .i64 0,.slice none 0 0,.slice none 0 0] 29 (0,0))))) (B2:Hid (l.getD 11 true=true->l.getD 4 true=true/\l.getD 8 true=true/\l.getD 9 true=true/\l.getD 10 true=true/\w.heap[o]?=some (.cells #[.int .i64 k,.int .i64 0,x12,x16] 29 (0,0)))) (HG:(w5.grownBy w none))
theorem qTW (hc:w5.cell? ⟨P,0,none⟩=some (.int .i64 k)/\w5.cell? ⟨P,4,none⟩=some (.slice aA m aC)/\w5.cell? ⟨P,1,none⟩=some (.slice tA m tC))(h:pa1I k m P aC tC aA tA ac w5 a0 l a w):xM 11 (fun W=>W.cell? ⟨P,0,none⟩=some (.int .i64 k)/\W.cell? ⟨P,4,none⟩=some (.slice aA m aC)/\W.cell? ⟨P,1,none⟩=some (.slice tA m tC)) (fun _=>True) l w:=by
 obtain⟨x12,x16,x17,x3,o,ha,HR,H4,H8,H9,h0,B1,B2,HG⟩:=h;exact⟨⟨zN hc.1 HG,zN hc.2.1 HG,zN hc.2.2 HG⟩,fun _=>trivial⟩
theorem qDJ (h:pa1I k m P aC tC aA tA ac w5 a0 l a w):∀j∈[0,1,2,3,5,6,7],l.getD j true=true:=by
 obtain⟨x12,x16,x17,x3,o,ha,HR,H4,H8,H9,h0,B1,B2,HG⟩:=h;exact HR
theorem qJN {v0 v1 v2 v3 v4 v5 v6 v7 e5 e6 e7 e8 e9 d0 d1 d2 d3 d4 d5 d6 d7 d8 d9 c0 c1 c2 c3 c5 c7 c8 c9 b0 b1 b2 b3 b4 b5 b6 b7 b8 b9 a1 a2 a3 a4 a5 a6 a7:Value}{dd:_}(a9:a0=⟨#[v0,v1,v2,v3,v4,v5,v6,v7,.pointer (some ⟨P,0,none⟩),.int .i64 k,.pointer (some ⟨P,4,none⟩),.slice aA m aC,e5,.pointer (some ⟨P,1,none⟩),.slice tA m tC,.int .i64 m,e6,e7,e8,e9,d0,d1,d2,d3,d4,d5,d6,d7,d8,d9,c0,c1,c2,c3,c5,c7,c8,c9,b0,b1,b2,b3,b4,b5,b6,b7,b8,b9,a1,a2,a3,a4,a5,a6,a7],dd⟩)(e2:∀w:World,(Instr.makeSlice 27 (.int .i64 (m:Int)) (.int .i64 (m:Int))).run Tryz.prog w=.ok (.slice (some ⟨w.heap.size,0,none⟩) m m) (w.alloc (.cells (madeCells #[.slice none 0 0] m) 22)))(e4:Hid ((madeCells #[.slice none 0 0] m).toList=List.replicate m (.slice none 0 0)))(e3:m<=maxLen)(e1:∀W:World,w5.grownBy W none->Calls Tryz.prog 71 #[.slice aA m aC] W fun e w'=>∃sa sc,e=.returned (.slice sa m sc)/\w'.ownsRow w5.heap.size 4 1 (.slice sa m sc) m (bls ac)/\W.grownBy w' none)(a8:Array Oper)(Q7:Exit->Act->World->Prop):qI (mX Tryz.prog .any a8 Q7 (pa1I k m P aC tC aA tA ac w5 a0)) 0 (rL Tryz.f46 1).toList:=by
 refine⟨?s0,?s1,?s2,?s3,?s4,?s5,?s6,?s7,?s8,?s9,?s10,?s11,trivial⟩
 case s0 =>
  exact fun l a w h h1=>absurd (qDJ h 0 yq) (by rw[h1];simp)
 case s1 =>
  exact fun l a w h h1=>absurd (qDJ h 1 yq) (by rw[h1];simp)
 case s2 =>
  exact fun l a w h h1=>absurd (qDJ h 2 yq) (by rw[h1];simp)
 case s3 =>
  exact fun l a w h h1=>absurd (qDJ h 3 yq) (by rw[h1];simp)
 case s4 =>
  intro l a w h h1 h0 K hK;obtain⟨x12,x16,x17,x3,o,ha,HR,H4,H8,H9,h2,B1,B2,HG⟩:=h;subst ha;rw[a9];simp only[yK,List.foldl_cons,List.foldl_nil,Act.put,sPa,sPb,sPc];go_simp
  go_at_call 71
  refine(e1 w HG).mono ?_;rintro e w6 ⟨g6,c6,rfl,h3,h7⟩;refine hK.out _ _ ?_;refine⟨(.slice g6 m c6),x16,x17,x3,o,?fa4,fun j hj=>zF (HR j hj),Kh (fun _=>⟨g6,c6,rfl,h3⟩),Kh (fun h=>let ⟨g,e,ho⟩:=H8.out (zG jd h);⟨g,e,zZ ho h7⟩),(hs7A H9 h1),(hs7P h2),Kh (fun h h9=>zD (B1.out (zG jd h) (zK h9)) h7),(hs7A B2 h1),zE HG h7⟩
  case fa4=>rw[a9];simp only[yK,List.foldl_cons,List.foldl_nil,Act.put,sPa,sPb,sPc]
 case s5 =>
  exact fun l a w h h1=>absurd (qDJ h 5 yq) (by rw[h1];simp)
 case s6 =>
  exact fun l a w h h1=>absurd (qDJ h 6 yq) (by rw[h1];simp)
 case s7 =>
  exact fun l a w h h1=>absurd (qDJ h 7 yq) (by rw[h1];simp)
 case s8 =>
  intro l a w h h1 h0 K hK;obtain⟨x12,x16,x17,x3,o,ha,HR,H4,H8,H9,h2,B1,B2,HG⟩:=h;subst ha;rw[a9];simp only[yK,List.foldl_cons,List.foldl_nil,Act.put,sPa,sPb,sPc];go_simp;have H5:=oF (e:=22) e4.out HG.size e3;refine hK.out _ _ ?_;refine⟨x12,(.slice (some ⟨w.heap.size,0,none⟩) m m),x17,x3,o,?fa8,fun j hj=>zF (HR j hj),Kh (fun h=>let ⟨g,c,e,ho⟩:=H4.out (zG jd h);⟨g,c,e,zZ ho (Ga w (.cells (madeCells #[.slice none 0 0] m) 22) none)⟩),Kh (fun _=>⟨w.heap.size,rfl,H5⟩),(hs7B H9 h1),(hs7P h2),Kh (fun h h9=>zD (B1.out (zG jd h) (zK h9)) (Ga w (.cells (madeCells #[.slice none 0 0] m) 22) none)),(hs7B B2 h1),zE HG (Ga w (.cells (madeCells #[.slice none 0 0] m) 22) none)⟩
  case fa8=>rw[a9];simp only[yK,List.foldl_cons,List.foldl_nil,Act.put,sPa,sPb,sPc]
 case s9 =>
  intro l a w h h1 h0 K hK;obtain⟨x12,x16,x17,x3,o,ha,HR,H4,H8,H9,h2,B1,B2,HG⟩:=h;have DH4:=H4.out (zO (h0 ⟨4,.data⟩ yq rfl));have DH8:=H8.out (zO (h0 ⟨8,.data⟩ yq rfl));obtain⟨g4,c4,rfl,h5⟩:=DH4;obtain⟨g8,rfl,h4⟩:=DH8;subst ha;rw[a9];simp only[yK,List.foldl_cons,List.foldl_nil,Act.put,sPa,sPb,sPc];go_simp;refine hK.out _ _ ?_;refine⟨(.slice g4 m c4),(.slice (some ⟨g8,0,none⟩) m m),(.agg #[.int .i64 k,.int .i64 0,(.slice g4 m c4),(.slice (some ⟨g8,0,none⟩) m m)]),x3,o,?fa9,fun j hj=>zF (HR j hj),Kh (fun _=>⟨g4,c4,rfl,h5⟩),Kh (fun _=>⟨g8,rfl,h4⟩),Kh (fun _=>⟨zF (zO (h0 ⟨4,.data⟩ yq rfl)),zF (zO (h0 ⟨8,.data⟩ yq rfl)),rfl⟩),(hs7P h2),Kh (fun h h9=>B1.out (zG jd h) (zK h9)),Kh (fun h=>absurd (B2.out (zG jd h)).2.2.1 (by rw[h1];simp)),HG⟩
  case fa9=>rw[a9];simp only[yK,List.foldl_cons,List.foldl_nil,Act.put,sPa,sPb,sPc]
 case s10 =>
  intro l a w h h1 h0 K hK;obtain⟨x12,x16,x17,x3,o,ha,HR,H4,H8,H9,h2,B1,B2,HG⟩:=h;subst ha;rw[a9];simp only[yK,List.foldl_cons,List.foldl_nil,Act.put,sPa,sPb,sPc];go_simp;refine hK.out _ _ ?_;refine⟨x12,x16,x17,(.pointer (some ⟨w.heap.size,0,none⟩)),w.heap.size,?fa10,fun j hj=>zF (HR j hj),Kh (fun h=>let ⟨g,c,e,ho⟩:=H4.out (zG jd h);⟨g,c,e,zZ ho (Ga w (.cells #[.int .i64 0,.int .i64 0,.slice none 0 0,.slice none 0 0] 29) none)⟩),Kh (fun h=>let ⟨g,e,ho⟩:=H8.out (zG jd h);⟨g,e,zZ ho (Ga w (.cells #[.int .i64 0,.int .i64 0,.slice none 0 0,.slice none 0 0] 29) none)⟩),(hs7R H9),Kh (fun _=>⟨rfl,HG.size⟩),Kh (fun _ _=>heap_alloc_new w _),Kh (fun h=>absurd (B2.out (zG jd h)).2.2.2.1 (by rw[h1];simp)),zE HG (Ga w (.cells #[.int .i64 0,.int .i64 0,.slice none 0 0,.slice none 0 0] 29) none)⟩
  case fa10=>rw[a9];simp only[yK,List.foldl_cons,List.foldl_nil,Act.put,sPa,sPb,sPc]
 intro l a w h h1 h0 K hK;obtain⟨x12,x16,x17,x3,o,ha,HR,H4,H8,H9,h2,B1,B2,HG⟩:=h;have DH10:=h2.out (zO (h0 ⟨10,.data⟩ yq rfl));have DB1:=B1.out (zO (h0 ⟨10,.data⟩ yq rfl));have DH9:=H9.out (zO (h0 ⟨9,.data⟩ yq rfl));obtain⟨rfl,ho⟩:=DH10;obtain⟨H0,h8,rfl⟩:=DH9;have H3:=zO (h0 ⟨9,.data⟩ yq rfl);have H1:=zO (h0 ⟨10,.data⟩ yq rfl);obtain⟨g4,c4,rfl,h5⟩:=H4.out H0;obtain⟨g8,rfl,h4⟩:=H8.out h8;have hb:=DB1 h1;subst ha;rw[a9];simp only[yK,List.foldl_cons,List.foldl_nil,Act.put,sPa,sPb,sPc];obtain⟨k0,k1,k2,k3⟩:=zM hb;have f0:=zB hb 0;have f1:=zB hb 1;have f2:=zB hb 2;have f3:=zB hb 3;go_simp;obtain⟨H2,h6⟩:=vS hb (.int .i64 k) (.int .i64 0) (.slice g4 m c4) (.slice (some ⟨g8,0,none⟩) m m);refine hK.out _ _ ?_;refine⟨(.slice g4 m c4),(.slice (some ⟨g8,0,none⟩) m m),(.agg #[.int .i64 k,.int .i64 0,(.slice g4 m c4),(.slice (some ⟨g8,0,none⟩) m m)]),(.pointer (some ⟨o,0,none⟩)),o,?fa11,fun j hj=>zF (HR j hj),Kh (fun _=>⟨g4,c4,rfl,h5.kept h6 (.inr (zR h5 hb jd))⟩),Kh (fun _=>⟨g8,rfl,h4.kept h6 (.inr (zR h4 hb jd))⟩),Kh (fun _=>⟨zF H0,zF h8,rfl⟩),Kh (fun _=>⟨rfl,ho⟩),Kh (fun _ h9=>yF h9),Kh (fun _=>⟨zF H0,zF h8,zF H3,zF H1,H2⟩),yM HG h6 (by show _<=o;omega)⟩
 case fa11=>rw[a9];simp only[yK,List.foldl_cons,List.foldl_nil,Act.put,sPa,sPb,sPc]
end Go.Proofs.YtiknckajkdlppaaGreat
namespace Go.Proofs.YtiknckajkdlppaaGreat
open Go.RowKit
variable{i cg b5:Nat}{xs:List Value}{Q:Exit->Act->World->Prop}{v0 v1 v2 v3 v4 v6 s9 r0 r1 r2 r3 r4 r5 r6 r7 r8 r9 q0 q1 q3 q4 q5 q6 q7 q8 p0 p1 p2 p3 p4 p5 p6 p7 p8 p9 o0 o1 o2 o3 o4 o5 o6 o7 o8 o9 n0 n1 n2 n3 n4 n5 n6 n7 n8 x5 x6 x7 x9 t0 t1 t2 t3 t4 t5 t6 t7 t8 t9 s0 s1 s2 s3 s4 s5 s6 s7 n9 m0 m1 m2 m3 m4 m5 m6 m7 m8 m9 l0 l1 l2 l3 l4 l5 l6 l7 k0 k1 k2 k3 k4 k5 k6 k7 k8 k9 j0 j1 j2 j3 j4 j5 j6 j7 j8 j9 i0 i1 i2 i3 i4 i5 i6 i7 i8 i9 g0 g1 g2 g3 g4 g5 g6 g7 g8 g9 f0 f1 f2 f3 f4 f5 f6 f7 f8 e0 e1 e2 e3 e4 e5 e6 e7 e8 e9 d0 d1 d2 d3 d4 d5 d6 d7 d8 d9 c0 c1 c2 c3 c6 c7 c8 c9 b0 b1 b2 b3 b4 b6 b7 b8 b9 a0 a1 a2 a3 a4 a5 a6 a7 a8 s8 v9 l8 c4 c5 a9:Value}
theorem qKD (n:Nat)(h:n<=4096):∀w:World,(Instr.makeSlice 22 (.int .i64 (n:Int)) (.int .i64 (n:Int))).run Tryz.prog w=.ok (.slice (some ⟨w.heap.size,0,none⟩) n n) (w.alloc (.cells (madeCells #[.int .i64 0] n) 3)) :=
 fun w=>run_make_row' 22 3 (.int .i64 0) 8 Tryz.underlying22 yk rfl .i64 .i64 n yo yo w
theorem aL (n:Nat):(madeCells #[.int .i64 0] n).toList=nats (List.replicate n 0):=by
 have:=mK (z:=.int .i64 0) rfl n;rw[Nat.mul_one]at this;rw[yW];exact this
open Go.Maps
inductive MonS (w6:World)(o m k tg wg ig ic pg:Nat)(im:List Nat)(hsT:List Value)(done:List (List Nat))(ws:List Value)(ps:List Bool)(tl:List RowS)(w:World):Prop
 | mk (X:Nat->Prop) (hB:BoxS w6.heap.size X o 39 w6 w (⟨w6.heap.size,22,.slice (some ⟨tg,0,none⟩) m m,m,hsT,1⟩::⟨w6.heap.size,9,.slice (some ⟨wg,0,none⟩) m m,m,ws,1⟩::⟨w6.heap.size,3,.slice (some ⟨ig,0,none⟩) k ic,k,nats im,1⟩::⟨w6.heap.size,4,.slice (some ⟨pg,0,none⟩) m m,m,bls ps,1⟩::tl) #[.int .i64 (k:Int),.slice (some ⟨tg,0,none⟩) m m,.slice (some ⟨wg,0,none⟩) m m,.slice (some ⟨ig,0,none⟩) k ic,.slice none 0 0,.slice (some ⟨pg,0,none⟩) m m] w) (hT:xX X 3 nats w (hsT.take done.length) done)
section
variable {w6 w w':World} {o m k tg wg ig ic pg:Nat} {im:List Nat} {hsT:List Value} {done:List (List Nat)} {ws:List Value} {ps:List Bool} {tl:List RowS}
theorem MonS.grow (h:MonS w6 o m k tg wg ig ic pg im hsT done ws ps tl w)(hg:w.grownBy w' none):MonS w6 o m k tg wg ig ic pg im hsT done ws ps tl w':=by
 obtain⟨X,hB,hT⟩:=h;exact⟨X,(hB.grow hg).rebase,hT.kept (hB.mem.keep hg) hg.size⟩
theorem MonS.g (h:MonS w6 o m k tg wg ig ic pg im hsT done ws ps tl w):w6.grownBy w none:=by
 obtain⟨X,hB,hT⟩:=h;exact hB.grown
theorem MonS.cells (h:MonS w6 o m k tg wg ig ic pg im hsT done ws ps tl w):w.heap[o]?=some (.cells #[.int .i64 (k:Int),.slice (some ⟨tg,0,none⟩) m m,.slice (some ⟨wg,0,none⟩) m m,.slice (some ⟨ig,0,none⟩) k ic,.slice none 0 0,.slice (some ⟨pg,0,none⟩) m m] 39 (0,0))/\Arr w tg 22 hsT/\Arr w wg 9 ws/\Arr w pg 4 (bls ps)/\hsT.length=m/\ws.length=m/\ps.length=m:=by
 obtain⟨X,hB,hT⟩:=h;have h1:=hB.own (r:=⟨w6.heap.size,22,.slice (some ⟨tg,0,none⟩) m m,m,hsT,1⟩) yq;have h2:=hB.own (r:=⟨w6.heap.size,9,.slice (some ⟨wg,0,none⟩) m m,m,ws,1⟩) yq;have h3:=hB.own (r:=⟨w6.heap.size,4,.slice (some ⟨pg,0,none⟩) m m,m,bls ps,1⟩) yq;exact⟨hB.box,Arr.of_owns h1,Arr.of_owns h2,Arr.of_owns h3,by have:=h1.1;simpa using this,by have:=h2.1;simpa using this,by have:=h3.1;simpa [bls] using this⟩
theorem MonS.putW (h:MonS w6 o m k tg wg ig ic pg im hsT done ws ps tl w)(hi:i<m)(u:Value):MonS w6 o m k tg wg ig ic pg im hsT done (ws.set i u) ps tl (w.setCell ⟨wg,i,none⟩ u):=by
 obtain⟨X,hB,hT⟩:=h;have hP:=hB.put (j:=1) rfl hi u;exact⟨X,hP.rebase,hT.kept hP.kept hP.wk⟩
theorem MonS.putP (h:MonS w6 o m k tg wg ig ic pg im hsT done ws ps tl w)(hi:i<m)(b:Bool):MonS w6 o m k tg wg ig ic pg im hsT done ws (ps.set i b) tl (w.setCell ⟨pg,i,none⟩ (.bool b)):=by
 obtain⟨X,hB,hT⟩:=h;have hP:=hB.put (j:=3) rfl hi (.bool b);rw[qEF]at hP;exact⟨X,hP.rebase,hT.kept hP.kept hP.wk⟩
theorem MonS.begin (h:MonS w6 o m k tg wg ig ic pg im hsT done ws ps [] w)(hi:i<m)(hd:done.length=i)(hg:w.grownBy w' none)(ho:w'.ownsRow w.heap.size 3 1 (.slice (some ⟨cg,0,none⟩) m m) m xs):MonS w6 o m k tg wg ig ic pg im (hsT.set i (.slice (some ⟨cg,0,none⟩) m m)) done ws ps (⟨w6.heap.size,3,.slice (some ⟨cg,0,none⟩) m m,m,xs,1⟩::[]) (w'.setCell ⟨tg,i,none⟩ (.slice (some ⟨cg,0,none⟩) m m)):=by
 obtain⟨X,hB,hT⟩:=h;have hA:=hB.add hg (e:=3) (sz:=1) (n:=m) (v:=.slice (some ⟨cg,0,none⟩) m m) (xs:=xs) ho jd;have hP:=hA.put (j:=0) rfl hi (.slice (some ⟨cg,0,none⟩) m m);refine⟨X,hP.rebase,?_⟩;rw[List.take_set_of_le yo];exact hT.kept hP.kept hP.wk
theorem MonS.putC {j:Nat}(h:MonS w6 o m k tg wg ig ic pg im hsT done ws ps (⟨w6.heap.size,3,.slice (some ⟨cg,0,none⟩) m m,m,xs,1⟩::[]) w)(hj:j<m)(u:Value):MonS w6 o m k tg wg ig ic pg im hsT done ws ps (⟨w6.heap.size,3,.slice (some ⟨cg,0,none⟩) m m,m,(xs.set j u),1⟩::[]) (w.setCell ⟨cg,j,none⟩ u):=by
 obtain⟨X,hB,hT⟩:=h;have hP:=hB.put (j:=4) rfl hj u;exact⟨X,hP.rebase,hT.kept hP.kept hP.wk⟩
theorem MonS.arrC (h:MonS w6 o m k tg wg ig ic pg im hsT done ws ps (⟨w6.heap.size,3,.slice (some ⟨cg,0,none⟩) m m,m,xs,1⟩::[]) w):Arr w cg 3 xs:=by
 obtain⟨X,hB,hT⟩:=h;exact Arr.of_owns (hB.own (r:=⟨w6.heap.size,3,.slice (some ⟨cg,0,none⟩) m m,m,xs,1⟩) yq)
theorem MonS.fin {r:List Nat}(h:MonS w6 o m k tg wg ig ic pg im hsT done ws ps (⟨w6.heap.size,3,.slice (some ⟨cg,0,none⟩) m m,m,nats r,1⟩::[]) w)(hd:done.length=i)(hi:i<m)(hh:hsT[i]?=some (.slice (some ⟨cg,0,none⟩) m m)):MonS w6 o m k tg wg ig ic pg im hsT (done++[r]) ws ps [] w:=by
 obtain⟨X,hB,hT⟩:=h;have hR:=BoxS.retire (rs:=(⟨w6.heap.size,22,.slice (some ⟨tg,0,none⟩) m m,m,hsT,1⟩::⟨w6.heap.size,9,.slice (some ⟨wg,0,none⟩) m m,m,ws,1⟩::⟨w6.heap.size,3,.slice (some ⟨ig,0,none⟩) k ic,k,nats im,1⟩::⟨w6.heap.size,4,.slice (some ⟨pg,0,none⟩) m m,m,bls ps,1⟩::[])) (r:=⟨w6.heap.size,3,.slice (some ⟨cg,0,none⟩) m m,m,nats r,1⟩) hB;refine⟨_,hR,?_⟩;have hX:RowX (fun j=>X j\/(Value.slice (some ⟨cg,0,none⟩) m m).ownBlock=some j) 3 w (.slice (some ⟨cg,0,none⟩) m m) (nats r):=RowX.of_owns (hB.own (r:=⟨w6.heap.size,3,.slice (some ⟨cg,0,none⟩) m m,m,nats r,1⟩) yq) (fun j hj=>.inr hj);have h9:=(hT.mono (X':=fun j=>X j\/(Value.slice (some ⟨cg,0,none⟩) m m).ownBlock=some j) (fun j hj=>.inl hj)).snoc hX
 have e:hsT.take done.length++[.slice (some ⟨cg,0,none⟩) m m]=hsT.take (done++[r]).length:=by
  rw[List.length_append,List.length_singleton,hd,List.take_add_one,hh];rfl
 rw[e]at h9;exact h9
end
theorem qQX {v7 x8:Value}{w6 w:World}{o m k tg wg ig ic pg:Nat}{im:List Nat}{s8:List Value}{done:List (List Nat)}{ws:List Value}{ps:List Bool}{tl:List RowS}{qb qo qc lb lo lc p a:Nat}{sp:ByteArray}(h:MonS w6 o m k tg wg ig ic pg im s8 done ws ps tl w)(hi:i<m)(hp:p<i)(ha:a<26)(hm:m<=400)(x4:sp.size<=400)(c4:w.cell? ⟨b5,4,none⟩=some (.slice (some ⟨qb,qo,none⟩) m qc))(cq:w.cell? ⟨qb,qo+i,none⟩=some (.int .i64 (p:Int)))(cw:ws[p]?=some (.string sp))(c5:w.cell? ⟨b5,5,none⟩=some (.slice (some ⟨lb,lo,none⟩) m lc))(cl:w.cell? ⟨lb,lo+i,none⟩=some (.int .i64 (a:Int)))(l9:m<=qc/\qc<=maxLen)(l8:m<=lc/\lc<=maxLen)(a9:∀(z58 z59 z60 z61 z62 z63 z64 z65 z66 z67 z68 z69 z70 z71 z72 z73 z74 z75 z76 z77 z78 z79 z80:Value) (w':World),MonS w6 o m k tg wg ig ic pg im s8 done (ws.set i (.string (sp++strOfNums [97+(a:Int)]))) ps tl w'->Q .normal ⟨(v0::v1::v2::v3::v4::(Value.pointer (some ⟨b5,0,none⟩))::v6::v7::(Value.pointer (some ⟨o,0,none⟩))::(Value.int .i64 (i:Int))::s9::r0::r1::r2::r3::r4::r5::r6::r7::r8::r9::q0::q1::q3::q4::q5::q6::q7::q8::p0::p1::p2::p3::p4::p5::p6::p7::p8::p9::o0::o1::o2::o3::o4::o5::o6::o7::o8::o9::n0::n1::n2::n3::n4::n5::n6::n7::n8::z58::z59::z60::z61::z62::z63::z64::z65::z66::z67::z68::z69::z70::z71::z72::z73::z74::z75::z76::z77::z78::z79::z80::n9::m0::m1::m2::m3::m4::m5::m6::m7::m8::m9::l0::l1::l2::l3::l4::l5::l6::l7::k0::k1::k2::k3::k4::k5::k6::k7::k8::k9::j0::j1::j2::j3::j4::j5::j6::j7::j8::j9::i0::i1::i2::i3::i4::i5::i6::i7::i8::i9::g0::g1::g2::g3::g4::g5::g6::g7::g8::g9::f0::f1::f2::f3::f4::f5::f6::f7::f8::e0::e1::e2::e3::e4::e5::e6::e7::e8::e9::d0::d1::d2::d3::d4::d5::d6::d7::d8::d9::c0::c1::c2::c3::c6::c7::c8::c9::b0::b1::b2::b3::b4::b6::b7::b8::b9::a0::a1::a2::a3::a4::a5::a6::a7::a8::[]).toArray,[]⟩ w'):Code.wp Tryz.prog (reg Tryz.f70 11) Q ⟨(v0::v1::v2::v3::v4::(Value.pointer (some ⟨b5,0,none⟩))::v6::v7::(Value.pointer (some ⟨o,0,none⟩))::(Value.int .i64 (i:Int))::s9::r0::r1::r2::r3::r4::r5::r6::r7::r8::r9::q0::q1::q3::q4::q5::q6::q7::q8::p0::p1::p2::p3::p4::p5::p6::p7::p8::p9::o0::o1::o2::o3::o4::o5::o6::o7::o8::o9::n0::n1::n2::n3::n4::n5::n6::n7::n8::x5::x6::x7::x8::x9::t0::t1::t2::t3::t4::t5::t6::t7::t8::t9::s0::s1::s2::s3::s4::s5::s6::s7::n9::m0::m1::m2::m3::m4::m5::m6::m7::m8::m9::l0::l1::l2::l3::l4::l5::l6::l7::k0::k1::k2::k3::k4::k5::k6::k7::k8::k9::j0::j1::j2::j3::j4::j5::j6::j7::j8::j9::i0::i1::i2::i3::i4::i5::i6::i7::i8::i9::g0::g1::g2::g3::g4::g5::g6::g7::g8::g9::f0::f1::f2::f3::f4::f5::f6::f7::f8::e0::e1::e2::e3::e4::e5::e6::e7::e8::e9::d0::d1::d2::d3::d4::d5::d6::d7::d8::d9::c0::c1::c2::c3::c6::c7::c8::c9::b0::b1::b2::b3::b4::b6::b7::b8::b9::a0::a1::a2::a3::a4::a5::a6::a7::a8::[]).toArray,[]⟩ w:=by
 obtain⟨H2,x1,h4,x2,y7,y6,y5⟩:=h.cells
 have h0:∀W:World,w.grownBy W none->W.cell? ⟨o,2,none⟩=some (.slice (some ⟨wg,0,none⟩) m m)/\W.cell? ⟨b5,4,none⟩=some (.slice (some ⟨qb,qo,none⟩) m qc)/\W.cell? ⟨qb,qo+i,none⟩=some (.int .i64 (p:Int))/\W.cell? ⟨wg,p,none⟩=some (.string sp)/\W.cell? ⟨b5,5,none⟩=some (.slice (some ⟨lb,lo,none⟩) m lc)/\W.cell? ⟨lb,lo+i,none⟩=some (.int .i64 (a:Int)):=fun W hg=>by
  have q2:=zJ (zD H2 hg) 2;simp only[sPd,sPe,sPf]at q2;exact⟨q2,zN c4 hg,zN cq hg,pI (h4.kept hg yq) cw,zN c5 hg,zN cl hg⟩
 have h1:∀W:World,w.grownBy W none->∃u,W.cell? ⟨wg,i,none⟩=some u:=fun W hg=>⟨_,(h4.kept hg yq).cell i yo⟩;have H1:∀W:World,w.grownBy W none->W.frozen? ⟨wg,i,none⟩=false:=fun W hg=>(h4.kept hg yq).frozen i;obtain⟨H,y2,y0⟩:=Kc h h1 H1;have y8:(i:Int)<m:=yo
 have y4:(p:Int)<m:=yo
 have H6:=l9.1;have H8:=l8.1;have H5:qc<=9223372036854775807:=by have:=l9.2;unfold maxLen at this;omega
 have H7:lc<=9223372036854775807:=by have:=l8.2;unfold maxLen at this;omega
 have z0:IntKind.u8.wrap (97+(a:Int))=97+(a:Int):=IntWalk.u8_in _ yo;have x0:IntKind.i64.wrap (97+(a:Int))=97+(a:Int):=wK yo;obtain⟨ex,h3⟩:=Nm (strOfNums [97+(a:Int)]);have y9:ex.size=1:=by rw[h3];rfl
 have y3:¬9223372036854775807<sp.size+1:=yo
 have y1:=Kh h3;rw[<-h3]at a9;clear h H2 x1 h4 x2 c4 cq cw c5 cl l9 l8 h1 H1 h3;have H4:Hid (∀W:World,w.grownBy W none->W.cell? ⟨o,2,none⟩=some (.slice (some ⟨wg,0,none⟩) m m)/\W.cell? ⟨b5,4,none⟩=some (.slice (some ⟨qb,qo,none⟩) m qc)/\W.cell? ⟨qb,qo+i,none⟩=some (.int .i64 (p:Int))/\W.cell? ⟨wg,p,none⟩=some (.string sp)/\W.cell? ⟨b5,5,none⟩=some (.slice (some ⟨lb,lo,none⟩) m lc)/\W.cell? ⟨lb,lo+i,none⟩=some (.int .i64 (a:Int))):=Kh (fun W hg=>h0 W hg);clear h0
 conv=>arg 2;whnf
 obtain⟨w7,h6⟩:=Nm w.drew;have H0:w.grownBy w7 none:=by rw[h6];exact zY w none
 have x3:=Kh h6;have H3:=Kh H0;clear h6 H0;refine wp_region_noPanic ?_;refine yI (G:=xM 23 (fun _=>True) (fun W=>W.cell? ⟨o,2,none⟩=some (.slice (some ⟨wg,0,none⟩) m m)/\W.cell? ⟨b5,4,none⟩=some (.slice (some ⟨qb,qo,none⟩) m qc)/\W.cell? ⟨qb,qo+i,none⟩=some (.int .i64 (p:Int))/\W.cell? ⟨wg,p,none⟩=some (.string sp)/\W.cell? ⟨b5,5,none⟩=some (.slice (some ⟨lb,lo,none⟩) m lc)/\W.cell? ⟨lb,lo+i,none⟩=some (.int .i64 (a:Int)))) yk ?_;rw[<-x3.out];have C:=Kh (H4.out w7 H3.out);refine zP 0 ?_;refine xD 1 ?_;refine zP 2 ?_;refine zP 3 ?_;refine xD 4 ?_;refine zP 5 ?_;refine xD 6 ?_;refine zP 7 ?_;refine zP 8 ?_;refine xD 9 ?_;refine zP 10 ?_;refine xD 11 ?_;refine zP 12 ?_;refine xD 13 ?_;refine zP 14 ?_;refine zP 15 ?_;refine xD 16 ?_;refine zP 17 ?_;refine zP 18 ?_;refine jg 19 fun K hK=>?_;go_simp;have h2:=heap_alloc_new w7 (.cells #[Value.int .u8 (97+(a:Int))] 5);have h7:=Ga w7 (.cells #[Value.int .u8 (97+(a:Int))] 5) none;obtain⟨gR,h9⟩:=Nm w7.heap.size;obtain⟨w9,h8⟩:=Nm (w7.alloc (.cells #[Value.int .u8 (97+(a:Int))] 5));rw[<-h9]at h2⊢;rw[<-h8]at h2 h7⊢;have h5:=Kh (zE H3.out h7);have C9:=Kh (H4.out w9 h5.out);refine hK.out _ _ ⟨trivial,fun _=>C9.out⟩ ?_;clear hK K C h9 h8 h7
 try simp only[Act.put,sPa,sPb,sPc]
 have H9:(convert 67 9 (.slice (some ⟨gR,0,none⟩) 1 1)).run Tryz.prog w9=.ok (.string ex) w9:=by
  rw[y1.out];exact mD 67 5 Tryz.underlying67 Tryz.underlying5 9 Tryz.underlying9 (by simpa using zJ h2 0)
 refine jg 20 fun K hK=>?_;go_simp;refine hK.out _ _ ⟨trivial,fun _=>C9.out⟩ ?_;clear hK K H9 h2
 try simp only[Act.put,sPa,sPb,sPc]
 refine jg 21 fun K hK=>?_;go_simp;refine hK.out _ _ ⟨trivial,fun _=>C9.out⟩ ?_;clear hK K
 try simp only[Act.put,sPa,sPb,sPc]
 refine zP 22 ?_;refine jg 23 fun K hK=>?_;obtain⟨u9,q9⟩:=y2.out w9 h5.out;have f9:=y0.out w9 h5.out;go_simp;refine hK.out _ _ ⟨trivial,fun h=>by simp at h⟩ ?_;clear hK K q9 f9
 try simp only[Act.put,sPa,sPb,sPc]
 refine uY yk ?_ _;refine NoPanic.normal ?_;exact a9 _ _ _ _ _ _ _ _ _ _ _ _ _ _ _ _ _ _ _ _ _ _ _  _ ((H.out.grow h5.out).putW hi _)
theorem qQZ {v5 l9 b5:Value}{w6 w:World}{o m k tg wg ig ic pg:Nat}{im:List Nat}{t1:List Value}{done:List (List Nat)}{ws:List Value}{ps:List Bool}(h:MonS w6 o m k tg wg ig ic pg im t1 done ws ps [] w)(hi:i<m)(hd:done.length=i)(hm:m<=400)(k9:∀(z104 z105 z106 z107 z108 z109:Value) (w':World) (cg:Nat),MonS w6 o m k tg wg ig ic pg im (t1.set i (.slice (some ⟨cg,0,none⟩) m m)) done ws ps (⟨w6.heap.size,3,.slice (some ⟨cg,0,none⟩) m m,m,nats (List.replicate m 0),1⟩::[]) w'->Q .normal ⟨(v0::v1::v2::v3::v4::v5::v6::(Value.int .i64 (m:Int))::(Value.pointer (some ⟨o,0,none⟩))::v9::(Value.int .i64 (i:Int))::t2::t3::t4::t5::t6::t7::t8::t9::s0::s1::s2::s3::s4::s5::s6::s7::s8::s9::r0::r1::r2::r3::r4::r5::r6::r7::r8::r9::q0::q1::q3::q4::q5::q6::q7::q8::p0::p1::p2::p3::p4::p5::p6::p7::p8::p9::o0::o1::o2::o3::o4::o5::o6::o7::o8::o9::n0::n1::n2::n3::n4::n5::n6::n7::n8::n9::m0::m1::m2::m3::m4::m5::m6::m7::m8::m9::l0::l1::l2::l3::l4::l5::l6::l7::l8::l9::k0::k1::k2::j0::j1::j2::j3::z104::z105::z106::z107::z108::z109::j4::j5::j6::j7::j8::j9::i0::i1::i2::i3::i4::i5::i6::i7::i8::i9::g0::g1::g2::g3::g4::g5::g6::g7::g8::g9::f0::f1::f2::f3::f4::f5::f6::f7::f8::e0::e1::e2::e3::e4::e5::e6::e7::e8::e9::d0::d1::d2::d3::d4::d5::d6::d7::d8::d9::c0::c1::c2::c3::c4::c5::c6::c7::c8::c9::b0::b1::b2::b3::b4::b5::b6::b7::b8::b9::a0::a1::a2::a3::a4::a5::a6::a7::a8::a9::[]).toArray,[]⟩ w'):Code.wp Tryz.prog (reg Tryz.f70 17) Q ⟨(v0::v1::v2::v3::v4::v5::v6::(Value.int .i64 (m:Int))::(Value.pointer (some ⟨o,0,none⟩))::v9::(Value.int .i64 (i:Int))::t2::t3::t4::t5::t6::t7::t8::t9::s0::s1::s2::s3::s4::s5::s6::s7::s8::s9::r0::r1::r2::r3::r4::r5::r6::r7::r8::r9::q0::q1::q3::q4::q5::q6::q7::q8::p0::p1::p2::p3::p4::p5::p6::p7::p8::p9::o0::o1::o2::o3::o4::o5::o6::o7::o8::o9::n0::n1::n2::n3::n4::n5::n6::n7::n8::n9::m0::m1::m2::m3::m4::m5::m6::m7::m8::m9::l0::l1::l2::l3::l4::l5::l6::l7::l8::l9::k0::k1::k2::j0::j1::j2::j3::k3::k4::k5::k6::k7::k8::j4::j5::j6::j7::j8::j9::i0::i1::i2::i3::i4::i5::i6::i7::i8::i9::g0::g1::g2::g3::g4::g5::g6::g7::g8::g9::f0::f1::f2::f3::f4::f5::f6::f7::f8::e0::e1::e2::e3::e4::e5::e6::e7::e8::e9::d0::d1::d2::d3::d4::d5::d6::d7::d8::d9::c0::c1::c2::c3::c4::c5::c6::c7::c8::c9::b0::b1::b2::b3::b4::b5::b6::b7::b8::b9::a0::a1::a2::a3::a4::a5::a6::a7::a8::a9::[]).toArray,[]⟩ w:=by
 obtain⟨H3,h6,H5,H6,x3,x2,x1⟩:=h.cells
 have h1:∀W:World,w.grownBy W none->W.cell? ⟨o,1,none⟩=some (.slice (some ⟨tg,0,none⟩) m m):=fun W hg=>by
  have q2:=zJ (zD H3 hg) 1;simp only[sPd,sPe,sPf]at q2;exact q2
 have h2:∀W:World,w.grownBy W none->∃u,W.cell? ⟨tg,i,none⟩=some u:=fun W hg=>⟨_,(h6.kept hg yq).cell i yo⟩;have H2:∀W:World,w.grownBy W none->W.frozen? ⟨tg,i,none⟩=false:=fun W hg=>(h6.kept hg yq).frozen i;obtain⟨H,t0,H9⟩:=Kc h h2 H2;have x4:(i:Int)<m:=yo
 have x0:∀w:World,(Instr.makeSlice 22 (.int .i64 (m:Int)) (.int .i64 (m:Int))).run Tryz.prog w=.ok (.slice (some ⟨w.heap.size,0,none⟩) m m) (w.alloc (.cells (madeCells #[.int .i64 0] m) 3)) :=
  fun w=>qKD m yo w
 clear h H3 h6 H5 H6 h2 H2;have H4:Hid (∀W:World,w.grownBy W none->W.cell? ⟨o,1,none⟩=some (.slice (some ⟨tg,0,none⟩) m m)):=Kh (fun W hg=>h1 W hg);clear h1
 conv=>arg 2;whnf
 obtain⟨w7,h5⟩:=Nm w.drew;have H1:w.grownBy w7 none:=by rw[h5];exact zY w none
 have H7:=Kh h5;have h9:=Kh H1;clear h5 H1;refine wp_region_noPanic ?_;refine yI (G:=xM 6 (fun _=>True) (fun W=>W.cell? ⟨o,1,none⟩=some (.slice (some ⟨tg,0,none⟩) m m))) yk ?_;rw[<-H7.out];have C:=Kh (H4.out w7 h9.out);refine zP 0 ?_;refine xD 1 ?_;refine zP 2 ?_;refine zP 3 ?_;have h0:=oF (w:=w7) (b:=w7.heap.size) (m:=m) (e:=3) (by rw[aL,yW]) (Nat.le_refl _) jm;rw[<-yW]at h0;refine jg 4 fun K hK=>?_;go_simp;have h3:=Ga w7 (.cells (madeCells #[.int .i64 0] m) 3) none;obtain⟨cg,h4⟩:=Nm w7.heap.size;obtain⟨w9,H0⟩:=Nm (w7.alloc (.cells (madeCells #[.int .i64 0] m) 3));rw[<-H0]at h0 h3⊢;rw[<-h4]at h0⊢;rw[h4]at h0;have h7:Hid (w9.ownsRow w7.heap.size 3 1 (.slice (some ⟨cg,0,none⟩) m m) m (nats (List.replicate m 0))):=Kh (by rw[h4];exact h0);have H8:=Kh h3;have h8:=Kh (zE h9.out h3);have C9:=Kh (H4.out w9 h8.out);refine hK.out _ _ ⟨trivial,fun _=>C9.out⟩ ?_;clear hK K C h4 H0 h3 h0
 try simp only[Act.put,sPa,sPb,sPc]
 refine zP 5 ?_;refine jg 6 fun K hK=>?_;obtain⟨u9,q9⟩:=t0.out w9 h8.out;have f9:=H9.out w9 h8.out;go_simp;refine hK.out _ _ ⟨trivial,fun h=>by simp at h⟩ ?_;clear hK K q9 f9
 try simp only[Act.put,sPa,sPb,sPc]
 refine uY yk ?_ _;refine NoPanic.normal ?_;exact k9 _ _ _ _ _ _  _ cg ((H.out.grow h9.out).begin hi hd H8.out h7.out)
theorem qFE (n:Nat)(h:n<=4096):∀w:World,(Instr.makeSlice 27 (.int .i64 (n:Int)) (.int .i64 (n:Int))).run Tryz.prog w=.ok (.slice (some ⟨w.heap.size,0,none⟩) n n) (w.alloc (.cells (madeCells #[.slice none 0 0] n) 22)) :=
 fun w=>run_make_row' 27 22 (.slice none 0 0) 24 Tryz.underlying27 yk rfl .i64 .i64 n yo yo w
theorem qNQ (n:Nat)(h:n<=4096):∀w:World,(Instr.makeSlice 37 (.int .i64 (n:Int)) (.int .i64 (n:Int))).run Tryz.prog w=.ok (.slice (some ⟨w.heap.size,0,none⟩) n n) (w.alloc (.cells (madeCells #[.string ⟨#[]⟩] n) 9)) :=
 fun w=>run_make_row' 37 9 (.string ⟨#[]⟩) 16 Tryz.underlying37 yk rfl .i64 .i64 n yo yo w
theorem qFH {z:Value}(hz:z.cells=#[z])(n:Nat):(madeCells #[z] n).toList=List.replicate n z:=by
 have:=mK hz n
 rwa [Nat.mul_one,hz]at this
theorem qZ {w:World}{b b' e e' n n':Nat}{v v':Value}{a9:List Value}(h:w.ownsRow b e 1 v n xs)(h':w.ownsRow b' e' 1 v' n' a9)(a8:e≠e'):∀k,v.ownBlock=some k->v'.ownBlock≠some k:=by
 intro k hk h0;obtain⟨c,e3,m,hp,h3⟩:=wH h' (Ne.symm a8) k h0;exact zR h hp (Ne.symm h3) hk
theorem qRA {v8 q2 q9 f9:Value}{w:World}{o5 gb rb rf cR r0 ro rc m k:Nat}{im:List Nat}(x4:1<=m)(x3:m<=400)(hC:w.cell? ⟨o5,0,none⟩=some (.slice (some ⟨gb,0,none⟩) k k)/\w.cell? ⟨b5,6,none⟩=some (.slice (some ⟨rb,rf,none⟩) m cR)/\w.cell? ⟨rb,rf,none⟩=some (.slice (some ⟨r0,ro,none⟩) k rc))(l9:m<=cR/\cR<=maxLen)(s3:∀W:World,w.grownBy W none->Calls Tryz.prog 83 #[.slice (some ⟨r0,ro,none⟩) k rc] W fun e w'=>∃g c,e=.returned (.slice (some ⟨g,0,none⟩) k c)/\k<=c/\c<=maxLen/\w'.ownsRow W.heap.size 3 1 (.slice (some ⟨g,0,none⟩) k c) k (nats im)/\W.grownBy w' none)(k0:∀(z36 z37 z38 z39 z40 z41 z42 z43 z44 z45 z46 z47 z48 z49 z50 z51 z52:Value) (w6 w':World) (o tg wg ig ic pg:Nat),w.grownBy w6 none->MonS w6 o m k tg wg ig ic pg im (List.replicate m (.slice none 0 0)) [] (List.replicate m (.string ⟨#[]⟩)) (List.replicate m false) [] w'->Q .normal ⟨((Value.pointer (some ⟨o5,0,none⟩))::v1::v2::v3::v4::(Value.pointer (some ⟨b5,0,none⟩))::v6::(Value.int .i64 (m:Int))::(Value.pointer (some ⟨o,0,none⟩))::v9::s4::s5::s6::s7::s8::s9::r1::r2::r3::r4::r5::r6::r7::r8::r9::q0::q1::q2::q3::q4::q5::q6::q7::q8::q9::p0::z36::z37::z38::z39::z40::z41::z42::z43::z44::z45::z46::z47::z48::z49::z50::z51::z52::p1::p2::p3::p4::p5::p6::p7::p8::p9::o0::o1::o2::o3::o4::o6::o7::o8::o9::n0::n1::n2::n3::n4::n5::n6::n7::n8::n9::m0::m1::m2::m3::m4::m5::m6::m7::m8::m9::l0::l1::l2::l3::l4::l5::l6::l7::l8::k1::k2::k3::k4::k5::k6::k7::k8::k9::j0::j1::j2::j3::j4::j5::j6::j7::j8::j9::i0::i1::i2::i3::i4::i5::i6::i7::i8::i9::g0::g1::g2::g3::g4::g5::g7::g9::f0::f1::f2::f3::f4::f5::f6::f7::f8::f9::e0::e1::e2::e3::e4::e5::e6::e7::e8::e9::d0::d1::d2::d3::d4::d5::d6::d7::d8::d9::c0::c1::c2::c3::c4::c5::c6::c7::c8::c9::b0::b1::b2::b3::b4::b6::b7::b8::b9::a1::a2::a3::a4::a5::a6::a7::a8::a9::[]).toArray,[]⟩ w'):Code.wp Tryz.prog (reg Tryz.f70 7) Q ⟨((Value.pointer (some ⟨o5,0,none⟩))::v1::v2::v3::v4::(Value.pointer (some ⟨b5,0,none⟩))::v6::(Value.int .i64 (m:Int))::v8::v9::s4::s5::s6::s7::s8::s9::r1::r2::r3::r4::r5::r6::r7::r8::r9::q0::q1::q2::q3::q4::q5::q6::q7::q8::q9::p0::x5::x6::x7::x9::t0::t1::t2::t3::t4::t5::t6::t7::t8::t9::s0::s1::s2::p1::p2::p3::p4::p5::p6::p7::p8::p9::o0::o1::o2::o3::o4::o6::o7::o8::o9::n0::n1::n2::n3::n4::n5::n6::n7::n8::n9::m0::m1::m2::m3::m4::m5::m6::m7::m8::m9::l0::l1::l2::l3::l4::l5::l6::l7::l8::k1::k2::k3::k4::k5::k6::k7::k8::k9::j0::j1::j2::j3::j4::j5::j6::j7::j8::j9::i0::i1::i2::i3::i4::i5::i6::i7::i8::i9::g0::g1::g2::g3::g4::g5::g7::g9::f0::f1::f2::f3::f4::f5::f6::f7::f8::f9::e0::e1::e2::e3::e4::e5::e6::e7::e8::e9::d0::d1::d2::d3::d4::d5::d6::d7::d8::d9::c0::c1::c2::c3::c4::c5::c6::c7::c8::c9::b0::b1::b2::b3::b4::b6::b7::b8::b9::a1::a2::a3::a4::a5::a6::a7::a8::a9::[]).toArray,[]⟩ w:=by
 obtain⟨H1,H0,h9⟩:=hC
 conv=>arg 2;whnf
 obtain⟨w5,h8⟩:=Nm w.drew;have h5:w.grownBy w5 none:=by rw[h8];exact zY w none
 have y0:=Kh h8;have y1:=Kh h5;have C:Hid (w5.cell? ⟨o5,0,none⟩=some (.slice (some ⟨gb,0,none⟩) k k)/\w5.cell? ⟨b5,6,none⟩=some (.slice (some ⟨rb,rf,none⟩) m cR)/\w5.cell? ⟨rb,rf,none⟩=some (.slice (some ⟨r0,ro,none⟩) k rc)):=Kh ⟨zN H1 h5,zN H0 h5,zN h9 h5⟩;have y2:Hid (∀W:World,w5.grownBy W none->Calls Tryz.prog 83 #[.slice (some ⟨r0,ro,none⟩) k rc] W fun e w'=>∃g c,e=.returned (.slice (some ⟨g,0,none⟩) k c)/\k<=c/\c<=maxLen/\w'.ownsRow w5.heap.size 3 1 (.slice (some ⟨g,0,none⟩) k c) k (nats im)/\W.grownBy w' none):=Kh (fun W hW=>(s3 W (zE h5 hW)).mono fun e w' ⟨g,c,he,h1,h2,ho,hg⟩=>⟨g,c,he,h1,h2,xO ho hW.size,hg⟩);have x1:=l9.1;have x0:cR<=9223372036854775807:=by have:=l9.2;unfold maxLen at this;omega
 have y4:0<m:=x4;have H9:m<=maxLen:=jm
 clear h8 h5 H1 H0 h9 s3 l9;refine wp_region_noPanic ?_;refine yI (G:=xM 18 (fun W=>W.cell? ⟨o5,0,none⟩=some (.slice (some ⟨gb,0,none⟩) k k)/\W.cell? ⟨b5,6,none⟩=some (.slice (some ⟨rb,rf,none⟩) m cR)/\W.cell? ⟨rb,rf,none⟩=some (.slice (some ⟨r0,ro,none⟩) k rc)) (fun _=>True)) yk ?_;rw[<-y0.out];refine zP 0 ?_;refine zP 1 ?_;refine zP 2 ?_;refine zP 3 ?_;refine zP 4 ?_;refine zP 5 ?_;refine zP 7 ?_;refine zP 9 ?_;refine zP 10 ?_;refine zP 11 ?_;refine zP 12 ?_;refine zP 14 ?_;refine uM (fun Wp hWp a0 ha0=>?_);subst hWp
 try simp only[Act.put,sPd,sPe,sPf,sPa,sPb,sPc]at ha0
 have y3:=Kh ha0;refine uL (I:=pm7I k m o5 b5 gb rb rf cR r0 ro rc im w5 a0) (fun l a w h=>qTV C.out h) (qJM ha0 (qFE m yo) (qNQ m yo) (qKE m yo) (Kh (qFH rfl m)) (Kh (qFH rfl m)) (Kh (qFH rfl m)) H9 y2.out) yk ?hend (by decide +kernel) ?hinit
 case hinit =>
  clear ha0;refine⟨a0.tmps.getD 42 undef,a0.tmps.getD 44 undef,a0.tmps.getD 49 undef,a0.tmps.getD 51 undef,a0.tmps.getD 52 undef,a0.tmps.getD 8 undef,0,(uF yq).symm,by decide +kernel,hs7C,hs7C,hs7C,hs7C,hs7C,hs7C,hs7C,hs7C,zX _ _⟩
 clear ha0;intro l a w6 h h0;obtain⟨x42,x44,x49,x51,x52,x8,o,ha,HR,H6,H8,H5,H4,H3,H2,B1,B2,HG⟩:=h;obtain⟨g6,rfl,h7⟩:=H6.out (h0 6 jd);obtain⟨g8,rfl,h6⟩:=H8.out (h0 8 jd);obtain⟨g13,c13,rfl,H7,x2,h4⟩:=H5.out (h0 13 jd);obtain⟨g15,rfl,h3⟩:=H4.out (h0 15 jd);obtain⟨_,_,_,_,rfl⟩:=H3.out (h0 16 jd);obtain⟨rfl,ho⟩:=H2.out (h0 17 jd);obtain⟨_,_,_,_,_,_,hb⟩:=B2.out (h0 18 jd);clear H6 H8 H5 H4 H3 H2 B1 B2 HR;subst ha;rw[y3.out];simp only[yK,List.foldl_cons,List.foldl_nil,Act.put,sPa,sPb,sPc];refine NoPanic.normal ?_;have e15:List.replicate m (.bool false)=bls (List.replicate m false):=by simp[bls]
 rw[e15]at h3;refine k0 _ _ _ _ _ _ _ _ _ _ _ _ _ _ _ _ _  w5 w6 o g6 g8 g13 c13 g15 y1.out ⟨fun _=>False,⟨⟨?_,?_,fun r hr k hk hx=>hx,fun k hk=>hk.elim⟩,?_,hb,fun h=>h,Nat.le_refl _,ho,HG.size,HG,wG.refl _ _,Nat.le_refl _⟩,xX.nil⟩
 ·intro r hr
  simp only[List.mem_cons,List.not_mem_nil,or_false]at hr;rcases hr with rfl|rfl|rfl|rfl
  ·exact h7
  ·exact h6
  ·exact h4
  exact h3
 ·refine List.pairwise_cons.2 ⟨fun s hs=>?_,List.pairwise_cons.2 ⟨fun s hs=>?_,List.pairwise_cons.2 ⟨fun s hs=>?_,List.pairwise_cons.2 ⟨fun s hs=>by simp at hs,List.Pairwise.nil⟩⟩⟩⟩
  ·simp only[List.mem_cons,List.not_mem_nil,or_false]at hs
   rcases hs with rfl|rfl|rfl
   ·exact qZ h7 h6 jd
   ·exact qZ h7 h4 jd
   exact qZ h7 h3 jd
  ·simp only[List.mem_cons,List.not_mem_nil,or_false]at hs
   rcases hs with rfl|rfl
   ·exact qZ h6 h4 jd
   exact qZ h6 h3 jd
  simp only[List.mem_cons,List.not_mem_nil,or_false]at hs;subst hs;exact qZ h4 h3 jd
 intro r hr;simp only[List.mem_cons,List.not_mem_nil,or_false]at hr;rcases hr with rfl|rfl|rfl|rfl<;>exact⟨rfl,yq⟩
end Go.Proofs.YtiknckajkdlppaaGreat
