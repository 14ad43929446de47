/- Part 18 of the proof. -/
import Derived.Test.YtobakifdllameaaQa17
import Derived.Deep.OwnRows
import Derived.Deep.DeepCutAuto
set_option linter.unusedVariables false
set_option linter.unusedSimpArgs false
set_option maxRecDepth 100000
set_option maxHeartbeats 16000000
namespace Go.Proofs.Ytobakifdllameaa
open Go.Maps Go.RowKit
theorem tJ.apart {wm w:World}{v:Value}{M:DfaV}{n k fb fo fc b off cap:Nat}{RB RO RC:Nat->Nat}(h:tJ wm w v M)(hv:v=dAgg k (st0 M) fb fo fc b off cap n)(a9:DAt w.heap.size w M n k fb fo fc b off cap RB RO RC){ty o:Nat}{cs:Array Value}{m:Nat×Nat}(ho:w.heap[o]?=some (.cells cs ty m))(h1:ty≠3)(h2:ty≠22)(h3:ty≠4):b≠o/\fb≠o/\∀q,q<n->RB q≠o:=by
 obtain⟨o',hs,sf,cf,sn,cn,e,_,hb⟩:=h;have hn:=a9.ok.n1;rw[hv]at e;simp only[dAgg,Value.agg.injEq,Array.mk.injEq,List.cons.injEq,Value.slice.injEq,Value.int.injEq,true_and,and_true]at e;obtain⟨_,_,⟨rfl,e1,rfl⟩,⟨rfl,e2,rfl⟩⟩:=e;have hN:=hb.ownN;have hF:=hb.ownF;have h5:=zS hN ho (fun e=>h2 e.symm);have h6:=zS hF ho (fun e=>h3 e.symm);refine⟨fun e=>h5 (by rw[e];rfl),fun e=>h6 (by rw[e];rfl),fun q hq e=>?_⟩;obtain⟨nb,e3,_,_,h0⟩:=yY hN (by rw[a9.ok.nl];exact hn);simp only[Option.some.injEq,Addr.mk.injEq]at e3;obtain⟨rfl,rfl,_⟩:=e3;have h4:q<hs.length:=by rw[hb.rows.1,a9.ok.nl];exact hq
 have c1:=h0.cell q h4;have c2:=a9.hd q hq;rw[Nat.zero_add,c1]at c2;have c3:=hb.rows.2 q h4 (by rw[a9.ok.nl];exact hq);rw[Oj c2]at c3;rcases c3 with ⟨c4,_⟩|⟨b2,off2,cap2,cur,m2,c4,_,_,_,c5,_⟩
 ·simp at c4
 simp only[Value.slice.injEq,Option.some.injEq,Addr.mk.injEq]at c4;rw[<-c4.1.1,e,ho]at c5;simp at c5;exact h1 c5.2.1
inductive SysA (w0 we:World)(B o gb k a:Nat)(done:List (List Nat))(w:World):Prop
 | mk (X:Nat->Prop) (hsD:List Value) (hB:BoxS B X o 66 w0 w (⟨B,22,.slice (some ⟨gb,0,none⟩) k k,k,hsD++List.replicate (k-a) (.slice none 0 0),1⟩::[]) #[.slice (some ⟨gb,0,none⟩) k k,.slice none 0 0,.int .i64 ((0:Nat):Int)] w)
  (hD:xO X 3 nats w hsD done) (hl:hsD.length=a/\done.length=a) (hG:we.grownBy w (some o)) (hgb:we.heap.size<=gb) (hB0:we.heap.size<=B)
section
variable {w0 we w:World} {B o gb k a q r:Nat} {done:List (List Nat)} {cur:List Nat}
theorem SysA.go (h:SysA w0 we B o gb k a done w)(ha:a<k):SysG w0 we B o gb k a 0 (k-(a+1)) done [] w:=by
 obtain⟨X,h0,hB,hD,⟨h2,h1⟩,hG,h3,h4⟩:=h;have hS:=hB.nil (e:=3) (sz:=1) (by decide);rw[show k-a=(k-(a+1))+1 by omega,List.replicate_succ]at hS;exact⟨X,h0,none,0,hS,hD,⟨h2,h1,by omega,rfl⟩,hG,h3,h4⟩
theorem SysG.fin (h:SysG w0 we B o gb k a q r done cur w):SysA w0 we B o gb k (a+1) (done++[cur]) w:=by
 obtain⟨X,h0,sR,cR,hB,hD,⟨h2,h1,h6,h5⟩,hG,h3,h4⟩:=h;have hR:=BoxS.retire (rs:=⟨B,22,.slice (some ⟨gb,0,none⟩) k k,k,h0++.slice sR q cR::List.replicate r (.slice none 0 0),1⟩::[]) (r:=⟨B,3,.slice sR q cR,q,nats cur,1⟩) hB;have hX:RowX (fun j=>X j\/(Value.slice sR q cR).ownBlock=some j) 3 w (.slice sR q cR) (nats cur):=RowX.of_owns (hB.own (r:=⟨B,3,.slice sR q cR,q,nats cur,1⟩) (by simp)) (fun j hj=>.inr hj);refine⟨_,h0++[.slice sR q cR],?_,(hD.mono (fun j hj=>.inl hj)).snoc hX,⟨by simp[h2],by simp[h1]⟩,hG,h3,h4⟩;rw[show k-(a+1)=r by omega,List.append_assoc];exact hR
theorem SysA.full (h:SysA w0 we B o gb k k done w):SysF w0 we B o gb k done w:=by
 obtain⟨X,h0,hB,hD,⟨h1,h3⟩,hG,h4,h2⟩:=h;rw[Nat.sub_self,List.replicate_zero,List.append_nil]at hB;exact⟨X,h0,hB,hD,h1,hG,h2⟩
theorem SysA.g (h:SysA w0 we B o gb k a done w):we.grownBy w (some o):=by
 obtain⟨X,h0,hB,hD,hl,hG,_⟩:=h;exact hG
theorem SysG.g (h:SysG w0 we B o gb k a q r done cur w):we.grownBy w (some o):=by
 obtain⟨X,h0,sR,cR,hB,hD,hl,hG,_⟩:=h;exact hG
theorem SysA.cell (h:SysA w0 we B o gb k a done w):w.cell? ⟨o,0,none⟩=some (.slice (some ⟨gb,0,none⟩) k k):=by
 obtain⟨X,h0,hB,hD,_⟩:=h;have q0:=zF hB.box 0;simpa only[List.getElem_toArray,List.getElem_cons_zero,List.getElem_cons_succ] using q0
end
theorem qPI {w:World}{base e cN:Nat}{sN:Option Addr}{x0 x1 x2:Value}(h:w.ownsRow base e 3 (.slice sN 1 cN) 1 [x0,x1,x2]):∃pb,sN=some ⟨pb,0,none⟩/\1<=cN/\cN<=maxLen/\w.cell? ⟨pb,0,none⟩=some x0/\w.cell? ⟨pb,1,none⟩=some x1/\w.cell? ⟨pb,2,none⟩=some x2:=by
 rcases h.2 with ⟨h',h0⟩|⟨g,cap,cur,h1,hb,hg,hnc,hcm,hcs,htake⟩
 ·simp at h'
 simp only[Value.slice.injEq]at h1;obtain⟨rfl,-,rfl⟩:=h1
 have ht:∀i (u:Value),[x0,x1,x2][i]?=some u->w.cell? ⟨g,i,none⟩=some u:=fun i u hu=>by
  rw[cell_of_row w g i _ _ _ hg,<-Array.getElem?_toList];rw[<-htake]at hu;rw[List.getElem?_take]at hu
  split at hu
  ·exact hu
  cases hu
 exact⟨g,rfl,hnc,hcm,ht 0 _ rfl,ht 1 _ rfl,ht 2 _ rfl⟩
def qLW (w0:World)(o n k:Nat)(M:DfaV)(w':World):Prop:=∃(gb pb cp:Nat) (fA:Option Addr) (fC:Nat),
 w'.heap[o]?=some (.cells #[.slice (some ⟨gb,0,none⟩) k k,.slice (some ⟨pb,0,none⟩) 1 cp,.int .i64 (n:Int)] 66 (0,0))/\oM w'.heap.size w' (.slice (some ⟨gb,0,none⟩) k k) (qJ M n k) /\
 w'.cell? ⟨pb,0,none⟩=some (.int .i64 ((st0 M:Nat):Int))/\w'.cell? ⟨pb,1,none⟩=some (.slice fA n fC)/\w'.cell? ⟨pb,2,none⟩=some (.int .i64 0)/\1<=cp/\cp<=maxLen/\RowT w'.heap.size 4 w' (.slice fA n fC) (bls M.final)/\w0.grownBy w' none
theorem qAS {wm w0 w:World}{o n k:Nat}{v:Value}{M:DfaV}(a8:w.heap[o]?=some (.cells #[.slice none 0 0,.slice none 0 0,.int .i64 0] 66 (0,0)))(h0:w0.grownBy w none)(ho:w0.heap.size<=o)(a9:tJ wm w v M)(hM:VD M n k)(a5:n<=512):Calls Try.prog 29 #[.pointer (some ⟨o,0,none⟩),v] w fun e w'=>(32<n/\e=.returned (.int .i64 3)/\w0.grownBy w' none)\/(n<=32/\e=.returned (.int .i64 0)/\qLW w0 o n k M w'):=by
 obtain⟨fb,fo,fc,b,off,cap,RB,RO,RC,hv,h8⟩:=a9.dfa.at hM;obtain⟨d4,e4,d7⟩:=a9.apart hv h8 a8 (by decide) (by decide) (by decide);subst hv;obtain⟨we,H6⟩:=Nm (w.alloc (.cells #[.int .i64 (k:Int),.int .i64 ((st0 M:Nat):Int),.slice (some ⟨fb,fo,none⟩) n fc,.slice (some ⟨b,off,none⟩) n cap] 37));obtain⟨mx,a2⟩:=Nm w.heap.size;have h6:w.grownBy we none:=by rw[H6];exact Ga w _ none
 have H4:=heap_alloc_new w (.cells #[.int .i64 (k:Int),.int .i64 ((st0 M:Nat):Int),.slice (some ⟨fb,fo,none⟩) n fc,.slice (some ⟨b,off,none⟩) n cap] 37);rw[<-H6,<-a2]at H4;have h3:=zB a8 h6;have H7:o≠mx:=fun e=>by rw[e,H4]at h3;simp at h3
 obtain⟨m0,m1,m2,m3⟩:=zP H4;have H3:mx<we.heap.size:=zR H4;have a4:b<we.heap.size:=Nat.lt_of_lt_of_le h8.bltw h6.size;have e0:st0 M<n:=by have:=hM.sn;have:=hM.s0;unfold st0;omega
 have g2:=hM.k1;have e3:=hM.k6;have g1:=hM.n1;have H1:=h8.cap;have c9:=H1.1;have c8:cap<=9223372036854775807:=by have:=H1.2;unfold maxLen at this;omega
 have e5:=h8.fcap.1
 have b9:∀q a,q<n->a<k->nx M q a<n:=fun q a hq ha=>by
  have h1:=hM.lo q a hq ha;have h2:=hM.hi q a hq ha;unfold nx;show (ent M.next q a).toNat<n;omega
 have keep:∀(W:World),we.grownBy W (some o)->∀(bb i:Nat) (u:Value),bb≠o->we.cell? ⟨bb,i,none⟩=some u->W.cell? ⟨bb,i,none⟩=some u:=fun W hg bb i u hb hc=>(World.cell?_of_block (hg.block bb (World.block_lt_of_cell? _ _ hc) (fun e=>hb (Oj e)))).trans hc;have a0:Hid (∀W:World,we.grownBy W (some o)->W.cell? ⟨mx,0,none⟩=some (.int .i64 (k:Int))/\W.cell? ⟨mx,1,none⟩=some (.int .i64 ((st0 M:Nat):Int))/\W.cell? ⟨mx,2,none⟩=some (.slice (some ⟨fb,fo,none⟩) n fc)/\W.cell? ⟨mx,3,none⟩=some (.slice (some ⟨b,off,none⟩) n cap)):=Kh (fun W hg=>⟨keep W hg mx 0 _ H7.symm m0,keep W hg mx 1 _ H7.symm m1,keep W hg mx 2 _ H7.symm m2,keep W hg mx 3 _ H7.symm m3⟩);have f7:Hid (∀W:World,we.grownBy W (some o)->∀q,q<n->W.cell? ⟨b,off+q,none⟩=some (.slice (some ⟨RB q,RO q,none⟩) k (RC q))):=Kh (fun W hg q hq=>keep W hg b _ _ d4 (zJ (h8.hd q hq) h6));have f8:Hid (∀W:World,we.grownBy W (some o)->∀q a,q<n->a<k->W.cell? ⟨RB q,RO q+a,none⟩=some (.int .i64 ((nx M q a:Nat):Int))):=Kh (fun W hg q a hq ha=>keep W hg (RB q) _ _ (d7 q hq) (zJ (h8.el q a hq ha) h6));have d9:Hid (∀q,q<n->(k<=RC q/\RC q<=maxLen)/\RB q<we.heap.size):=Kh (fun q hq=>⟨h8.rcap q hq,Nat.lt_of_lt_of_le (h8.rlt q hq).2 h6.size⟩);obtain⟨f5,H5,f3,f6⟩:=K4 b9 h3 H6 a2
 have f9:Hid (∀W:World,we.grownBy W (some o)->RowT W.heap.size 4 W (.slice (some ⟨fb,fo,none⟩) n fc) (bls M.final)):=Kh (fun W hg=>by
  obtain⟨o',hs,sf,cf,sn,cn,e,_,hb⟩:=a9;simp only[dAgg,Value.agg.injEq,Array.mk.injEq,List.cons.injEq,Value.slice.injEq,Value.int.injEq,true_and,and_true]at e;obtain⟨_,_,⟨rfl,e1,rfl⟩,_⟩:=e;have hr:=RowT.of_owns hb.ownF;rw[<-e1]at hr
  exact((hr.kept h6 (by simp)).kept hg (fun j hj=>.inr ⟨_,_,_,by have:=Oj hj;subst this;exact h3,by decide⟩)).mono (Nat.le_trans h6.size hg.size))
 have b6:Hid (w0.grownBy we none):=Kh (zC h0 h6);have f4:=Kh ho;have q35:∀(W:World) (a:Option Addr) (n c n' c':Nat),(binOp .eql 35 (.slice a n c) (.slice none n' c')).run Try.prog W=.ok (.bool a.isNone) W:=fun W a n c n' c'=>Lib.run_eql_slice_nil W _ _ a n c n' c' Try.underlying35;have b0:=zF h3 0;have b2:=zF h3 2;simp only[List.getElem_toArray,List.getElem_cons_zero,List.getElem_cons_succ]at b0 b2;have f1:=zA h3 0;clear a9 h8 d4 e4 d7 a8 h0 H4 h6 keep b9 H6 a2 h3 m0 m1 m3;unfold dAgg;go_enter Try.func29,Try.ntmps29;go_upto_region 1 with fail;rw[<-f3.out,<-f6.out];go_upto_region 2 with fail;by_cases hn:32<n
 ·have e1:decide (32<(n:Int))=true:=by rw[decide_eq_true_eq];omega
  go_wp2;go_ret;exact .inl ⟨hn,rfl,b6.out⟩
 have e1:decide (32<(n:Int))=false:=by rw[decide_eq_false_iff_not];omega
 have H2:n<=32:=by omega
 go_upto_region 5 with fail;have c0:=(a0.out we (yD _ _)).1;go_upto_region 6 with (first|(at_make;refine eI rfl _ _ _ rfl wH rfl .i64 .i64 _ _ k rfl rfl rfl rfl ?b1 ?b2 ?_;(case b1=>omega);(case b2=>(unfold maxLen;omega));intro w5 h5 H0 a3;(have b05:=zJ b0 H0);(have f0:=zA (zB H5.out H0) 0))|fail)
 obtain⟨gb,H8⟩:=Nm we.heap.size;rw[<-H8]at h5⊢;have d3:=zB H5.out H0;have h4:w5.ownsRow we.heap.size 22 1 (.slice (some ⟨gb,0,none⟩) k k) k (List.replicate k (.slice none 0 0)):=by rw[<-H8];exact h5
 have d6:BoxS we.heap.size (fun _=>False) o 66 w0 w5 (⟨we.heap.size,22,.slice (some ⟨gb,0,none⟩) k k,k,List.replicate k (.slice none 0 0),1⟩::[]) #[.slice none 0 0,.slice none 0 0,.int .i64 ((0:Nat):Int)] w5 :=
  ⟨⟨fun r hr=>by rw[List.mem_singleton]at hr;subst hr;exact h4,by simp,fun r hr j hj hx=>hx.elim,fun j hj=>hj.elim⟩,fun r hr=>by rw[List.mem_singleton]at hr;subst hr;exact⟨rfl,by simp⟩,d3,fun h=>h,b6.out.size,f4.out,H0.size,zC b6.out H0,xQ.refl _ _,Nat.le_refl _⟩
 have b3:=d6.set 0 (.slice (some ⟨gb,0,none⟩) k k);obtain⟨w6,a1⟩:=Nm (w5.setCell ⟨o,0,none⟩ (.slice (some ⟨gb,0,none⟩) k k));have d8:we.grownBy w6 (some o):=by rw[a1];exact zH (zC (yD we (some o)) H0) (zG w5 ⟨o,0,none⟩ _)
 rw[<-a1]at b3⊢;have hA:SysA w0 we we.heap.size o gb k 0 [] w6:=⟨_,[],b3.rebase,xO.nil,⟨rfl,rfl⟩,d8,by rw[H8];exact Nat.le_refl _,Nat.le_refl _⟩;have HA:=Kh hA;have q6:=hA.cell;clear h5 H0 a3 b05 f0 d3 h4 d6 b3 a1 d8 hA b0 b2 f1 H8;go_wp2
 go_loopg [6,7,34] k (fun gh a6 a7 i wr=>∃a:Nat,gh+a=k/\i=.int .i64 a/\SysA w0 we we.heap.size o gb k a ((qJ M n k).take a) wr)
 case atStart=>exact⟨0,rfl,rfl,HA.out⟩
 clear HA q6;obtain⟨a,c7,rfl,hA⟩:=hrel;have b5:=Kh c7;have HA:=Kh hA;clear c7;by_cases ha:a<k
 ·have e8:(a:Int)<k:=by omega
  have HS:=Kh (hA.go ha);clear hA;go_wp2
  go_loopg [7,38] n (fun gh a7 i wr=>∃q:Nat,gh+q=n/\i=.int .i64 q/\SysG w0 we we.heap.size o gb k a q (k-(a+1)) ((qJ M n k).take a) ((colD M n a).take q) wr)
  case atStart=>exact⟨0,rfl,rfl,HS.out⟩
  clear HS;obtain⟨q,c6,rfl,hS⟩:=hrel;have b4:=Kh c6;have HS:=Kh hS;clear c6;by_cases hq:q<n
  ·have e2:(q:Int)<n:=by omega
   have hg:=hS.g;have c3:=(a0.out _ hg).2.2.2;have c4:=f7.out _ hg q hq;have c5:=f8.out _ hg q a hq ha;have g0:Hid ((colD M n a).take q++[nx M q a]=(colD M n a).take (q+1)):=Kh (qAA hq).symm;clear hS hg;go_upto_region 12 with fail;refine qMI HS.out e3 hq H2 (Nat.lt_of_lt_of_le (f5.out q a hq ha) H2) c3 c4 c5 H1 (d9.out q hq).1 ⟨H3,a4,(d9.out q hq).2⟩ ?_;intro z41 z42 z43 z44 z45 z46 z47 z48 z49 z50 z51 z52 z53 z54 z55 z56 z57 z58 z59 z60 z61 z62 z63 z64 z65 z66 z67 z68 w9 h9;rw[g0.out]at h9;have H9:=Kh h9;clear h9 c3 c4 c5;go_wp2;go_roundg (n-(q+1))
   case measure=>have:=b4.out;omega
   exact⟨q+1,by have:=b4.out;omega,by go_num,H9.out⟩
  have b8:q=n:=by have:=b4.out;omega
  have e2:¬(q:Int)<n:=(by omega);have h9:=hS.fin;rw[b8,List.take_of_length_le (l:=colD M n a) (by rw[pY];exact Nat.le_refl _),<-eK ha]at h9;have H9:=Kh h9;clear h9 hS b8;go_wp2;go_roundg (k-(a+1))
  case measure=>have:=b5.out;omega
  exact⟨a+1,by have:=b5.out;omega,by go_num,H9.out⟩
 have d5:a=k:=by have:=b5.out;omega
 have e8:¬(a:Int)<k:=(by omega);have h9:=hA;rw[d5,List.take_of_length_le (by rw[vM];exact Nat.le_refl _)]at h9;have HF:=Kh h9.full;have hg:=hA.g;have c1:=(a0.out _ hg).2.1;have c2:=(a0.out _ hg).2.2.1;clear h9 hA d5 hg;go_upto_region 15 with fail;refine qMJ HF.out c1 c2 (Nat.lt_of_lt_of_le e0 H2) H3 ?_;intro z71 z72 z73 z74 z75 z76 z77 z78 z79 z80 z81 z82 z83 z84 z85 z86 z87 z88 z89 z90 z91 z92 z93 w9 h9;obtain⟨X,b7,sN,cN,hB,hD,hl,hG,g3⟩:=h9;have d2:=zF hB.box 2;simp only[List.getElem_toArray,List.getElem_cons_zero,List.getElem_cons_succ]at d2;have f2:=zA hB.box 2;obtain⟨HB,HD,HG⟩:=K3 hB hD hG;clear hB hD hG c1 c2;go_wp2;go_ret;have hZ:=HB.out.set 2 (.int .i64 (n:Int));simp only[sPa,sPb,sPc]at hZ;obtain⟨pb,rfl,e7,e6,d0,d1,d2⟩:=qPI (hZ.own (r:=⟨we.heap.size,85,.slice sN 1 cN,1,[.int .i64 ((st0 M:Nat):Int),.slice (some ⟨fb,fo,none⟩) n fc,.int .i64 ((0:Nat):Int)],3⟩) (by simp));have e9:=zH HG.out (zG w9 ⟨o,2,none⟩ (.int .i64 (n:Int)));have h7:qLW w0 o n k M (w9.setCell ⟨o,2,none⟩ (.int .i64 (n:Int))):=⟨gb,pb,cN,some ⟨fb,fo,none⟩,fc,hZ.box,⟨b7,RowT.of_owns (hZ.own (r:=⟨we.heap.size,22,.slice (some ⟨gb,0,none⟩) k k,k,b7,1⟩) (by simp)),(HD.out.kept hZ.kept hZ.wk).rowsT⟩,d0,d1,d2,e7,e6,f9.out _ e9,hZ.grown⟩
 first|exact .inr ⟨H2,rfl,h7⟩|exact⟨H2,rfl,h7⟩|exact⟨rfl,h7⟩|exact⟨H2,h7⟩
theorem pI {w:World}{b m:Nat}{e:TypeId}{z:Value}(h:(madeCells #[z] m).toList=List.replicate m z)(hb:b<=w.heap.size)(hm:m<=maxLen):(w.alloc (.cells (madeCells #[z] m) e)).ownsRow b e 1 (.slice (some ⟨w.heap.size,0,none⟩) m m) m (List.replicate m z):=by
 refine⟨by simp,.inr ⟨w.heap.size,m,_,rfl,hb,heap_alloc_new w _,Nat.le_refl _,hm,?_,?_⟩⟩
 ·rw[<-Array.length_toList,h];simp
 rw[h];simp
inductive pm7I (k m o5 b5 gb rb rf cR r0 ro rc:Nat)(im:List Nat)(w5:World)(a0:Act)(l:Array Bool)(a:Act)(w:World):Prop
 | mk (x42:Value) (x44:Value) (x49:Value) (x51:Value) (x52:Value) (x8:Value) (o:Nat) (ha:a=zM a0 [(42,x42),(44,x44),(49,x49),(51,x51),(52,x52),(8,x8)]) (HR:∀j∈[0,1,2,3,4,5,7,9,10,11,12,14],l.getD j true=true) (H6:Hid (l.getD 6 true=true->∃g,x42=.slice (some ⟨g,0,none⟩) m m/\w.ownsRow w5.heap.size 22 1 (.slice (some ⟨g,0,none⟩) m m) m (List.replicate m (.slice none 0 0)))) (H8:Hid (l.getD 8 true=true->∃g,x44=.slice (some ⟨g,0,none⟩) m m/\w.ownsRow w5.heap.size 9 1 (.slice (some ⟨g,0,none⟩) m m) m (List.replicate m (.string ⟨#[]⟩)))) (H13:Hid (l.getD 13 true=true->∃g c,x49=.slice (some ⟨g,0,none⟩) k c/\k<=c/\c<=maxLen/\w.ownsRow w5.heap.size 3 1 (.slice (some ⟨g,0,none⟩) k c) k (nats im))) (H15:Hid (l.getD 15 true=true->∃g,x51=.slice (some ⟨g,0,none⟩) m m/\w.ownsRow w5.heap.size 4 1 (.slice (some ⟨g,0,none⟩) m m) m (List.replicate m (.bool false)))) (H16:Hid (l.getD 16 true=true->l.getD 6 true=true/\l.getD 8 true=true/\l.getD 13 true=true/\l.getD 15 true=true/\x52=.agg #[.int .i64 k,x42,x44,x49,.slice none 0 0,x51])) (H17:Hid (l.getD 17 true=true->x8=.pointer (some ⟨o,0,none⟩)/\w5.heap.size<=o)) (B1:Hid (l.getD 17 true=true->(l.getD 18 true=false->w.heap[o]?=some (.cells #[.int .i64 0,.slice none 0 0,.slice none 0 0,.slice none 0 0,.slice none 0 0,.slice none 0 0] 44 (0,0))))) (B2:Hid (l.getD 18 true=true->l.getD 6 true=true/\l.getD 8 true=true/\l.getD 13 true=true/\l.getD 15 true=true/\l.getD 16 true=true/\l.getD 17 true=true/\w.heap[o]?=some (.cells #[.int .i64 k,x42,x44,x49,.slice none 0 0,x51] 44 (0,0)))) (HG:(w5.grownBy w none))
theorem qPG {k m o5 b5 gb rb rf cR r0 ro rc:Nat}{im:List Nat}{w5:World}{a0:Act}{l:Array Bool}{a:Act}{w:World}(hc:w5.cell? ⟨o5,0,none⟩=some (.slice (some ⟨gb,0,none⟩) k k)/\w5.cell? ⟨b5,6,none⟩=some (.slice (some ⟨rb,rf,none⟩) m cR)/\w5.cell? ⟨rb,rf,none⟩=some (.slice (some ⟨r0,ro,none⟩) k rc))(h:pm7I k m o5 b5 gb rb rf cR r0 ro rc im w5 a0 l a w):xU 18 (fun W=>W.cell? ⟨o5,0,none⟩=some (.slice (some ⟨gb,0,none⟩) k k)/\W.cell? ⟨b5,6,none⟩=some (.slice (some ⟨rb,rf,none⟩) m cR)/\W.cell? ⟨rb,rf,none⟩=some (.slice (some ⟨r0,ro,none⟩) k rc)) (fun _=>True) l w:=by
 obtain⟨x42,x44,x49,x51,x52,x8,o,ha,HR,H6,H8,h3,h2,h1,h0,B1,B2,HG⟩:=h;exact⟨⟨zJ hc.1 HG,zJ hc.2.1 HG,zJ hc.2.2 HG⟩,fun _=>trivial⟩
theorem jJ {k m o5 b5 gb rb rf cR r0 ro rc:Nat}{im:List Nat}{w5:World}{a0:Act}{l:Array Bool}{a:Act}{w:World}(h:pm7I k m o5 b5 gb rb rf cR r0 ro rc im w5 a0 l a w):∀j∈[0,1,2,3,4,5,7,9,10,11,12,14],l.getD j true=true:=by
 obtain⟨x42,x44,x49,x51,x52,x8,o,ha,HR,H6,H8,h3,h2,h1,h0,B1,B2,HG⟩:=h;exact HR
theorem qGE {k m o5 b5 gb rb rf cR r0 ro rc:Nat}{im:List Nat}{w5:World}{v0 v1 v2 v3 v4 v5 v6 v7 v8 v9 y2 y3 y4 y5 y6 y7 y8 y9 x0 x1 x2 x3 x4 x5 x6 x7 x9 t0 t1 t2 t3 t4 t5 t6 t7 t8 t9 r1 r2 r3 r4 r5 r6 r7 r8 r9 q0 q1 q2 q3 q4 q5 q6 q7 q8 q9 p0 p1 p2 p3 p4 p5 p6 p7 p8 p9 o0 o1 o2 o3 o4 o6 o7 o8 o9 n0 n1 n2 n3 n4 n5 n6 n7 n8 n9 m0 m1 m2 m7 m8 m9 l0 l1 l2 l3 l4 l5 l6 l7 l8 l9 k6 k7 k8 k9 j0 j1 j2 j3 j4 j5 j6 j7 j8 j9 i0 i1 i2 i3 i4 i5 i6 i7 i8 i9 g0 g1 g2 g3 g4 g5 g7 g9 f6 f7 f8 f9 e0 e1 e2 e3 e4 e5 e6 e7 e8 e9 d0 d1 d2 d3 d4 d5 d6 d7 d8 d9 c0 c1 c2 c3 c4 c5 c7 c8 c9 b0 b1 b2 b3 b4 b6 b7 b8 b9 a1 a2 a3 a4 a5 a6 a7 a8:Value}{dd:_}{a0:Act}(a9:a0=⟨#[v0,v1,v2,v3,v4,v5,v6,v7,v8,v9,y2,y3,y4,y5,y6,y7,y8,y9,x0,x1,x2,x3,x4,x5,x6,x7,x9,t0,t1,t2,t3,t4,t5,t6,t7,t8,.pointer (some ⟨o5,0,none⟩),.pointer (some ⟨o5,0,none⟩),.pointer (some ⟨o5,0,none⟩),.slice (some ⟨gb,0,none⟩) k k,.int .i64 k,.int .i64 m,t9,.int .i64 m,r1,.pointer (some ⟨b5,6,none⟩),.slice (some ⟨rb,rf,none⟩) m cR,.pointer (some ⟨rb,rf,none⟩),.slice (some ⟨r0,ro,none⟩) k rc,r2,.int .i64 m,r3,r4,r5,r6,r7,r8,r9,q0,q1,q2,q3,q4,q5,q6,q7,q8,q9,p0,p1,p2,p3,p4,p5,p6,p7,p8,p9,o0,o1,o2,o3,o4,o6,o7,o8,o9,n0,n1,n2,n3,n4,n5,n6,n7,n8,n9,m0,m1,m2,m7,m8,m9,l0,l1,l2,l3,l4,l5,l6,l7,l8,l9,k6,k7,k8,k9,j0,j1,j2,j3,j4,j5,j6,j7,j8,j9,i0,i1,i2,i3,i4,i5,i6,i7,i8,i9,g0,g1,g2,g3,g4,g5,g7,g9,f6,f7,f8,f9,e0,e1,e2,e3,e4,e5,e6,e7,e8,e9,d0,d1,d2,d3,d4,d5,d6,d7,d8,d9,c0,c1,c2,c3,c4,c5,c7,c8,c9,b0,b1,b2,b3,b4,b6,b7,b8,b9,a1,a2,a3,a4,a5,a6,a7,a8],dd⟩)(z8:∀w:World,(Instr.makeSlice 35 (.int .i64 (m:Int)) (.int .i64 (m:Int))).run Try.prog w=.ok (.slice (some ⟨w.heap.size,0,none⟩) m m) (w.alloc (.cells (madeCells #[(.slice none 0 0)] m) 22)))(z9:∀w:World,(Instr.makeSlice 42 (.int .i64 (m:Int)) (.int .i64 (m:Int))).run Try.prog w=.ok (.slice (some ⟨w.heap.size,0,none⟩) m m) (w.alloc (.cells (madeCells #[(.string ⟨#[]⟩)] m) 9)))(m3:∀w:World,(Instr.makeSlice 26 (.int .i64 (m:Int)) (.int .i64 (m:Int))).run Try.prog w=.ok (.slice (some ⟨w.heap.size,0,none⟩) m m) (w.alloc (.cells (madeCells #[(.bool false)] m) 4)))(y0:Hid ((madeCells #[(.slice none 0 0)] m).toList=List.replicate m (.slice none 0 0)))(y1:Hid ((madeCells #[(.string ⟨#[]⟩)] m).toList=List.replicate m (.string ⟨#[]⟩)))(m5:Hid ((madeCells #[(.bool false)] m).toList=List.replicate m (.bool false)))(m4:m<=maxLen)(z7:∀W:World,w5.grownBy W none->Calls Try.prog 49 #[.slice (some ⟨r0,ro,none⟩) k rc] W fun e w'=>∃g c,e=.returned (.slice (some ⟨g,0,none⟩) k c)/\k<=c/\c<=maxLen/\w'.ownsRow w5.heap.size 3 1 (.slice (some ⟨g,0,none⟩) k c) k (nats im)/\W.grownBy w' none)(m6:Array Oper)(Q7:Exit->Act->World->Prop):qU (kE Try.prog .any m6 Q7 (pm7I k m o5 b5 gb rb rf cR r0 ro rc im w5 a0)) 0 (rI Try.f31 7).toList:=by
 refine⟨?s0,?s1,?s2,?s3,?s4,?s5,?s6,?s7,?s8,?s9,?s10,?s11,?s12,?s13,?s14,?s15,?s16,?s17,?s18,trivial⟩
 case s0 =>
  exact fun l a w h h0=>absurd (jJ h 0 (by simp)) (by rw[h0];simp)
 case s1 =>
  exact fun l a w h h0=>absurd (jJ h 1 (by simp)) (by rw[h0];simp)
 case s2 =>
  exact fun l a w h h0=>absurd (jJ h 2 (by simp)) (by rw[h0];simp)
 case s3 =>
  exact fun l a w h h0=>absurd (jJ h 3 (by simp)) (by rw[h0];simp)
 case s4 =>
  exact fun l a w h h0=>absurd (jJ h 4 (by simp)) (by rw[h0];simp)
 case s5 =>
  exact fun l a w h h0=>absurd (jJ h 5 (by simp)) (by rw[h0];simp)
 case s6 =>
  intro l a w h h0 h3 K hK;obtain⟨x42,x44,x49,x51,x52,x8,o,ha,HR,H6,H8,h7,h6,h4,h5,B1,B2,HG⟩:=h;subst ha;rw[a9];simp only[zM,List.foldl_cons,List.foldl_nil,Act.put,sPa,sPb,sPc];go_simp;have z0:=pI (e:=22) y0.out HG.size m4;refine hK.out _ _ ?_;refine⟨(.slice (some ⟨w.heap.size,0,none⟩) m m),x44,x49,x51,x52,x8,o,?fa6,fun j hj=>zD (HR j hj),Kh (fun _=>⟨w.heap.size,rfl,z0⟩),Kh (fun h=>let ⟨g,e,ho⟩:=H8.out (zE (by decide) h);⟨g,e,zX ho (Ga w (.cells (madeCells #[(.slice none 0 0)] m) 22) none)⟩),Kh (fun h=>let ⟨g,c,e,h1,h2,ho⟩:=h7.out (zE (by decide) h);⟨g,c,e,h1,h2,zX ho (Ga w (.cells (madeCells #[(.slice none 0 0)] m) 22) none)⟩),Kh (fun h=>let ⟨g,e,ho⟩:=h6.out (zE (by decide) h);⟨g,e,zX ho (Ga w (.cells (madeCells #[(.slice none 0 0)] m) 22) none)⟩),(hs7A h4 h0),(hs7P h5),Kh (fun h h9=>zB (B1.out (zE (by decide) h) (zI h9)) (Ga w (.cells (madeCells #[(.slice none 0 0)] m) 22) none)),(hs7A B2 h0),zC HG (Ga w (.cells (madeCells #[(.slice none 0 0)] m) 22) none)⟩
  case fa6=>rw[a9];simp only[zM,List.foldl_cons,List.foldl_nil,Act.put,sPa,sPb,sPc]
 case s7 =>
  exact fun l a w h h0=>absurd (jJ h 7 (by simp)) (by rw[h0];simp)
 case s8 =>
  intro l a w h h0 h3 K hK;obtain⟨x42,x44,x49,x51,x52,x8,o,ha,HR,H6,H8,h7,h6,h4,h5,B1,B2,HG⟩:=h;subst ha;rw[a9];simp only[zM,List.foldl_cons,List.foldl_nil,Act.put,sPa,sPb,sPc];go_simp;have z0:=pI (e:=9) y1.out HG.size m4;refine hK.out _ _ ?_;refine⟨x42,(.slice (some ⟨w.heap.size,0,none⟩) m m),x49,x51,x52,x8,o,?fa8,fun j hj=>zD (HR j hj),Kh (fun h=>let ⟨g,e,ho⟩:=H6.out (zE (by decide) h);⟨g,e,zX ho (Ga w (.cells (madeCells #[(.string ⟨#[]⟩)] m) 9) none)⟩),Kh (fun _=>⟨w.heap.size,rfl,z0⟩),Kh (fun h=>let ⟨g,c,e,h1,h2,ho⟩:=h7.out (zE (by decide) h);⟨g,c,e,h1,h2,zX ho (Ga w (.cells (madeCells #[(.string ⟨#[]⟩)] m) 9) none)⟩),Kh (fun h=>let ⟨g,e,ho⟩:=h6.out (zE (by decide) h);⟨g,e,zX ho (Ga w (.cells (madeCells #[(.string ⟨#[]⟩)] m) 9) none)⟩),(hs7B h4 h0),(hs7P h5),Kh (fun h h9=>zB (B1.out (zE (by decide) h) (zI h9)) (Ga w (.cells (madeCells #[(.string ⟨#[]⟩)] m) 9) none)),(hs7B B2 h0),zC HG (Ga w (.cells (madeCells #[(.string ⟨#[]⟩)] m) 9) none)⟩
  case fa8=>rw[a9];simp only[zM,List.foldl_cons,List.foldl_nil,Act.put,sPa,sPb,sPc]
 case s9 =>
  exact fun l a w h h0=>absurd (jJ h 9 (by simp)) (by rw[h0];simp)
 case s10 =>
  exact fun l a w h h0=>absurd (jJ h 10 (by simp)) (by rw[h0];simp)
 case s11 =>
  exact fun l a w h h0=>absurd (jJ h 11 (by simp)) (by rw[h0];simp)
 case s12 =>
  exact fun l a w h h0=>absurd (jJ h 12 (by simp)) (by rw[h0];simp)
 case s13 =>
  intro l a w h h0 h3 K hK;obtain⟨x42,x44,x49,x51,x52,x8,o,ha,HR,H6,H8,h7,h6,h4,h5,B1,B2,HG⟩:=h;subst ha;rw[a9];simp only[zM,List.foldl_cons,List.foldl_nil,Act.put,sPa,sPb,sPc];go_simp
  go_at_call 49
  refine(z7 w HG).mono ?_;rintro e w6 ⟨g6,c6,rfl,A1,A2,H5,H9⟩;refine hK.out _ _ ?_;refine⟨x42,x44,(.slice (some ⟨g6,0,none⟩) k c6),x51,x52,x8,o,?fa13,fun j hj=>zD (HR j hj),Kh (fun h=>let ⟨g,e,ho⟩:=H6.out (zE (by decide) h);⟨g,e,zX ho H9⟩),Kh (fun h=>let ⟨g,e,ho⟩:=H8.out (zE (by decide) h);⟨g,e,zX ho H9⟩),Kh (fun _=>⟨g6,c6,rfl,A1,A2,H5⟩),Kh (fun h=>let ⟨g,e,ho⟩:=h6.out (zE (by decide) h);⟨g,e,zX ho H9⟩),Kh (fun h=>absurd (h4.out (zE (by decide) h)).2.2.1 (by rw[h0];simp)),(hs7P h5),Kh (fun h h9=>zB (B1.out (zE (by decide) h) (zI h9)) H9),Kh (fun h=>absurd (B2.out (zE (by decide) h)).2.2.1 (by rw[h0];simp)),zC HG H9⟩
  case fa13=>rw[a9];simp only[zM,List.foldl_cons,List.foldl_nil,Act.put,sPa,sPb,sPc]
 case s14 =>
  exact fun l a w h h0=>absurd (jJ h 14 (by simp)) (by rw[h0];simp)
 case s15 =>
  intro l a w h h0 h3 K hK;obtain⟨x42,x44,x49,x51,x52,x8,o,ha,HR,H6,H8,h7,h6,h4,h5,B1,B2,HG⟩:=h;subst ha;rw[a9];simp only[zM,List.foldl_cons,List.foldl_nil,Act.put,sPa,sPb,sPc];go_simp;have z0:=pI (e:=4) m5.out HG.size m4;refine hK.out _ _ ?_;refine⟨x42,x44,x49,(.slice (some ⟨w.heap.size,0,none⟩) m m),x52,x8,o,?fa15,fun j hj=>zD (HR j hj),Kh (fun h=>let ⟨g,e,ho⟩:=H6.out (zE (by decide) h);⟨g,e,zX ho (Ga w (.cells (madeCells #[(.bool false)] m) 4) none)⟩),Kh (fun h=>let ⟨g,e,ho⟩:=H8.out (zE (by decide) h);⟨g,e,zX ho (Ga w (.cells (madeCells #[(.bool false)] m) 4) none)⟩),Kh (fun h=>let ⟨g,c,e,h1,h2,ho⟩:=h7.out (zE (by decide) h);⟨g,c,e,h1,h2,zX ho (Ga w (.cells (madeCells #[(.bool false)] m) 4) none)⟩),Kh (fun _=>⟨w.heap.size,rfl,z0⟩),Kh (fun h=>absurd (h4.out (zE (by decide) h)).2.2.2.1 (by rw[h0];simp)),(hs7P h5),Kh (fun h h9=>zB (B1.out (zE (by decide) h) (zI h9)) (Ga w (.cells (madeCells #[(.bool false)] m) 4) none)),Kh (fun h=>absurd (B2.out (zE (by decide) h)).2.2.2.1 (by rw[h0];simp)),zC HG (Ga w (.cells (madeCells #[(.bool false)] m) 4) none)⟩
  case fa15=>rw[a9];simp only[zM,List.foldl_cons,List.foldl_nil,Act.put,sPa,sPb,sPc]
 case s16 =>
  intro l a w h h0 h3 K hK;obtain⟨x42,x44,x49,x51,x52,x8,o,ha,HR,H6,H8,h7,h6,h4,h5,B1,B2,HG⟩:=h;have DH6:=H6.out (zK (h3 ⟨6,.data⟩ (by simp) rfl));have DH8:=H8.out (zK (h3 ⟨8,.data⟩ (by simp) rfl));have DH13:=h7.out (zK (h3 ⟨13,.data⟩ (by simp) rfl));have DH15:=h6.out (zK (h3 ⟨15,.data⟩ (by simp) rfl));obtain⟨g6,rfl,z2⟩:=DH6;obtain⟨g8,rfl,z1⟩:=DH8;obtain⟨g13,c13,rfl,H1,H4,H0⟩:=DH13;obtain⟨g15,rfl,h8⟩:=DH15;subst ha;rw[a9];simp only[zM,List.foldl_cons,List.foldl_nil,Act.put,sPa,sPb,sPc];go_simp;refine hK.out _ _ ?_;refine⟨(.slice (some ⟨g6,0,none⟩) m m),(.slice (some ⟨g8,0,none⟩) m m),(.slice (some ⟨g13,0,none⟩) k c13),(.slice (some ⟨g15,0,none⟩) m m),(.agg #[.int .i64 k,(.slice (some ⟨g6,0,none⟩) m m),(.slice (some ⟨g8,0,none⟩) m m),(.slice (some ⟨g13,0,none⟩) k c13),.slice none 0 0,(.slice (some ⟨g15,0,none⟩) m m)]),x8,o,?fa16,fun j hj=>zD (HR j hj),Kh (fun _=>⟨g6,rfl,z2⟩),Kh (fun _=>⟨g8,rfl,z1⟩),Kh (fun _=>⟨g13,c13,rfl,H1,H4,H0⟩),Kh (fun _=>⟨g15,rfl,h8⟩),Kh (fun _=>⟨zD (zK (h3 ⟨6,.data⟩ (by simp) rfl)),zD (zK (h3 ⟨8,.data⟩ (by simp) rfl)),zD (zK (h3 ⟨13,.data⟩ (by simp) rfl)),zD (zK (h3 ⟨15,.data⟩ (by simp) rfl)),rfl⟩),(hs7P h5),Kh (fun h h9=>B1.out (zE (by decide) h) (zI h9)),Kh (fun h=>absurd (B2.out (zE (by decide) h)).2.2.2.2.1 (by rw[h0];simp)),HG⟩
  case fa16=>rw[a9];simp only[zM,List.foldl_cons,List.foldl_nil,Act.put,sPa,sPb,sPc]
 case s17 =>
  intro l a w h h0 h3 K hK;obtain⟨x42,x44,x49,x51,x52,x8,o,ha,HR,H6,H8,h7,h6,h4,h5,B1,B2,HG⟩:=h;subst ha;rw[a9];simp only[zM,List.foldl_cons,List.foldl_nil,Act.put,sPa,sPb,sPc];go_simp;refine hK.out _ _ ?_;refine⟨x42,x44,x49,x51,x52,(.pointer (some ⟨w.heap.size,0,none⟩)),w.heap.size,?fa17,fun j hj=>zD (HR j hj),Kh (fun h=>let ⟨g,e,ho⟩:=H6.out (zE (by decide) h);⟨g,e,zX ho (Ga w (.cells #[.int .i64 0,.slice none 0 0,.slice none 0 0,.slice none 0 0,.slice none 0 0,.slice none 0 0] 44) none)⟩),Kh (fun h=>let ⟨g,e,ho⟩:=H8.out (zE (by decide) h);⟨g,e,zX ho (Ga w (.cells #[.int .i64 0,.slice none 0 0,.slice none 0 0,.slice none 0 0,.slice none 0 0,.slice none 0 0] 44) none)⟩),Kh (fun h=>let ⟨g,c,e,h1,h2,ho⟩:=h7.out (zE (by decide) h);⟨g,c,e,h1,h2,zX ho (Ga w (.cells #[.int .i64 0,.slice none 0 0,.slice none 0 0,.slice none 0 0,.slice none 0 0,.slice none 0 0] 44) none)⟩),Kh (fun h=>let ⟨g,e,ho⟩:=h6.out (zE (by decide) h);⟨g,e,zX ho (Ga w (.cells #[.int .i64 0,.slice none 0 0,.slice none 0 0,.slice none 0 0,.slice none 0 0,.slice none 0 0] 44) none)⟩),Kh (fun h=>⟨zD (h4.out (zE (by decide) h)).1,zD (h4.out (zE (by decide) h)).2.1,zD (h4.out (zE (by decide) h)).2.2.1,zD (h4.out (zE (by decide) h)).2.2.2.1,(h4.out (zE (by decide) h)).2.2.2.2⟩),Kh (fun _=>⟨rfl,HG.size⟩),Kh (fun _ _=>heap_alloc_new w _),Kh (fun h=>absurd (B2.out (zE (by decide) h)).2.2.2.2.2.1 (by rw[h0];simp)),zC HG (Ga w (.cells #[.int .i64 0,.slice none 0 0,.slice none 0 0,.slice none 0 0,.slice none 0 0,.slice none 0 0] 44) none)⟩
  case fa17=>rw[a9];simp only[zM,List.foldl_cons,List.foldl_nil,Act.put,sPa,sPb,sPc]
 intro l a w h h0 h3 K hK;obtain⟨x42,x44,x49,x51,x52,x8,o,ha,HR,H6,H8,h7,h6,h4,h5,B1,B2,HG⟩:=h;have DH17:=h5.out (zK (h3 ⟨17,.data⟩ (by simp) rfl));have DB1:=B1.out (zK (h3 ⟨17,.data⟩ (by simp) rfl));have DH16:=h4.out (zK (h3 ⟨16,.data⟩ (by simp) rfl));obtain⟨rfl,ho⟩:=DH17;obtain⟨z4,z3,H3,H2,rfl⟩:=DH16;have z6:=zK (h3 ⟨16,.data⟩ (by simp) rfl);have z5:=zK (h3 ⟨17,.data⟩ (by simp) rfl);obtain⟨g6,rfl,z2⟩:=H6.out z4;obtain⟨g8,rfl,z1⟩:=H8.out z3;obtain⟨g13,c13,rfl,H1,H4,H0⟩:=h7.out H3;obtain⟨g15,rfl,h8⟩:=h6.out H2;have hb:=DB1 h0;subst ha;rw[a9];simp only[zM,List.foldl_cons,List.foldl_nil,Act.put,sPa,sPb,sPc];obtain⟨k0,k1,k2,k3,k4,k5⟩:=zV hb;have f0:=zA hb 0;have f1:=zA hb 1;have f2:=zA hb 2;have f3:=zA hb 3;have f4:=zA hb 4;have f5:=zA hb 5;go_simp;obtain⟨A0,H7⟩:=vZ hb (.int .i64 k) (.slice (some ⟨g6,0,none⟩) m m) (.slice (some ⟨g8,0,none⟩) m m) (.slice (some ⟨g13,0,none⟩) k c13) (.slice none 0 0) (.slice (some ⟨g15,0,none⟩) m m);refine hK.out _ _ ?_;refine⟨(.slice (some ⟨g6,0,none⟩) m m),(.slice (some ⟨g8,0,none⟩) m m),(.slice (some ⟨g13,0,none⟩) k c13),(.slice (some ⟨g15,0,none⟩) m m),(.agg #[.int .i64 k,(.slice (some ⟨g6,0,none⟩) m m),(.slice (some ⟨g8,0,none⟩) m m),(.slice (some ⟨g13,0,none⟩) k c13),.slice none 0 0,(.slice (some ⟨g15,0,none⟩) m m)]),(.pointer (some ⟨o,0,none⟩)),o,?fa18,fun j hj=>zD (HR j hj),Kh (fun _=>⟨g6,rfl,z2.kept H7 (.inr (zS z2 hb (by decide)))⟩),Kh (fun _=>⟨g8,rfl,z1.kept H7 (.inr (zS z1 hb (by decide)))⟩),Kh (fun _=>⟨g13,c13,rfl,H1,H4,H0.kept H7 (.inr (zS H0 hb (by decide)))⟩),Kh (fun _=>⟨g15,rfl,h8.kept H7 (.inr (zS h8 hb (by decide)))⟩),Kh (fun _=>⟨zD z4,zD z3,zD H3,zD H2,rfl⟩),Kh (fun _=>⟨rfl,ho⟩),Kh (fun _ h9=>yB h9),Kh (fun _=>⟨zD z4,zD z3,zD H3,zD H2,zD z6,zD z5,A0⟩),yN HG H7 (by show _<=o;omega)⟩
 case fa18=>rw[a9];simp only[zM,List.foldl_cons,List.foldl_nil,Act.put,sPa,sPb,sPc]
theorem qNC {Q:Exit->Act->World->Prop}{v0 v1 v2 v3 v4 v5 v6 v7 v8 v9 e1 e2 e3 e4 e5 e6 e7 e8 e9 d0 d1 d2 d3 d4 d5 d6 d7 d8 c0 c3 c4 c5 c6 c7 c8 b0 b1 b2 b3 b4 b5 b6 b7 b8 g5 g6 g7 g8 g9 f0 f1 f2 f4 f5 f6 f7 f8 e0 b9 a0 a1 a2 a3 a4 a5 a6 a7 a8:Value}{dd:_}{w:World}{g n cap i j:Nat}{l:List Int}(h:BRow w g l)(hl:l.length=n)(hi:i<n)(hj:j<n)(hn:n<=2048)(a9:∀(z47 z48 z49 z50 z51 z52 z53 z54 z55 z56 z57 z58 z59 z60:Value) (w':World),BRow w' g ((l.set i (l.getD j 0)).set j (l.getD i 0))->w.grownBy w' (some g)->Q .normal ⟨(v0::v1::v2::v3::v4::v5::v6::v7::v8::v9::(Value.slice (some ⟨g,0,none⟩) n cap)::e1::e2::(Value.int .i64 (i:Int))::(Value.int .i64 (j:Int))::e3::e4::e5::e6::e7::e8::e9::d0::d1::d2::d3::d4::d5::d6::d7::d8::c0::c3::c4::c5::c6::c7::c8::b0::b1::b2::b3::b4::b5::b6::b7::b8::z47::z48::z49::z50::z51::z52::z53::z54::z55::z56::z57::z58::z59::z60::b9::a0::a1::a2::a3::a4::a5::a6::a7::a8::[]).toArray,dd⟩ w'):Code.wp Try.prog (reg Try.f3 11) Q ⟨(v0::v1::v2::v3::v4::v5::v6::v7::v8::v9::(Value.slice (some ⟨g,0,none⟩) n cap)::e1::e2::(Value.int .i64 (i:Int))::(Value.int .i64 (j:Int))::e3::e4::e5::e6::e7::e8::e9::d0::d1::d2::d3::d4::d5::d6::d7::d8::c0::c3::c4::c5::c6::c7::c8::b0::b1::b2::b3::b4::b5::b6::b7::b8::g5::g6::g7::g8::g9::f0::f1::f2::f4::f5::f6::f7::f8::e0::b9::a0::a1::a2::a3::a4::a5::a6::a7::a8::[]).toArray,dd⟩ w:=by
 obtain⟨x,hx⟩:=Nm (l.getD i 0);obtain⟨y,hy⟩:=Nm (l.getD j 0);rw[<-hx,<-hy]at a9;obtain⟨HX,HY,H,HL,HE⟩:=K5 hx hy h hl a9
 have h8:Hid (∀W:World,w.grownBy W none->W.cell? ⟨g,j,none⟩=some (.int .u8 y)/\W.cell? ⟨g,i,none⟩=some (.int .u8 x)):=Kh (fun W hg=>by
  have hb:=H.out.kept hg (by simp);have c1:=hb.cell (j:=j) (by rw[HL.out];exact hj);have c2:=hb.cell (j:=i) (by rw[HL.out];exact hi);rw[<-HY.out]at c1;rw[<-HX.out]at c2
  exact⟨c1,c2⟩)
 have H0:(i:Int)<n:=by omega
 have h9:(j:Int)<n:=by omega
 clear hx hy h hl a9
 conv=>arg 2;whnf
 obtain⟨w7,h1⟩:=Nm w.drew;have h2:w.grownBy w7 none:=by rw[h1];exact zY w none
 have h7:=Kh h1;have h5:=Kh h2;have H7:=Kh (H.out.kept h2 (by simp));clear h1 h2;refine wp_region_noPanic ?_;refine yK (G:=xU 13 (fun _=>True) (fun W=>W.cell? ⟨g,j,none⟩=some (.int .u8 y)/\W.cell? ⟨g,i,none⟩=some (.int .u8 x))) (by kernel_rfl) ?_;rw[<-h7.out];have C:=Kh (h8.out w7 h5.out);refine zL 0 ⟨trivial,fun _=>C.out⟩ ?_;refine zL 1 ⟨trivial,fun _=>C.out⟩ ?_;refine zL 2 ⟨trivial,fun _=>C.out⟩ ?_;refine zL 3 ⟨trivial,fun _=>C.out⟩ ?_;refine zL 4 ⟨trivial,fun _=>C.out⟩ ?_;refine zL 5 ⟨trivial,fun _=>C.out⟩ ?_;refine zL 6 ⟨trivial,fun _=>C.out⟩ ?_;refine yV 7 ⟨trivial,fun _=>C.out⟩ ?_;refine zL 8 ⟨trivial,fun _=>C.out⟩ ?_;refine zL 9 ⟨trivial,fun _=>C.out⟩ ?_;refine zL 10 ⟨trivial,fun _=>C.out⟩ ?_;refine yV 11 ⟨trivial,fun _=>C.out⟩ ?_;refine zL 12 ⟨trivial,fun _=>C.out⟩ ?_;obtain⟨c9,d9⟩:=C.out;have f9:=H7.out.frozen (j:=i) (by rw[HL.out];exact hi);obtain⟨w8,h0⟩:=Nm (w7.setCell ⟨g,i,none⟩ (.int .u8 y));have H8:=Kh (H7.out.set (j:=i) (by rw[HL.out];exact hi) y);have h4:=Kh (zG w7 ⟨g,i,none⟩ (.int .u8 y));rw[<-h0]at H8 h4;have h6:=Kh h0;clear h0;refine oneG (i:=13) (by kernel_rfl) rfl (fun K hK=>?_);go_simp;rw[<-h6.out];refine hK.out _ _ ⟨trivial,fun h=>by simp at h⟩ ?_;clear hK K c9 d9 f9
 try simp only[Act.put,sPd,sPe,sPf,sPa,sPb,sPc]
 refine oneG (i:=14) (by kernel_rfl) rfl (fun K hK=>?_);go_simp;refine hK.out _ _ ⟨trivial,fun h=>by simp at h⟩ ?_;clear hK K
 try simp only[Act.put,sPd,sPe,sPf,sPa,sPb,sPc]
 have c9:=H8.out.cell (j:=j) (by rw[List.length_set,HL.out];exact hj);obtain⟨u9,h3⟩:=Nm ((l.set i y).getD j 0);rw[<-h3]at c9;have f9:=H8.out.frozen (j:=j) (by rw[List.length_set,HL.out];exact hj);clear h3;refine oneG (i:=15) (by kernel_rfl) rfl (fun K hK=>?_);go_simp;refine hK.out _ _ ⟨trivial,fun h=>by simp at h⟩ ?_;clear hK K c9 f9
 try simp only[Act.put,sPd,sPe,sPf,sPa,sPb,sPc]
 refine tY (by kernel_rfl) ?_ _;refine NoPanic.normal ?_;exact HE.out _ _ _ _ _ _ _ _ _ _ _ _ _ _  _ (H8.out.set (j:=j) (by rw[List.length_set,HL.out];exact hj) x) (zH (wR h5.out) (zH h4.out (zG w8 ⟨g,j,none⟩ (.int .u8 x))))
def powN (t:List (List Int))(x:Nat):Nat->Nat
 | 0=>0
 | i+1=>entN t (powN t x i) x
def vQ (t:List (List Int))(x L:Nat):List Nat:=(List.range L).map (powN t x)
theorem vH (t:List (List Int))(x L:Nat):(vQ t x L).length=L:=by simp[vQ]
theorem kK (t:List (List Int))(x L:Nat):vQ t x L++[powN t x L]=vQ t x (L+1):=by rw[vQ,vQ,List.range_succ,List.map_append];rfl
theorem bU {t:List (List Int)}{x L i:Nat}(h:i<L):(vQ t x L).getD i 0=powN t x i:=by
 rw[zN (by rw[vH];exact h)];simp[vQ]
theorem dS {t:List (List Int)}(hs:Shape t){x:Nat}(hx:x<t.length):∀i,powN t x i<t.length
 | 0=>hs.pos
 | i+1=>qK hs (dS hs hx i) hx
def PowR (t:List (List Int))(x L j:Nat):Prop:=(vQ t x L).Nodup/\j<L/\powN t x L=powN t x j
theorem qGC {t:List (List Int)}{x L i j:Nat}(h:(vQ t x L).Nodup)(hi:i<L)(hj:j<L)(e:powN t x i=powN t x j):i=j:=by
 have e1:(vQ t x L)[i]'(by rw[vH];exact hi)=(vQ t x L)[j]'(by rw[vH];exact hj):=by simpa [vQ] using e
 exact(List.getElem_inj h).1 e1
theorem PowR.le {t:List (List Int)}{x L j L' j':Nat}(h:PowR t x L j)(h':PowR t x L' j'):L'<=L:=by
 rcases Nat.lt_or_ge L L' with h1|h1
 ·have:=qGC h'.1 h1 (by have:=h.2.1;omega) h.2.2
  have:=h.2.1;omega
 exact h1
theorem PowR.eq {t:List (List Int)}{x L j L' j':Nat}(h:PowR t x L j)(h':PowR t x L' j'):L=L'/\j=j':=by
 have e:L=L':=Nat.le_antisymm (h'.le h) (h.le h');subst e;exact⟨rfl,qGC h.1 h.2.1 h'.2.1 (h.2.2.symm.trans h'.2.2)⟩
theorem qGB {t:List (List Int)}{x L:Nat}(h:(vQ t x L).Nodup)(hn:powN t x L ∉ vQ t x L):(vQ t x (L+1)).Nodup:=by
 rw[<-kK,List.nodup_append];exact⟨h,by simp,fun a ha b hb=>by rw[List.mem_singleton]at hb;subst hb;exact fun e=>hn (e ▸ ha)⟩
theorem jZ {t:List (List Int)}(hs:Shape t){x L:Nat}(hx:x<t.length)(h:(vQ t x L).Nodup):L<=t.length:=by
 have:=rS h (n:=t.length) (fun q hq=>by obtain⟨i,_,rfl⟩:=List.mem_map.1 hq;exact dS hs hx i)
 rwa [vH]at this
def vK (l:List Nat):List Int:=l.map fun(x:Nat)=>(x:Int)
theorem qGR {l:List Nat}{x:Nat}:(x:Int)∈vK l↔x∈l:=by
 constructor
 ·intro h
  obtain⟨y,hy,e⟩:=List.mem_map.1 h;have:y=x:=by omega
  rw[<-this];exact hy
 intro h;exact List.mem_map_of_mem h
theorem qGS {l:List Nat}{x:Nat}:(vK l).idxOf (x:Int)=l.idxOf x:=by
 induction l with
 | nil=>rfl
 | cons a l ih =>
  rw[vK,List.map_cons,List.idxOf_cons,List.idxOf_cons,<-vK,ih];by_cases h:a=x
  ·subst h;simp
  have h2:¬(a:Int)=(x:Int):=by omega
  have e1:((a:Int) == (x:Int))=false:=by rw[beq_eq_false_iff_ne];exact h2
  have e2:(a == x)=false:=by rw[beq_eq_false_iff_ne];exact h
  rw[e1,e2]
def qOQ (t:List (List Int))(x:Nat)(w:World)(e:Ending)(w':World):Prop :=
 ∃L j sa sc,PowR t x L j/\e=.returned (.tuple #[.slice sa L sc,.int .i64 (j:Int)])/\w'.ownsRow w.heap.size 3 1 (.slice sa L sc) L (nats (vQ t x L))/\w.grownBy w' none
theorem bV (B:Nat)(w:World)(b off cap:Nat)(RB RO RC:Nat->Nat)(t:List (List Int))(x:Nat)(hB:B<=w.heap.size)(hq:Sq B w t b off RB RO RC)(hs:Shape t)(a6:t.length<=cap)(a5:cap<=9223372036854775807)(hx:x<t.length):Calls Try.prog 34 #[.slice (some ⟨b,off,none⟩) t.length cap,.int .i64 (x:Int)] w (qOQ t x w):=by
 have e7:=@run_makeMap Try.prog;have d5:=hs.le;obtain⟨n,hN⟩:=Nm t.length;obtain⟨HN,HS,HQ⟩:=K3 hN hs hq;rw[<-hN]at a6 hx d5⊢;obtain⟨mb,H5⟩:=Nm w.heap.size;obtain⟨w1,H1⟩:=Nm (w.alloc (.map #[] 0));have c8:w.grownBy w1 none:=by rw[H1];exact Ga w _ none
 have b8:w1.heap.size=mb+1:=by rw[H1,zW,H5]
 have d0:Hid (sZ w1 mb 0 (vK (vQ t x 0))):=Kh (by rw[H1,H5];exact sZ.made w);obtain⟨e3,d8,H7,e8⟩:=K4 c8 H1 H5 b8;clear hs hq hN c8 H1 H5 b8;go_enter Try.func34,Try.ntmps34;go_upto_region 2 with fail;rw[<-d8.out,<-H7.out];go_wp2
 go_loopg [7,8,9,10] (n+1) (fun gh a7 a8 a9 a10 wr=>∃(L:Nat) (sa:Option Addr) (sc:Nat),gh+L=n+1/\a7=.slice sa L sc/\a8=.int .i64 ((powN t x L:Nat):Int)/\(vQ t x L).Nodup/\wr.ownsRow (mb+1) 3 1 (.slice sa L sc) L (nats (vQ t x L))/\sZ wr mb L (vK (vQ t x L))/\w.grownBy wr none)
 case atStart=>exact⟨0,none,0,rfl,rfl,rfl,by simp[vQ],by simpa [vQ,nats] using World.ownsRow_nil _ _ _ _,d0.out,e3.out⟩
 clear d0;obtain⟨L,sa,sc,a2,rfl,rfl,H2,h4,h3,H6⟩:=hrel;obtain⟨d2,e0,HO,b4,b6⟩:=K5 a2 H2 h4 h3 H6;have d3:=H6.size;have hp:=dS HS.out (by rw[<-HN.out];exact hx) L;rw[<-HN.out]at hp;have h6:=h3.lookup (x:=((powN t x L:Nat):Int)) ⟨by omega,by omega⟩;have hL:=jZ HS.out (by rw[<-HN.out];exact hx) H2;rw[<-HN.out]at hL;have b3:Hid (powN t x (L+1)=entN t (powN t x L) x):=Kh rfl;have b1:=Kh (kK t x L);have h0:((powN t x L:Nat):Int)∈vK (vQ t x L)↔powN t x L∈vQ t x L:=qGR;have h7:(vK (vQ t x L)).idxOf ((powN t x L:Nat):Int)=(vQ t x L).idxOf (powN t x L):=qGS;rw[h7]at h6;by_cases hin:powN t x L∈vQ t x L
 ·rw[if_pos (h0.2 hin),decide_eq_true (h0.2 hin)]at h6
  obtain⟨j,hj⟩:=Nm ((vQ t x L).idxOf (powN t x L));rw[<-hj]at h6
  have HP:Hid (PowR t x L j):=Kh (by
   have a1:j<(vQ t x L).length:=(by rw[hj];exact List.idxOf_lt_length_of_mem hin);have c7:j<L:=(by rw[vH]at a1;exact a1);refine⟨e0.out,c7,?_⟩;have e1:=List.getElem_idxOf (x:=powN t x L) (xs:=vQ t x L) (List.idxOf_lt_length_of_mem hin);rw[<-bU (t:=t) (x:=x) c7,zN a1];simp only[hj]
   exact e1.symm)
  obtain⟨p,H0⟩:=Nm (powN t x L);rw[<-H0]at h6⊢;clear a2 H2 h4 h3 H6 hp hL h0 h7 hin hj H0 d3;go_wp2;refine bodyPost_ret (v:=.tuple #[.slice sa L sc,.int .i64 (j:Int)]) (by simp[results,Try.results34,go_sem]) rfl ?_;exact⟨L,j,sa,sc,HP.out,rfl,wJ HO.out (by have:=H7.out;omega),b6.out⟩
 rw[if_neg (fun h=>hin (h0.1 h)),decide_eq_false (fun h=>hin (h0.1 h))]at h6;have H8:Hid (((powN t x L:Nat):Int) ∉ vK (vQ t x L)):=Kh (fun h=>hin (h0.1 h));have c9:=Kh (qGB H2 hin);have b0:Hid (vK (vQ t x L)++[((powN t x L:Nat):Int)]=vK (vQ t x (L+1))):=Kh (by rw[<-kK];simp[vK]);have d7:=jZ HS.out (by rw[<-HN.out];exact hx) c9.out;rw[<-HN.out]at d7;obtain⟨l,hl⟩:=Nm (vK (vQ t x L));have c6:l.length=L:=by rw[hl];simp[vK,vH]
 obtain⟨p,H0⟩:=Nm (powN t x L);rw[<-hl]at b4 H8 b0;rw[<-H0]at h6 H8 b0 hp b3 b1⊢;have d1:=Kh c6;have e9:=Kh H0;clear a2 H2 h4 h3 H6 hL h0 h7 hin hl c6 H0;go_upto_region 9 with (first|(at_mapUpdate;refine mA rfl _ _ _ rfl mb L l (p:Int) rfl rfl (by rw[d1.out];rfl) b4.out (by unfold maxLen;omega) ⟨by omega,by omega⟩ H8.out (by rw[d1.out];omega) ?_;intro w5 h1 a4)|fail);rw[b0.out]at h1;have h9:w.grownBy w5 none:=yN b6.out a4 (by show _<=mb;have:=H7.out;omega)
 have c4:(Value.slice sa L sc).ownBlock=none\/(Value.slice sa L sc).ownBlock≠some mb:=by
  rcases hv:(Value.slice sa L sc).ownBlock with _|k
  ·exact .inl rfl
  refine .inr (fun e=>?_);have e:k=mb:=Oj e;have:=(HO.out.lt k hv).1;omega
 have c0:=HO.out.kept a4 c4;have e4:=h9.size;obtain⟨b2,b5,H3⟩:=K3 c0 h1 h9;have d6:mb+1<=w5.heap.size:=by have:=h1.lt;omega
 clear h1 a4 h9 c0 h6 b4 H8 HO b6 c4;go_upto_region 4 with (first|(at_builtin;refine app1 rfl (.tmp 32) (.tmp 34) _ rfl yI (mb+1) _ L _ rfl b2.out _ rfl rfl ?c1 ?c2 ?c3 ?_)|fail)
 case c1=>unfold maxLen;omega
 case c2=>omega
 case c3=>exact d6
 intro sa6 sc6 w6 h2 a3 _;have h5:∀q,(Value.slice sa L sc).ownBlock=some q->w5.heap.size<=q\/mb+1<=q:=fun q hq=>.inr (b2.out.lt q hq).1;have h8:w.grownBy w6 none:=zC H3.out a3 (fun q e=>by rcases h5 q e with h|h<;>(have:=H7.out;omega));have c5:=(b5.out.kept a3 (fun e=>by rcases h5 mb e with h|h<;>(have:=b5.out.lt;omega)));have b9:nats (vQ t x L)++[.int .i64 (p:Int)]=nats (vQ t x (L+1)):=by rw[<-b1.out];simp[nats]
 rw[b9]at h2;have H4:=HQ.out.kept h8 (by simp);have chd:=H4.hd p (by rw[<-HN.out];exact hp);have cel:=H4.el p x (by rw[<-HN.out];exact hp) (by rw[<-HN.out];exact hx);have a0:=H4.cap p (by rw[<-HN.out];exact hp);have H9:=a0.1;have d4:RC p<=9223372036854775807:=by have:=a0.2;unfold maxLen at this;omega
 rw[<-HN.out]at chd H9;rw[<-b3.out]at cel;have e6:(p:Int)<n:=(by omega);have e5:(x:Int)<n:=(by omega);obtain⟨d9,b7,e2⟩:=K3 h2 h8 c5;obtain⟨y,hy⟩:=Nm (powN t x (L+1));rw[<-hy]at cel;have HY:=Kh hy;clear h2 a3 h5 h8 c5 b9 H4 a0 hy b3 b1 b5 b2 H3;go_wp2;go_roundg (n+1-(L+1))
 case measure=>have:=d2.out;omega
 exact⟨L+1,sa6,sc6,by have:=d2.out;omega,rfl,by rw[HY.out],c9.out,d9.out,e2.out,b7.out⟩
end Go.Proofs.Ytobakifdllameaa
namespace Go.Proofs.Ytobakifdllameaa
open Go.RowKit
theorem qDJ {t:List (List Int)}(h:400<t.length):sD t=3:=by rw[sD,if_pos h]
theorem kH {t:List (List Int)}(h:¬400<t.length){x:Nat}(hx:x<t.length)(hb:gY t.length (t.getD x [])=false):sD t=4:=by
 rw[sD,if_neg h,if_neg (by omega),if_neg];intro ha;have:=List.all_eq_true.1 ha t[x] (List.getElem_mem hx);rw[List.getD,List.getElem?_eq_getElem hx]at hb;rw[Option.getD_some,this]at hb;cases hb
theorem qFQ {t:List (List Int)}(h:¬400<t.length)(h0:0<t.length)(ha:∀x,x<t.length->gY t.length (t.getD x [])=true):sD t=0:=by
 rw[sD,if_neg h,if_neg (by omega),if_pos];rw[List.all_eq_true];intro r hr;obtain⟨x,hx,rfl⟩:=List.getElem_of_mem hr;have:=ha x hx
 rwa [List.getD,List.getElem?_eq_getElem hx]at this
theorem qFV {n:Nat}{r:List Int}(h:r.length≠n):gY n r=false:=by simp[gY,h]
theorem bR {n:Nat}{r:List Int}{y:Nat}(hy:y<r.length)(h:r.getD y 0<0\/n<=r.getD y 0):gY n r=false:=by
 rw[<-Bool.not_eq_true];intro hr;have:=(pH.1 hr).2 y hy;omega
def qOP (t:List (List Int))(k:Nat):Prop:=∀x,x<k->gY t.length (t.getD x [])=true
def qLD (t:List (List Int))(x y z:Nat):Prop:=entN t (entN t x y) z=entN t x (entN t y z)
def iH (t:List (List Int))(gs:List Nat):Prop:=∀g∈gs,pV t g
open Classical in
noncomputable def iX (t:List (List Int))(gs:List Nat):Bool:=decide (iH t gs)
theorem iW {t:List (List Int)}{gs:List Nat}(h:iH t gs):iX t gs=true:=by simp[iX,h]
theorem aL {t:List (List Int)}{gs:List Nat}{k:Nat}(hk:k<gs.length)(h:¬pV t (gs.getD k 0)):iX t gs=false:=by
 simp only[iX,decide_eq_false_iff_not];intro ha;refine h (ha _ ?_);simp only[List.getD,List.getElem?_eq_getElem hk];exact List.getElem_mem hk
def qNI (t:List (List Int))(bs:List Bool):Prop:=∀x,bs.getD x false=true->pV t x
def qLY (t:List (List Int))(gs:List Nat)(k:Nat):Prop:=∀i,i<k->pV t (gs.getD i 0)
def qPT (t:List (List Int))(g k:Nat):Prop:=∀x,x<k->∀y,y<t.length->qLD t x g y
def qPU (t:List (List Int))(x g k:Nat):Prop:=∀y,y<k->qLD t x g y
theorem qKI {t:List (List Int)}{gs:List Nat}(h:qLY t gs gs.length):iH t gs:=by
 intro g hg;obtain⟨i,hi,rfl⟩:=List.getElem_of_mem hg;have:=h i hi;simpa [List.getD,List.getElem?_eq_getElem hi] using this
theorem fE (B:Nat)(w:World)(v gv:Value)(t:List (List Int))(gs:List Nat)(hB:B<=w.heap.size)(h:Mat B w v t)(hs:Shape t)(hg:Row B w gv (nats gs))(a9:∀g∈gs,g<t.length):Calls Try.prog 98 #[v,gv] w fun e w'=>e=.returned (.bool (iX t gs))/\w.grownBy w' none:=by
 obtain⟨b,off,cap,RB,RO,RC,rfl,e2,c9,hq⟩:=h.sq hs;have d9:cap<=9223372036854775807:=by unfold maxLen at c9;omega
 have a4:=hg.len_le;rw[zQ]at a4;unfold maxLen at a4;obtain⟨ga,gc,rfl⟩:=hg.shape;rw[zQ];have c6:=hs.pos;have e0:=hs.le;obtain⟨HQ,HS,b6,d5⟩:=K4 hq hs hg a9;clear hq hs h hg a9;go_enter Try.func98,Try.ntmps98;go_wp2_with (at_make;refine qV rfl _ _ _ rfl wN rfl _ _ _ _ t.length rfl rfl rfl rfl ?b1 ?b2 ?_;(case b1=>omega);(case b2=>(unfold maxLen;omega));intro w1 H5 a8 b9);rw[<-rV]at H5;have b8:=Kh H5;clear H5
 go_loopg [18] gs.length (fun g i wr=>∃(k:Nat) (bs:List Bool),g+k=gs.length/\i=.int .i64 k/\bs.length=t.length/\Arr wr w.heap.size 4 (bls bs)/\w.grownBy wr none/\qNI t bs/\qLY t gs k)
 case atStart =>
  refine⟨0,_,rfl,rfl,by simp,b8.out,a8,fun x hx=>?_,fun i hi=>absurd hi (by omega)⟩;exfalso;simp[List.getD,List.getElem?_replicate]at hx
  split at hx<;>simp at hx
 clear b8 a8 b9;obtain⟨k,bs,a5,rfl,b0,h6,H1,a0,a3⟩:=hrel;obtain⟨H9,H2,h1,H6,H8⟩:=K5 a5 b0 h6 a0 a3;have c2:=h6.lt;clear a5 b0 h6 a0 a3;by_cases hk:k<gs.length
 ·have e1:(k:Int)<gs.length:=by omega
  obtain⟨gb,go,gcap,e,_,_,_,H3⟩:=b6.out.some_ (by rw[zQ];omega);simp only[Value.slice.injEq]at e;obtain⟨rfl,-,-⟩:=e;have b5:=b6.out.kept H1 (by simp);obtain⟨gb',go',gcap',e,_,_,_,H3⟩:=b5.some_ (by rw[zQ];omega);simp only[Value.slice.injEq,Option.some.injEq,Addr.mk.injEq,and_true]at e;obtain⟨⟨rfl,rfl⟩,-,-⟩:=e;have a6:=H3.nat k hk;have h2:=qNA d5.out hk;obtain⟨x,hx⟩:=Nm (gs.getD k 0);rw[<-hx]at a6 h2;have c1:(x:Int)<t.length:=(by omega);have H4:=h1.out.bool x (by rw[H2.out];exact h2);have c8:=h1.out.frozen x;have HX:=Kh hx;clear H3 hx b5;cases hbv:bs.getD x false
  ·rw[hbv]at H4
   have h3:=h1.out.bool_set x (by rw[H2.out];exact h2) true;have h5:=zG wr ⟨w.heap.size,x,none⟩ (.bool true);have b7:=Kh hbv;clear hbv;go_wp2
   generalize hW:wr.setCell ⟨w.heap.size,x,none⟩ (.bool true)=w2 at h3 h5
   have h4:w.grownBy w2 none:=zC H1 h5;have h7:=Kh (HQ.out.kept h4 (by simp));have H7:=Kh h3;have HW:=Kh hW;clear h3 h5 hW H4 c8 a6;have d7:=h7.out.hd x h2
   go_loopg [31] t.length (fun g i wr=>∃k m:Nat,g+k=t.length/\i=.int .i64 k/\qPT t x k/\wr=w2.drewN m)
   case atStart=>exact⟨0,0,rfl,rfl,fun x hx=>absurd hx (by omega),rfl⟩
   obtain⟨a,m,a7,rfl,h9,rfl⟩:=hrel;have d6:=Kh a7;have b4:=Kh h9;clear a7 h9;by_cases ha:a<t.length
   ·have d2:(a:Int)<t.length:=by omega
    have e3:=h7.out.hd a ha;have d0:=h7.out.el a x ha h2;obtain⟨p,hp⟩:=Nm (entN t a x);have a1:p<t.length:=(by rw[hp];exact qK HS.out ha h2);have c7:(p:Int)<t.length:=(by omega);rw[<-hp]at d0;have d8:=h7.out.hd p a1;have HP:=Kh hp;clear hp;go_wp2
    go_loopg [47] t.length (fun g i wr=>∃k m:Nat,g+k=t.length/\i=.int .i64 k/\qPU t a x k/\wr=w2.drewN m)
    case atStart=>exact⟨0,m,rfl,rfl,fun x hx=>absurd hx (by omega),rfl⟩
    obtain⟨y,m,a2,rfl,h9,rfl⟩:=hrel;have d4:=Kh a2;have b3:=Kh h9;clear a2 h9;by_cases hy:y<t.length
    ·have h8:(y:Int)<t.length:=by omega
     have c0:=h7.out.el x y h2 hy;have c5:=h7.out.el p y a1 hy;obtain⟨q,hq⟩:=Nm (entN t x y);have c4:q<t.length:=(by rw[hq];exact qK HS.out h2 hy);have c3:(q:Int)<t.length:=(by omega);rw[<-hq]at c0;have d1:=h7.out.el a q ha c4;obtain⟨r,hr⟩:=Nm (entN t p y);obtain⟨s,hs⟩:=Nm (entN t a q);rw[<-hr]at c5;rw[<-hs]at d1;have H0:qLD t a x y↔r=s:=by rw[qLD,<-HP.out,<-hq,<-hr,<-hs]
     have HA:=Kh H0;clear hq hr hs H0;by_cases hrs:r=s
     ·subst hrs
      have ht:((r:Int) != (r:Int))=false:=by simp
      go_wp2
      go_quiet (fail)
      go_wp2;go_roundg (t.length-(y+1))
      case measure=>have:=d4.out;omega
      refine⟨y+1,_,by omega,by go_num,fun z' hz'=>?_,rfl⟩;rcases Nat.lt_succ_iff_lt_or_eq.1 hz' with hz'|rfl
      ·exact b3.out z' hz'
      exact HA.out.2 (by simp)
     have ht:((r:Int) != (s:Int))=true:=by rw[bne_iff_ne];omega
     have d3:=Kh hrs;clear hrs;go_wp2
     go_quiet (fail)
     go_wp2;go_ret;refine⟨yT (aL hk (fun hl=>d3.out (HA.out.1 ?_))).symm,wT h4 rfl rfl rfl rfl⟩;rw[<-HX.out]at hl;exact hl a y ha hy
    go_wp2;go_roundg (t.length-(a+1))
    case measure=>have:=d6.out;omega
    refine⟨a+1,m,by omega,by go_num,fun y' h8=>?_,rfl⟩;rcases Nat.lt_succ_iff_lt_or_eq.1 h8 with h8|rfl
    ·exact b4.out y' h8
    exact fun z' hz'=>b3.out z' (by omega)
   have h0:Hid (pV t x):=Kh (fun a' y' d2 h8=>b4.out a' (by omega) y' h8);go_wp2;go_roundg (gs.length-(k+1))
   case measure=>have:=H9.out;omega
   refine⟨k+1,bs.set x true,by omega,by go_num,by rw[List.length_set];exact H2.out,H7.out.of_heap rfl,wT h4 rfl rfl rfl rfl,fun y hy=>?_,fun i hi=>?_⟩
   ·by_cases e:x=y
    ·subst e;exact h0.out
    rw[getD_set_ne _ _ _ _ _ e]at hy;exact H6.out y hy
   rcases Nat.lt_succ_iff_lt_or_eq.1 hi with hi|rfl
   ·exact H8.out i hi
   rw[<-HX.out];exact h0.out
  rw[hbv]at H4;have b7:=Kh hbv;clear hbv;go_wp2;go_roundg (gs.length-(k+1))
  case measure=>have:=H9.out;omega
  refine⟨k+1,bs,by omega,by go_num,H2.out,h1.out,H1,H6.out,fun i hi=>?_⟩;rcases Nat.lt_succ_iff_lt_or_eq.1 hi with hi|rfl
  ·exact H8.out i hi
  rw[<-HX.out];exact H6.out x b7.out
 go_wp2;go_ret;refine⟨yT (iW (qKI ?_)).symm,H1⟩;have:k=gs.length:=by have:=H9.out;omega
 rw[<-this];exact H8.out
structure Sp (w0 w:World)(bi bm g n:Nat)(mv:Value)(bs:List Bool)(made:List Nat):Prop where
 box1:w.heap[bi]?=some (.cells #[.slice (some ⟨g,0,none⟩) n n] 26 (0,0))
 box2:w.heap[bm]?=some (.cells #[mv] 22 (0,0))
 own:w.ownsRow w0.heap.size 3 1 mv made.length (nats made)
 shape:∃sa sc,mv=.slice sa made.length sc
 arr:Arr w g 4 (bls bs)
 len:bs.length=n
 cnt:made.length=bs.count true
 mem:∀x,x<n->(bs.getD x false=true↔x∈made)
 lt:∀x∈made,x<n
 lo:w0.heap.size<=bi/\w0.heap.size<=bm/\w0.heap.size<=g
 fr:w0.grownBy w none
theorem Sp.made_le {w0 w:World}{bi bm g n:Nat}{mv:Value}{bs:List Bool}{made:List Nat}(h:Sp w0 w bi bm g n mv bs made):made.length<=n:=by
 rw[h.cnt,<-h.len];exact List.count_le_length
structure Keep (w w':World)(bm g:Nat)(mv mv':Value):Prop where
 size:w.heap.size<=w'.heap.size
 k1:∀k,k<w.heap.size->k≠g->k≠bm->mv.ownBlock≠some k->w'.heap[k]?=w.heap[k]?
 k2:mv'.ownBlock=mv.ownBlock\/((∀k,k<w.heap.size->k≠g->k≠bm->w'.heap[k]?=w.heap[k]?)/\∀k,mv'.ownBlock=some k->w.heap.size<=k)
def qY (made:List Nat)(x:Nat):List Nat:=if x∈made then made else made++[x]
theorem pK {made:List Nat}{x y:Nat}:y∈qY made x↔y∈made\/y=x:=by
 unfold qY
 split
 ·constructor
  ·exact .inl
  rintro (h|rfl)
  ·exact h
  assumption
 simp
theorem nW (made:List Nat)(x:Nat):∃r,qY made x=made++r:=by
 unfold qY
 split
 ·exact⟨[],by simp⟩
 exact⟨[x],rfl⟩
def qOZ (w0 w:World)(bi bm g n:Nat)(mv:Value)(made:List Nat)(x:Nat)(e:Ending)(w':World):Prop :=
 e=.returned (.tuple #[])/\∃bs' mv',Sp w0 w' bi bm g n mv' bs' (qY made x)/\Keep w w' bm g mv mv'
theorem fD {bs:List Bool}{x:Nat}(hx:x<bs.length)(h:bs.getD x false=false):(bs.set x true).count true=bs.count true+1:=by
 rw[List.count_set hx];have:bs[x]=false:=by simpa [List.getD,List.getElem?_eq_getElem hx] using h
 simp[this]
theorem Sp.set {w0 w w3:World}{bi bm g n x:Nat}{mv:Value}{bs:List Bool}{made:List Nat}{sa:Option Addr}{sc:Nat}(h:Sp w0 w bi bm g n mv bs made)(hx:x<n)(hb:bs.getD x false=false)(h1:w3.heap[bi]?=some (.cells #[.slice (some ⟨g,0,none⟩) n n] 26 (0,0)))(h2:w3.heap[bm]?=some (.cells #[.slice sa (made.length+1) sc] 22 (0,0)))(h3:w3.ownsRow w0.heap.size 3 1 (.slice sa (made.length+1) sc) (made.length+1) (nats made++[.int .i64 (x:Int)]))(h4:Arr w3 g 4 (bls (bs.set x true)))(h5:w0.grownBy w3 none)(h6:Keep w w3 bm g mv (.slice sa (made.length+1) sc)):qOZ w0 w bi bm g n mv made x (.returned (.tuple #[])) w3:=by
 have h0:¬x∈made:=fun hm=>by rw[(h.mem x hx).2 hm]at hb;cases hb
 refine⟨rfl,bs.set x true,_,⟨h1,h2,?_,?_,h4,by rw[List.length_set];exact h.len,?_,fun y hy=>?_,fun y hy=>?_,h.lo,h5⟩,h6⟩
 ·rw[qY,if_neg h0,List.length_append,rK];exact h3
 ·rw[qY,if_neg h0,List.length_append];exact⟨_,_,rfl⟩
 ·rw[qY,if_neg h0,List.length_append,fD (by rw[h.len];exact hx) hb,h.cnt];rfl
 ·rw[pK]
  by_cases e:x=y
  ·subst e
   rw[qBG _ _ _ _ (by rw[h.len];exact hx)];simp
  rw[getD_set_ne _ _ _ _ _ e,h.mem y hy];exact⟨.inl,fun hh=>hh.elim id (fun e'=>absurd e'.symm e)⟩
 rcases pK.1 hy with hy|rfl
 ·exact h.lt y hy
 exact hx
theorem qBV (w0 w:World)(bi bm g n x:Nat)(mv:Value)(bs:List Bool)(made:List Nat)(hx:x<n)(hn:n<=400)(h:Sp w0 w bi bm g n mv bs made):Calls Try.prog 108 #[.int .i64 (x:Int),.pointer (some ⟨bi,0,none⟩),.pointer (some ⟨bm,0,none⟩)] w (qOZ w0 w bi bm g n mv made x):=by
 have H:=Kh h;have b5:=h.made_le;obtain⟨sa,sc,rfl⟩:=h.shape;have ci:=zF h.box1 0;have cx:=h.arr.bool x (by rw[h.len];exact hx);have fx:=h.arr.frozen x;simp only[List.getElem_toArray,List.getElem_cons_zero]at ci;have b4:(x:Int)<n:=by omega
 clear h;cases hb:bs.getD x false
 ·rw[hb]at cx
  have HB:=Kh hb;clear hb;have h8:=H.out.arr.bool_set x (by rw[H.out.len];exact hx) true;have h4:=zG w ⟨g,x,none⟩ (.bool true);go_enter Try.func108,Try.ntmps108;go_upto_region 2 with fail
  generalize hW:w.setCell ⟨g,x,none⟩ (.bool true)=w1 at h8 h4
  have HW:=Kh hW;have b6:=H.out.lo;have a4:=zC H.out.fr h4 (by simp;omega);have a0:=H.out.box2;have h9:=H.out.own
  have H1:=zB a0 h4 (fun e=>by
   have:=Oj e
   exact(H.out.arr.type_ne a0 (by decide)) this)
  have H4:=zB H.out.box1 h4 (fun e=>(H.out.arr.type_ne H.out.box1 (by decide)) (Oj e))
  have h0:=h9.kept h4 (.inr (fun e=>by
   obtain⟨cur,rest,hh,_⟩:=H.out.arr
   exact zS h9 hh (by decide) e))
  have cm:=zF H1 0;simp only[List.getElem_toArray,List.getElem_cons_zero]at cm;obtain⟨a8,a7,H5,a1⟩:=K4 H4 H1 h8 h4;clear hW ci cx fx h8 h4 a0 h9 H4 H1;go_wp2_with (at_builtin;refine kD rfl _ _ _ rfl yI w0.heap.size _ made.length (nats made) rfl h0 _ rfl rfl ?c1 ?c2 ?c3 ?_)
  case c1=>unfold maxLen;omega
  case c2=>omega
  case c3=>exact a4.size
  intro sa' sc' w3 h7 H2 b0 a3;have H8:=zS h0 a7.out (by decide);have h5:=zB a7.out H2 H8;have b7:=zA h5 0;have b1:=zF h5 0;simp only[List.getElem_toArray,List.getElem_cons_zero]at b1;have H3:=zB a8.out H2 (zS h0 a8.out (by decide))
  have h6:=H5.out.kept H2 (by
   obtain⟨cur,rest,hh,_⟩:=H5.out
   exact zS h0 hh (by decide))
  have H9:=zC a4 H2 (fun k e=>(h0.lt k e).1);obtain⟨a9,H7,a5,a6,H6,b3⟩:=K6 H3 h5 h6 h7 H2 a3;clear H3 h5 h6 h7 H2 h0 cm a3;go_wp2
  go_end0
  have H0:=zG w3 ⟨bm,0,none⟩ (.slice sa' (made.length+1) sc');have a2:=a1.out.size;refine H.out.set hx HB.out (sa:=sa') (sc:=sc') ?_ (heap_setCell_same w3 bm 0 _ _ _ H7.out) ?_ ?_ (zC H9 H0 (by simp;omega)) ⟨Nat.le_trans a2 (Nat.le_trans H6.out.size H0.size),fun k hk h1 h2 h3=>?_,?_⟩
  ·refine zB a9.out H0 (fun e=>?_)
   have e':=Oj e;have h1:=a9.out;rw[<-e',H7.out]at h1;simp at h1
  ·exact a6.out.kept H0 (.inr (zS a6.out H7.out (by decide)))
  ·exact a5.out.kept H0 (fun e=>(a5.out.type_ne H7.out (by decide)) (Oj e).symm)
  ·exact(H0.block k (by have:=H6.out.size;omega) (fun e=>h2 (Oj e))).trans ((H6.out.block k (by omega) (fun e=>h3 e.symm)).trans (a1.out.block k hk (fun e=>h1 (Oj e))))
  rcases b3.out with e|⟨e1,e2⟩
  ·exact .inl e
  exact .inr ⟨fun k hk h1 h2=>(H0.block k (by have:=H6.out.size;omega) (fun e=>h2 (Oj e))).trans ((e1.block k (by omega) (by simp)).trans (a1.out.block k hk (fun e=>h1 (Oj e)))),fun k hk=>Nat.le_trans a2 (e2 k hk)⟩
 rw[hb]at cx;have HB:=Kh hb;clear hb;go_enter Try.func108,Try.ntmps108;go_wp2
 go_end0
 have b2:qY made x=made:=by rw[qY,if_pos ((H.out.mem x hx).1 HB.out)]
 refine⟨rfl,bs,_,by rw[b2];exact H.out,Nat.le_refl _,fun _ _ _ _ _=>rfl,.inl rfl⟩
theorem lM {w w':World}{base e size:Nat}{v:Value}{n:Nat}{xs:List Value}(h:w.ownsRow base e size v n xs)(hb:∀k,v.ownBlock=some k->w'.heap[k]?=w.heap[k]?):w'.ownsRow base e size v n xs:=by
 refine⟨h.1,?_⟩;rcases h.2 with h2|⟨g,cap,cur,rfl,h2,h3,h4⟩
 ·exact .inl h2
 exact .inr ⟨g,cap,cur,rfl,h2,(hb g rfl).trans h3,h4⟩
theorem Arr.of_block {w w':World}{g:Nat}{e:TypeId}{xs:List Value}(h:Arr w g e xs)(hb:w'.heap[g]?=w.heap[g]?):Arr w' g e xs:=by
 obtain⟨cur,rest,h,hc⟩:=h;exact⟨cur,rest,hb.trans h,hc⟩
def qLP (v u:Value):Prop:=∀k,v.ownBlock=some k->u.ownBlock≠some k
theorem Keep.gens {w0 w w':World}{bi bm g n base m:Nat}{mv a9 gv:Value}{bs:List Bool}{made:List Nat}{xs:List Value}(hk:Keep w w' bm g mv a9)(h:Sp w0 w bi bm g n mv bs made)(hg:w.ownsRow base 3 1 gv m xs)(ha:qLP gv mv):w'.ownsRow base 3 1 gv m xs/\qLP gv a9:=by
 have h2:gv.ownBlock≠some g:=by
  obtain⟨cur,rest,hh,_⟩:=h.arr;exact zS hg hh (by decide)
 have h0:gv.ownBlock≠some bm:=zS hg h.box2 (by decide);refine⟨lM hg (fun k e=>hk.k1 k (hg.lt k e).2 (fun e'=>h2 (by rw[e,e'])) (fun e'=>h0 (by rw[e,e'])) (ha k e)),fun k e=>?_⟩;rcases hk.k2 with h1|⟨_,h1⟩
 ·rw[h1];exact ha k e
 intro e';have:=h1 k e';have:=(hg.lt k e).2;omega
theorem Keep.pre {w0 w w':World}{bi bm g n kb:Nat}{mv a8:Value}{bs a7:List Bool}{made a9 pre:List Nat}(hk:Keep w w' bm g mv a8)(h:Sp w0 w bi bm g n mv bs made)(h':Sp w0 w' bi bm g n a8 a7 a9)(hp:∃r,a9=pre++r)(ha:Arr w kb 3 (nats pre)):Arr w' kb 3 (nats pre):=by
 have h1:kb≠g:=by
  rintro rfl;obtain⟨cur,rest,hh,_⟩:=h.arr;exact(ha.type_ne hh (by decide)) rfl
 have h0:kb≠bm:=ha.type_ne h.box2 (by decide);rcases hk.k2 with e|⟨e,_⟩
 ·by_cases hkb:mv.ownBlock=some kb
  ·have h2:=e.trans hkb
   obtain⟨r,rfl⟩:=hp;have ho:=h'.own;rcases ho.2 with ⟨rfl,_⟩|⟨g',cap',cur',rfl,_⟩
   ·simp[Value.ownBlock]at h2
   have eg:g'=kb:=by simpa [Value.ownBlock] using h2
   subst eg;have:=Arr.of_owns ho;rw[iV]at this;exact this.front
  exact ha.of_block (hk.k1 kb ha.lt h1 h0 hkb)
 exact ha.of_block (e kb ha.lt h1 h0)
end Go.Proofs.Ytobakifdllameaa
