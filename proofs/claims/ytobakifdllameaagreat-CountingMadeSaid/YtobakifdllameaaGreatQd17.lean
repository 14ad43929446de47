/- Part 17 of the proof. -/
import Derived.Test.YtobakifdllameaaGreatQd16
import Derived.Deep.OwnRows
set_option linter.unusedVariables false
set_option linter.unusedSimpArgs false
set_option maxRecDepth 100000
set_option maxHeartbeats 16000000
namespace Go.Proofs.YtobakifdllameaaGreat
open Go.Maps Go.RowKit
theorem tW.apart {wm w:World}{v:Value}{M:DfaV}{n k fb fo fc b off cap:Nat}{RB RO RC:Nat->Nat}(h:tW wm w v M)(hv:v=dAgg k (st0 M) fb fo fc b off cap n)(a9:DAt w.heap.size w M n k fb fo fc b off cap RB RO RC){ty o:Nat}{cs:Array Value}{m:Nat×Nat}(ho:w.heap[o]?=some (.cells cs ty m))(h1:ty≠3)(h2:ty≠22)(h3:ty≠4):b≠o/\fb≠o/\∀q,q<n->RB q≠o:=by
 obtain⟨o',hs,sf,cf,sn,cn,e,_,hb⟩:=h;have hn:=a9.ok.n1;rw[hv]at e;simp only[dAgg,Value.agg.injEq,Array.mk.injEq,List.cons.injEq,Value.slice.injEq,Value.int.injEq,true_and,and_true]at e;obtain⟨_,_,⟨rfl,e1,rfl⟩,⟨rfl,e2,rfl⟩⟩:=e;have hN:=hb.ownN;have hF:=hb.ownF;have h5:=zV hN ho (fun e=>h2 e.symm);have h6:=zV hF ho (fun e=>h3 e.symm);refine⟨fun e=>h5 (by rw[e];rfl),fun e=>h6 (by rw[e];rfl),fun q hq e=>?_⟩;obtain⟨nb,e3,_,_,h0⟩:=yZ hN (by rw[a9.ok.nl];exact hn);simp only[Option.some.injEq,Addr.mk.injEq]at e3;obtain⟨rfl,rfl,_⟩:=e3;have h4:q<hs.length:=by rw[hb.rows.1,a9.ok.nl];exact hq
 have c1:=h0.cell q h4;have c2:=a9.hd q hq;rw[Nat.zero_add,c1]at c2;have c3:=hb.rows.2 q h4 (by rw[a9.ok.nl];exact hq);rw[Oj c2]at c3;rcases c3 with ⟨c4,_⟩|⟨b2,off2,cap2,cur,m2,c4,_,_,_,c5,_⟩
 ·simp at c4
 simp only[Value.slice.injEq,Option.some.injEq,Addr.mk.injEq]at c4;rw[<-c4.1.1,e,ho]at c5;simp at c5;exact h1 c5.2.1
inductive SysA (w0 we:World)(B o gb k a:Nat)(done:List (List Nat))(w:World):Prop
 | mk (X:Nat->Prop) (hsD:List Value) (hB:BoxS B X o 78 w0 w (⟨B,22,.slice (some ⟨gb,0,none⟩) k k,k,hsD++List.replicate (k-a) (.slice none 0 0),1⟩::[]) #[.slice (some ⟨gb,0,none⟩) k k,.slice none 0 0,.int .i64 ((0:Nat):Int)] w)
  (hD:xU X 3 nats w hsD done) (hl:hsD.length=a/\done.length=a) (hG:we.grownBy w (some o)) (hgb:we.heap.size<=gb) (hB0:we.heap.size<=B)
section
variable {w0 we w:World} {B o gb k a q r:Nat} {done:List (List Nat)} {cur:List Nat}
theorem SysA.go (h:SysA w0 we B o gb k a done w)(ha:a<k):SysG w0 we B o gb k a 0 (k-(a+1)) done [] w:=by
 obtain⟨X,h0,hB,hD,⟨h2,h1⟩,hG,h3,h4⟩:=h;have hS:=hB.nil (e:=3) (sz:=1) (by decide);rw[show k-a=(k-(a+1))+1 by omega,List.replicate_succ]at hS;exact⟨X,h0,none,0,hS,hD,⟨h2,h1,by omega,rfl⟩,hG,h3,h4⟩
theorem SysG.fin (h:SysG w0 we B o gb k a q r done cur w):SysA w0 we B o gb k (a+1) (done++[cur]) w:=by
 obtain⟨X,h0,sR,cR,hB,hD,⟨h2,h1,h6,h5⟩,hG,h3,h4⟩:=h;have hR:=BoxS.retire (rs:=⟨B,22,.slice (some ⟨gb,0,none⟩) k k,k,h0++.slice sR q cR::List.replicate r (.slice none 0 0),1⟩::[]) (r:=⟨B,3,.slice sR q cR,q,nats cur,1⟩) hB;have hX:RowX (fun j=>X j\/(Value.slice sR q cR).ownBlock=some j) 3 w (.slice sR q cR) (nats cur):=RowX.of_owns (hB.own (r:=⟨B,3,.slice sR q cR,q,nats cur,1⟩) (by simp)) (fun j hj=>.inr hj);refine⟨_,h0++[.slice sR q cR],?_,(hD.mono (fun j hj=>.inl hj)).snoc hX,⟨by simp[h2],by simp[h1]⟩,hG,h3,h4⟩;rw[show k-(a+1)=r by omega,List.append_assoc];exact hR
theorem SysA.full (h:SysA w0 we B o gb k k done w):SysF w0 we B o gb k done w:=by
 obtain⟨X,h0,hB,hD,⟨h1,h3⟩,hG,h4,h2⟩:=h;rw[Nat.sub_self,List.replicate_zero,List.append_nil]at hB;exact⟨X,h0,hB,hD,h1,hG,h2⟩
theorem SysA.g (h:SysA w0 we B o gb k a done w):we.grownBy w (some o):=by
 obtain⟨X,h0,hB,hD,hl,hG,_⟩:=h;exact hG
theorem SysG.g (h:SysG w0 we B o gb k a q r done cur w):we.grownBy w (some o):=by
 obtain⟨X,h0,sR,cR,hB,hD,hl,hG,_⟩:=h;exact hG
theorem SysA.cell (h:SysA w0 we B o gb k a done w):w.cell? ⟨o,0,none⟩=some (.slice (some ⟨gb,0,none⟩) k k):=by
 obtain⟨X,h0,hB,hD,_⟩:=h;have q0:=zH hB.box 0;simpa only[List.getElem_toArray,List.getElem_cons_zero,List.getElem_cons_succ] using q0
end
theorem qUB {w:World}{base e cN:Nat}{sN:Option Addr}{x0 x1 x2:Value}(h:w.ownsRow base e 3 (.slice sN 1 cN) 1 [x0,x1,x2]):∃pb,sN=some ⟨pb,0,none⟩/\1<=cN/\cN<=maxLen/\w.cell? ⟨pb,0,none⟩=some x0/\w.cell? ⟨pb,1,none⟩=some x1/\w.cell? ⟨pb,2,none⟩=some x2:=by
 rcases h.2 with ⟨h',h0⟩|⟨g,cap,cur,h1,hb,hg,hnc,hcm,hcs,htake⟩
 ·simp at h'
 simp only[Value.slice.injEq]at h1;obtain⟨rfl,-,rfl⟩:=h1
 have ht:∀i (u:Value),[x0,x1,x2][i]?=some u->w.cell? ⟨g,i,none⟩=some u:=fun i u hu=>by
  rw[cell_of_row w g i _ _ _ hg,<-Array.getElem?_toList];rw[<-htake]at hu;rw[List.getElem?_take]at hu
  split at hu
  ·exact hu
  cases hu
 exact⟨g,rfl,hnc,hcm,ht 0 _ rfl,ht 1 _ rfl,ht 2 _ rfl⟩
def qQM (w0:World)(o n k:Nat)(M:DfaV)(w':World):Prop:=∃(gb pb cp:Nat) (fA:Option Addr) (fC:Nat),
 w'.heap[o]?=some (.cells #[.slice (some ⟨gb,0,none⟩) k k,.slice (some ⟨pb,0,none⟩) 1 cp,.int .i64 (n:Int)] 78 (0,0))/\mK w'.heap.size w' (.slice (some ⟨gb,0,none⟩) k k) (pG M n k) /\
 w'.cell? ⟨pb,0,none⟩=some (.int .i64 ((st0 M:Nat):Int))/\w'.cell? ⟨pb,1,none⟩=some (.slice fA n fC)/\w'.cell? ⟨pb,2,none⟩=some (.int .i64 0)/\1<=cp/\cp<=maxLen/\RowT w'.heap.size 4 w' (.slice fA n fC) (bls M.final)/\w0.grownBy w' none
theorem qDY {wm w0 w:World}{o n k:Nat}{v:Value}{M:DfaV}(a8:w.heap[o]?=some (.cells #[.slice none 0 0,.slice none 0 0,.int .i64 0] 78 (0,0)))(h0:w0.grownBy w none)(ho:w0.heap.size<=o)(a9:tW wm w v M)(hM:VD M n k)(a5:n<=512):Calls Tryz.prog 49 #[.pointer (some ⟨o,0,none⟩),v] w fun e w'=>(32<n/\e=.returned (.int .i64 3)/\w0.grownBy w' none)\/(n<=32/\e=.returned (.int .i64 0)/\qQM w0 o n k M w'):=by
 obtain⟨fb,fo,fc,b,off,cap,RB,RO,RC,hv,h8⟩:=a9.dfa.at hM;obtain⟨d4,e4,d7⟩:=a9.apart hv h8 a8 (by decide) (by decide) (by decide);subst hv;obtain⟨we,H6⟩:=Nm (w.alloc (.cells #[.int .i64 (k:Int),.int .i64 ((st0 M:Nat):Int),.slice (some ⟨fb,fo,none⟩) n fc,.slice (some ⟨b,off,none⟩) n cap] 29));obtain⟨mx,a2⟩:=Nm w.heap.size;have h6:w.grownBy we none:=by rw[H6];exact Ga w _ none
 have H4:=heap_alloc_new w (.cells #[.int .i64 (k:Int),.int .i64 ((st0 M:Nat):Int),.slice (some ⟨fb,fo,none⟩) n fc,.slice (some ⟨b,off,none⟩) n cap] 29);rw[<-H6,<-a2]at H4;have h3:=zB a8 h6;have H7:o≠mx:=fun e=>by rw[e,H4]at h3;simp at h3
 obtain⟨m0,m1,m2,m3⟩:=zL H4;have H3:mx<we.heap.size:=zR H4;have a4:b<we.heap.size:=Nat.lt_of_lt_of_le h8.bltw h6.size;have e0:st0 M<n:=by have:=hM.sn;have:=hM.s0;unfold st0;omega
 have g2:=hM.k1;have e3:=hM.k6;have g1:=hM.n1;have H1:=h8.cap;have c9:=H1.1;have c8:cap<=9223372036854775807:=by have:=H1.2;unfold maxLen at this;omega
 have e5:=h8.fcap.1
 have b9:∀q a,q<n->a<k->nx M q a<n:=fun q a hq ha=>by
  have h1:=hM.lo q a hq ha;have h2:=hM.hi q a hq ha;unfold nx;show (ent M.next q a).toNat<n;omega
 have keep:∀(W:World),we.grownBy W (some o)->∀(bb i:Nat) (u:Value),bb≠o->we.cell? ⟨bb,i,none⟩=some u->W.cell? ⟨bb,i,none⟩=some u:=fun W hg bb i u hb hc=>(World.cell?_of_block (hg.block bb (World.block_lt_of_cell? _ _ hc) (fun e=>hb (Oj e)))).trans hc;have a0:Hid (∀W:World,we.grownBy W (some o)->W.cell? ⟨mx,0,none⟩=some (.int .i64 (k:Int))/\W.cell? ⟨mx,1,none⟩=some (.int .i64 ((st0 M:Nat):Int))/\W.cell? ⟨mx,2,none⟩=some (.slice (some ⟨fb,fo,none⟩) n fc)/\W.cell? ⟨mx,3,none⟩=some (.slice (some ⟨b,off,none⟩) n cap)):=Kh (fun W hg=>⟨keep W hg mx 0 _ H7.symm m0,keep W hg mx 1 _ H7.symm m1,keep W hg mx 2 _ H7.symm m2,keep W hg mx 3 _ H7.symm m3⟩);have f7:Hid (∀W:World,we.grownBy W (some o)->∀q,q<n->W.cell? ⟨b,off+q,none⟩=some (.slice (some ⟨RB q,RO q,none⟩) k (RC q))):=Kh (fun W hg q hq=>keep W hg b _ _ d4 (zK (h8.hd q hq) h6));have f8:Hid (∀W:World,we.grownBy W (some o)->∀q a,q<n->a<k->W.cell? ⟨RB q,RO q+a,none⟩=some (.int .i64 ((nx M q a:Nat):Int))):=Kh (fun W hg q a hq ha=>keep W hg (RB q) _ _ (d7 q hq) (zK (h8.el q a hq ha) h6));have d9:Hid (∀q,q<n->(k<=RC q/\RC q<=maxLen)/\RB q<we.heap.size):=Kh (fun q hq=>⟨h8.rcap q hq,Nat.lt_of_lt_of_le (h8.rlt q hq).2 h6.size⟩);obtain⟨f5,H5,f3,f6⟩:=K4 b9 h3 H6 a2
 have f9:Hid (∀W:World,we.grownBy W (some o)->RowT W.heap.size 4 W (.slice (some ⟨fb,fo,none⟩) n fc) (bls M.final)):=Kh (fun W hg=>by
  obtain⟨o',hs,sf,cf,sn,cn,e,_,hb⟩:=a9;simp only[dAgg,Value.agg.injEq,Array.mk.injEq,List.cons.injEq,Value.slice.injEq,Value.int.injEq,true_and,and_true]at e;obtain⟨_,_,⟨rfl,e1,rfl⟩,_⟩:=e;have hr:=RowT.of_owns hb.ownF;rw[<-e1]at hr
  exact((hr.kept h6 (by simp)).kept hg (fun j hj=>.inr ⟨_,_,_,by have:=Oj hj;subst this;exact h3,by decide⟩)).mono (Nat.le_trans h6.size hg.size))
 have b6:Hid (w0.grownBy we none):=Kh (zC h0 h6);have f4:=Kh ho;have q35:∀(W:World) (a:Option Addr) (n c n' c':Nat),(binOp .eql 27 (.slice a n c) (.slice none n' c')).run Tryz.prog W=.ok (.bool a.isNone) W:=fun W a n c n' c'=>Lib.run_eql_slice_nil W _ _ a n c n' c' Tryz.underlying27;have b0:=zH h3 0;have b2:=zH h3 2;simp only[List.getElem_toArray,List.getElem_cons_zero,List.getElem_cons_succ]at b0 b2;have f1:=zA h3 0;clear a9 h8 d4 e4 d7 a8 h0 H4 h6 keep b9 H6 a2 h3 m0 m1 m3;unfold dAgg;go_enter Tryz.func49,Tryz.ntmps49;go_upto_region 1 with fail;rw[<-f3.out,<-f6.out];go_upto_region 2 with fail;by_cases hn:32<n
 ·have e1:decide (32<(n:Int))=true:=by rw[decide_eq_true_eq];omega
  go_wp2;go_ret;exact .inl ⟨hn,rfl,b6.out⟩
 have e1:decide (32<(n:Int))=false:=by rw[decide_eq_false_iff_not];omega
 have H2:n<=32:=by omega
 go_upto_region 5 with fail;have c0:=(a0.out we (zU _ _)).1;go_upto_region 6 with (first|(at_make;refine bJ rfl _ _ _ rfl wG rfl .i64 .i64 _ _ k rfl rfl rfl rfl ?b1 ?b2 ?_;(case b1=>omega);(case b2=>(unfold maxLen;omega));intro w5 h5 H0 a3;(have b05:=zK b0 H0);(have f0:=zA (zB H5.out H0) 0))|fail)
 obtain⟨gb,H8⟩:=Nm we.heap.size;rw[<-H8]at h5⊢;have d3:=zB H5.out H0;have h4:w5.ownsRow we.heap.size 22 1 (.slice (some ⟨gb,0,none⟩) k k) k (List.replicate k (.slice none 0 0)):=by rw[<-H8];exact h5
 have d6:BoxS we.heap.size (fun _=>False) o 78 w0 w5 (⟨we.heap.size,22,.slice (some ⟨gb,0,none⟩) k k,k,List.replicate k (.slice none 0 0),1⟩::[]) #[.slice none 0 0,.slice none 0 0,.int .i64 ((0:Nat):Int)] w5 :=
  ⟨⟨fun r hr=>by rw[List.mem_singleton]at hr;subst hr;exact h4,by simp,fun r hr j hj hx=>hx.elim,fun j hj=>hj.elim⟩,fun r hr=>by rw[List.mem_singleton]at hr;subst hr;exact⟨rfl,by simp⟩,d3,fun h=>h,b6.out.size,f4.out,H0.size,zC b6.out H0,xV.refl _ _,Nat.le_refl _⟩
 have b3:=d6.set 0 (.slice (some ⟨gb,0,none⟩) k k);obtain⟨w6,a1⟩:=Nm (w5.setCell ⟨o,0,none⟩ (.slice (some ⟨gb,0,none⟩) k k));have d8:we.grownBy w6 (some o):=by rw[a1];exact zG (zC (zU we (some o)) H0) (zF w5 ⟨o,0,none⟩ _)
 rw[<-a1]at b3⊢;have hA:SysA w0 we we.heap.size o gb k 0 [] w6:=⟨_,[],b3.rebase,xU.nil,⟨rfl,rfl⟩,d8,by rw[H8];exact Nat.le_refl _,Nat.le_refl _⟩;have HA:=Kh hA;have q6:=hA.cell;clear h5 H0 a3 b05 f0 d3 h4 d6 b3 a1 d8 hA b0 b2 f1 H8;go_wp2
 go_loopg [6,7,34] k (fun gh a6 a7 i wr=>∃a:Nat,gh+a=k/\i=.int .i64 a/\SysA w0 we we.heap.size o gb k a ((pG M n k).take a) wr)
 case atStart=>exact⟨0,rfl,rfl,HA.out⟩
 clear HA q6;obtain⟨a,c7,rfl,hA⟩:=hrel;have b5:=Kh c7;have HA:=Kh hA;clear c7;by_cases ha:a<k
 ·have e8:(a:Int)<k:=by omega
  have HS:=Kh (hA.go ha);clear hA;go_wp2
  go_loopg [7,38] n (fun gh a7 i wr=>∃q:Nat,gh+q=n/\i=.int .i64 q/\SysG w0 we we.heap.size o gb k a q (k-(a+1)) ((pG M n k).take a) ((colD M n a).take q) wr)
  case atStart=>exact⟨0,rfl,rfl,HS.out⟩
  clear HS;obtain⟨q,c6,rfl,hS⟩:=hrel;have b4:=Kh c6;have HS:=Kh hS;clear c6;by_cases hq:q<n
  ·have e2:(q:Int)<n:=by omega
   have hg:=hS.g;have c3:=(a0.out _ hg).2.2.2;have c4:=f7.out _ hg q hq;have c5:=f8.out _ hg q a hq ha;have g0:Hid ((colD M n a).take q++[nx M q a]=(colD M n a).take (q+1)):=Kh (qDF hq).symm;clear hS hg;go_upto_region 12 with fail;refine qQZ HS.out e3 hq H2 (Nat.lt_of_lt_of_le (f5.out q a hq ha) H2) c3 c4 c5 H1 (d9.out q hq).1 ⟨H3,a4,(d9.out q hq).2⟩ ?_;intro z41 z42 z43 z44 z45 z46 z47 z48 z49 z50 z51 z52 z53 z54 z55 z56 z57 z58 z59 z60 z61 z62 z63 z64 z65 z66 z67 z68 w9 h9;rw[g0.out]at h9;have H9:=Kh h9;clear h9 c3 c4 c5;go_wp2;go_roundg (n-(q+1))
   case measure=>have:=b4.out;omega
   exact⟨q+1,by have:=b4.out;omega,by go_num,H9.out⟩
  have b8:q=n:=by have:=b4.out;omega
  have e2:¬(q:Int)<n:=(by omega);have h9:=hS.fin;rw[b8,List.take_of_length_le (l:=colD M n a) (by rw[mA];exact Nat.le_refl _),<-bL ha]at h9;have H9:=Kh h9;clear h9 hS b8;go_wp2;go_roundg (k-(a+1))
  case measure=>have:=b5.out;omega
  exact⟨a+1,by have:=b5.out;omega,by go_num,H9.out⟩
 have d5:a=k:=by have:=b5.out;omega
 have e8:¬(a:Int)<k:=(by omega);have h9:=hA;rw[d5,List.take_of_length_le (by rw[uE];exact Nat.le_refl _)]at h9;have HF:=Kh h9.full;have hg:=hA.g;have c1:=(a0.out _ hg).2.1;have c2:=(a0.out _ hg).2.2.1;clear h9 hA d5 hg;go_upto_region 15 with fail;refine qRA HF.out c1 c2 (Nat.lt_of_lt_of_le e0 H2) H3 ?_;intro z71 z72 z73 z74 z75 z76 z77 z78 z79 z80 z81 z82 z83 z84 z85 z86 z87 z88 z89 z90 z91 z92 z93 w9 h9;obtain⟨X,b7,sN,cN,hB,hD,hl,hG,g3⟩:=h9;have d2:=zH hB.box 2;simp only[List.getElem_toArray,List.getElem_cons_zero,List.getElem_cons_succ]at d2;have f2:=zA hB.box 2;obtain⟨HB,HD,HG⟩:=K3 hB hD hG;clear hB hD hG c1 c2;go_wp2;go_ret;have hZ:=HB.out.set 2 (.int .i64 (n:Int));simp only[sPa,sPb,sPc]at hZ;obtain⟨pb,rfl,e7,e6,d0,d1,d2⟩:=qUB (hZ.own (r:=⟨we.heap.size,128,.slice sN 1 cN,1,[.int .i64 ((st0 M:Nat):Int),.slice (some ⟨fb,fo,none⟩) n fc,.int .i64 ((0:Nat):Int)],3⟩) (by simp));have e9:=zG HG.out (zF w9 ⟨o,2,none⟩ (.int .i64 (n:Int)));have h7:qQM w0 o n k M (w9.setCell ⟨o,2,none⟩ (.int .i64 (n:Int))):=⟨gb,pb,cN,some ⟨fb,fo,none⟩,fc,hZ.box,⟨b7,RowT.of_owns (hZ.own (r:=⟨we.heap.size,22,.slice (some ⟨gb,0,none⟩) k k,k,b7,1⟩) (by simp)),(HD.out.kept hZ.kept hZ.wk).rowsT⟩,d0,d1,d2,e7,e6,f9.out _ e9,hZ.grown⟩
 first|exact .inr ⟨H2,rfl,h7⟩|exact⟨H2,rfl,h7⟩|exact⟨rfl,h7⟩|exact⟨H2,h7⟩
theorem oM {w:World}{b m:Nat}{e:TypeId}{z:Value}(h:(madeCells #[z] m).toList=List.replicate m z)(hb:b<=w.heap.size)(hm:m<=maxLen):(w.alloc (.cells (madeCells #[z] m) e)).ownsRow b e 1 (.slice (some ⟨w.heap.size,0,none⟩) m m) m (List.replicate m z):=by
 refine⟨by simp,.inr ⟨w.heap.size,m,_,rfl,hb,heap_alloc_new w _,Nat.le_refl _,hm,?_,?_⟩⟩
 ·rw[<-Array.length_toList,h];simp
 rw[h];simp
inductive pm7I (k m o5 b5 gb rb rf cR r0 ro rc:Nat)(im:List Nat)(w5:World)(a0:Act)(l:Array Bool)(a:Act)(w:World):Prop
 | mk (x42:Value) (x44:Value) (x49:Value) (x51:Value) (x52:Value) (x8:Value) (o:Nat) (ha:a=zP a0 [(42,x42),(44,x44),(49,x49),(51,x51),(52,x52),(8,x8)]) (HR:∀j∈[0,1,2,3,4,5,7,9,10,11,12,14],l.getD j true=true) (H6:Hid (l.getD 6 true=true->∃g,x42=.slice (some ⟨g,0,none⟩) m m/\w.ownsRow w5.heap.size 22 1 (.slice (some ⟨g,0,none⟩) m m) m (List.replicate m (.slice none 0 0)))) (H8:Hid (l.getD 8 true=true->∃g,x44=.slice (some ⟨g,0,none⟩) m m/\w.ownsRow w5.heap.size 9 1 (.slice (some ⟨g,0,none⟩) m m) m (List.replicate m (.string ⟨#[]⟩)))) (H13:Hid (l.getD 13 true=true->∃g c,x49=.slice (some ⟨g,0,none⟩) k c/\k<=c/\c<=maxLen/\w.ownsRow w5.heap.size 3 1 (.slice (some ⟨g,0,none⟩) k c) k (nats im))) (H15:Hid (l.getD 15 true=true->∃g,x51=.slice (some ⟨g,0,none⟩) m m/\w.ownsRow w5.heap.size 4 1 (.slice (some ⟨g,0,none⟩) m m) m (List.replicate m (.bool false)))) (H16:Hid (l.getD 16 true=true->l.getD 6 true=true/\l.getD 8 true=true/\l.getD 13 true=true/\l.getD 15 true=true/\x52=.agg #[.int .i64 k,x42,x44,x49,.slice none 0 0,x51])) (H17:Hid (l.getD 17 true=true->x8=.pointer (some ⟨o,0,none⟩)/\w5.heap.size<=o)) (B1:Hid (l.getD 17 true=true->(l.getD 18 true=false->w.heap[o]?=some (.cells #[.int .i64 0,.slice none 0 0,.slice none 0 0,.slice none 0 0,.slice none 0 0,.slice none 0 0] 39 (0,0))))) (B2:Hid (l.getD 18 true=true->l.getD 6 true=true/\l.getD 8 true=true/\l.getD 13 true=true/\l.getD 15 true=true/\l.getD 16 true=true/\l.getD 17 true=true/\w.heap[o]?=some (.cells #[.int .i64 k,x42,x44,x49,.slice none 0 0,x51] 39 (0,0)))) (HG:(w5.grownBy w none))
theorem qTZ {k m o5 b5 gb rb rf cR r0 ro rc:Nat}{im:List Nat}{w5:World}{a0:Act}{l:Array Bool}{a:Act}{w:World}(hc:w5.cell? ⟨o5,0,none⟩=some (.slice (some ⟨gb,0,none⟩) k k)/\w5.cell? ⟨b5,6,none⟩=some (.slice (some ⟨rb,rf,none⟩) m cR)/\w5.cell? ⟨rb,rf,none⟩=some (.slice (some ⟨r0,ro,none⟩) k rc))(h:pm7I k m o5 b5 gb rb rf cR r0 ro rc im w5 a0 l a w):wH 18 (fun W=>W.cell? ⟨o5,0,none⟩=some (.slice (some ⟨gb,0,none⟩) k k)/\W.cell? ⟨b5,6,none⟩=some (.slice (some ⟨rb,rf,none⟩) m cR)/\W.cell? ⟨rb,rf,none⟩=some (.slice (some ⟨r0,ro,none⟩) k rc)) (fun _=>True) l w:=by
 obtain⟨x42,x44,x49,x51,x52,x8,o,ha,HR,H6,H8,h3,h2,h1,h0,B1,B2,HG⟩:=h;exact⟨⟨zK hc.1 HG,zK hc.2.1 HG,zK hc.2.2 HG⟩,fun _=>trivial⟩
theorem gY {k m o5 b5 gb rb rf cR r0 ro rc:Nat}{im:List Nat}{w5:World}{a0:Act}{l:Array Bool}{a:Act}{w:World}(h:pm7I k m o5 b5 gb rb rf cR r0 ro rc im w5 a0 l a w):∀j∈[0,1,2,3,4,5,7,9,10,11,12,14],l.getD j true=true:=by
 obtain⟨x42,x44,x49,x51,x52,x8,o,ha,HR,H6,H8,h3,h2,h1,h0,B1,B2,HG⟩:=h;exact HR
theorem qJU {k m o5 b5 gb rb rf cR r0 ro rc:Nat}{im:List Nat}{w5:World}{v0 v1 v2 v3 v4 v5 v6 v7 v8 v9 y2 y3 y4 y5 y6 y7 y8 y9 x0 x1 x2 x3 x4 x5 x6 x7 x9 t0 t1 t2 t3 t4 t5 t6 t7 t8 t9 r1 r2 r3 r4 r5 r6 r7 r8 r9 q0 q1 q2 q3 q4 q5 q6 q7 q8 q9 p0 p1 p2 p3 p4 p5 p6 p7 p8 p9 o0 o1 o2 o3 o4 o6 o7 o8 o9 n0 n1 n2 n3 n4 n5 n6 n7 n8 n9 m0 m1 m2 m7 m8 m9 l0 l1 l2 l3 l4 l5 l6 l7 l8 l9 k6 k7 k8 k9 j0 j1 j2 j3 j4 j5 j6 j7 j8 j9 i0 i1 i2 i3 i4 i5 i6 i7 i8 i9 g0 g1 g2 g3 g4 g5 g7 g9 f6 f7 f8 f9 e0 e1 e2 e3 e4 e5 e6 e7 e8 e9 d0 d1 d2 d3 d4 d5 d6 d7 d8 d9 c0 c1 c2 c3 c4 c5 c7 c8 c9 b0 b1 b2 b3 b4 b6 b7 b8 b9 a1 a2 a3 a4 a5 a6 a7 a8:Value}{dd:_}{a0:Act}(a9:a0=⟨#[v0,v1,v2,v3,v4,v5,v6,v7,v8,v9,y2,y3,y4,y5,y6,y7,y8,y9,x0,x1,x2,x3,x4,x5,x6,x7,x9,t0,t1,t2,t3,t4,t5,t6,t7,t8,.pointer (some ⟨o5,0,none⟩),.pointer (some ⟨o5,0,none⟩),.pointer (some ⟨o5,0,none⟩),.slice (some ⟨gb,0,none⟩) k k,.int .i64 k,.int .i64 m,t9,.int .i64 m,r1,.pointer (some ⟨b5,6,none⟩),.slice (some ⟨rb,rf,none⟩) m cR,.pointer (some ⟨rb,rf,none⟩),.slice (some ⟨r0,ro,none⟩) k rc,r2,.int .i64 m,r3,r4,r5,r6,r7,r8,r9,q0,q1,q2,q3,q4,q5,q6,q7,q8,q9,p0,p1,p2,p3,p4,p5,p6,p7,p8,p9,o0,o1,o2,o3,o4,o6,o7,o8,o9,n0,n1,n2,n3,n4,n5,n6,n7,n8,n9,m0,m1,m2,m7,m8,m9,l0,l1,l2,l3,l4,l5,l6,l7,l8,l9,k6,k7,k8,k9,j0,j1,j2,j3,j4,j5,j6,j7,j8,j9,i0,i1,i2,i3,i4,i5,i6,i7,i8,i9,g0,g1,g2,g3,g4,g5,g7,g9,f6,f7,f8,f9,e0,e1,e2,e3,e4,e5,e6,e7,e8,e9,d0,d1,d2,d3,d4,d5,d6,d7,d8,d9,c0,c1,c2,c3,c4,c5,c7,c8,c9,b0,b1,b2,b3,b4,b6,b7,b8,b9,a1,a2,a3,a4,a5,a6,a7,a8],dd⟩)(z8:∀w:World,(Instr.makeSlice 27 (.int .i64 (m:Int)) (.int .i64 (m:Int))).run Tryz.prog w=.ok (.slice (some ⟨w.heap.size,0,none⟩) m m) (w.alloc (.cells (madeCells #[(.slice none 0 0)] m) 22)))(z9:∀w:World,(Instr.makeSlice 37 (.int .i64 (m:Int)) (.int .i64 (m:Int))).run Tryz.prog w=.ok (.slice (some ⟨w.heap.size,0,none⟩) m m) (w.alloc (.cells (madeCells #[(.string ⟨#[]⟩)] m) 9)))(m3:∀w:World,(Instr.makeSlice 26 (.int .i64 (m:Int)) (.int .i64 (m:Int))).run Tryz.prog w=.ok (.slice (some ⟨w.heap.size,0,none⟩) m m) (w.alloc (.cells (madeCells #[(.bool false)] m) 4)))(y0:Hid ((madeCells #[(.slice none 0 0)] m).toList=List.replicate m (.slice none 0 0)))(y1:Hid ((madeCells #[(.string ⟨#[]⟩)] m).toList=List.replicate m (.string ⟨#[]⟩)))(m5:Hid ((madeCells #[(.bool false)] m).toList=List.replicate m (.bool false)))(m4:m<=maxLen)(z7:∀W:World,w5.grownBy W none->Calls Tryz.prog 79 #[.slice (some ⟨r0,ro,none⟩) k rc] W fun e w'=>∃g c,e=.returned (.slice (some ⟨g,0,none⟩) k c)/\k<=c/\c<=maxLen/\w'.ownsRow w5.heap.size 3 1 (.slice (some ⟨g,0,none⟩) k c) k (nats im)/\W.grownBy w' none)(m6:Array Oper)(Q7:Exit->Act->World->Prop):pU (iJ Tryz.prog .any m6 Q7 (pm7I k m o5 b5 gb rb rf cR r0 ro rc im w5 a0)) 0 (qD Tryz.f51 7).toList:=by
 refine⟨?s0,?s1,?s2,?s3,?s4,?s5,?s6,?s7,?s8,?s9,?s10,?s11,?s12,?s13,?s14,?s15,?s16,?s17,?s18,trivial⟩
 case s0 =>
  exact fun l a w h h0=>absurd (gY h 0 (by simp)) (by rw[h0];simp)
 case s1 =>
  exact fun l a w h h0=>absurd (gY h 1 (by simp)) (by rw[h0];simp)
 case s2 =>
  exact fun l a w h h0=>absurd (gY h 2 (by simp)) (by rw[h0];simp)
 case s3 =>
  exact fun l a w h h0=>absurd (gY h 3 (by simp)) (by rw[h0];simp)
 case s4 =>
  exact fun l a w h h0=>absurd (gY h 4 (by simp)) (by rw[h0];simp)
 case s5 =>
  exact fun l a w h h0=>absurd (gY h 5 (by simp)) (by rw[h0];simp)
 case s6 =>
  intro l a w h h0 h3 K hK;obtain⟨x42,x44,x49,x51,x52,x8,o,ha,HR,H6,H8,h7,h6,h4,h5,B1,B2,HG⟩:=h;subst ha;rw[a9];simp only[zP,List.foldl_cons,List.foldl_nil,Act.put,sPa,sPb,sPc];go_simp;have z0:=oM (e:=22) y0.out HG.size m4;refine hK.out _ _ ?_;refine⟨(.slice (some ⟨w.heap.size,0,none⟩) m m),x44,x49,x51,x52,x8,o,?fa6,fun j hj=>zD (HR j hj),Kh (fun _=>⟨w.heap.size,rfl,z0⟩),Kh (fun h=>let ⟨g,e,ho⟩:=H8.out (zE (by decide) h);⟨g,e,zY ho (Ga w (.cells (madeCells #[(.slice none 0 0)] m) 22) none)⟩),Kh (fun h=>let ⟨g,c,e,h1,h2,ho⟩:=h7.out (zE (by decide) h);⟨g,c,e,h1,h2,zY ho (Ga w (.cells (madeCells #[(.slice none 0 0)] m) 22) none)⟩),Kh (fun h=>let ⟨g,e,ho⟩:=h6.out (zE (by decide) h);⟨g,e,zY ho (Ga w (.cells (madeCells #[(.slice none 0 0)] m) 22) none)⟩),(hs7A h4 h0),(hs7P h5),Kh (fun h h9=>zB (B1.out (zE (by decide) h) (zI h9)) (Ga w (.cells (madeCells #[(.slice none 0 0)] m) 22) none)),(hs7A B2 h0),zC HG (Ga w (.cells (madeCells #[(.slice none 0 0)] m) 22) none)⟩
  case fa6=>rw[a9];simp only[zP,List.foldl_cons,List.foldl_nil,Act.put,sPa,sPb,sPc]
 case s7 =>
  exact fun l a w h h0=>absurd (gY h 7 (by simp)) (by rw[h0];simp)
 case s8 =>
  intro l a w h h0 h3 K hK;obtain⟨x42,x44,x49,x51,x52,x8,o,ha,HR,H6,H8,h7,h6,h4,h5,B1,B2,HG⟩:=h;subst ha;rw[a9];simp only[zP,List.foldl_cons,List.foldl_nil,Act.put,sPa,sPb,sPc];go_simp;have z0:=oM (e:=9) y1.out HG.size m4;refine hK.out _ _ ?_;refine⟨x42,(.slice (some ⟨w.heap.size,0,none⟩) m m),x49,x51,x52,x8,o,?fa8,fun j hj=>zD (HR j hj),Kh (fun h=>let ⟨g,e,ho⟩:=H6.out (zE (by decide) h);⟨g,e,zY ho (Ga w (.cells (madeCells #[(.string ⟨#[]⟩)] m) 9) none)⟩),Kh (fun _=>⟨w.heap.size,rfl,z0⟩),Kh (fun h=>let ⟨g,c,e,h1,h2,ho⟩:=h7.out (zE (by decide) h);⟨g,c,e,h1,h2,zY ho (Ga w (.cells (madeCells #[(.string ⟨#[]⟩)] m) 9) none)⟩),Kh (fun h=>let ⟨g,e,ho⟩:=h6.out (zE (by decide) h);⟨g,e,zY ho (Ga w (.cells (madeCells #[(.string ⟨#[]⟩)] m) 9) none)⟩),(hs7B h4 h0),(hs7P h5),Kh (fun h h9=>zB (B1.out (zE (by decide) h) (zI h9)) (Ga w (.cells (madeCells #[(.string ⟨#[]⟩)] m) 9) none)),(hs7B B2 h0),zC HG (Ga w (.cells (madeCells #[(.string ⟨#[]⟩)] m) 9) none)⟩
  case fa8=>rw[a9];simp only[zP,List.foldl_cons,List.foldl_nil,Act.put,sPa,sPb,sPc]
 case s9 =>
  exact fun l a w h h0=>absurd (gY h 9 (by simp)) (by rw[h0];simp)
 case s10 =>
  exact fun l a w h h0=>absurd (gY h 10 (by simp)) (by rw[h0];simp)
 case s11 =>
  exact fun l a w h h0=>absurd (gY h 11 (by simp)) (by rw[h0];simp)
 case s12 =>
  exact fun l a w h h0=>absurd (gY h 12 (by simp)) (by rw[h0];simp)
 case s13 =>
  intro l a w h h0 h3 K hK;obtain⟨x42,x44,x49,x51,x52,x8,o,ha,HR,H6,H8,h7,h6,h4,h5,B1,B2,HG⟩:=h;subst ha;rw[a9];simp only[zP,List.foldl_cons,List.foldl_nil,Act.put,sPa,sPb,sPc];go_simp
  go_at_call 79
  refine(z7 w HG).mono ?_;rintro e w6 ⟨g6,c6,rfl,A1,A2,H5,H9⟩;refine hK.out _ _ ?_;refine⟨x42,x44,(.slice (some ⟨g6,0,none⟩) k c6),x51,x52,x8,o,?fa13,fun j hj=>zD (HR j hj),Kh (fun h=>let ⟨g,e,ho⟩:=H6.out (zE (by decide) h);⟨g,e,zY ho H9⟩),Kh (fun h=>let ⟨g,e,ho⟩:=H8.out (zE (by decide) h);⟨g,e,zY ho H9⟩),Kh (fun _=>⟨g6,c6,rfl,A1,A2,H5⟩),Kh (fun h=>let ⟨g,e,ho⟩:=h6.out (zE (by decide) h);⟨g,e,zY ho H9⟩),Kh (fun h=>absurd (h4.out (zE (by decide) h)).2.2.1 (by rw[h0];simp)),(hs7P h5),Kh (fun h h9=>zB (B1.out (zE (by decide) h) (zI h9)) H9),Kh (fun h=>absurd (B2.out (zE (by decide) h)).2.2.1 (by rw[h0];simp)),zC HG H9⟩
  case fa13=>rw[a9];simp only[zP,List.foldl_cons,List.foldl_nil,Act.put,sPa,sPb,sPc]
 case s14 =>
  exact fun l a w h h0=>absurd (gY h 14 (by simp)) (by rw[h0];simp)
 case s15 =>
  intro l a w h h0 h3 K hK;obtain⟨x42,x44,x49,x51,x52,x8,o,ha,HR,H6,H8,h7,h6,h4,h5,B1,B2,HG⟩:=h;subst ha;rw[a9];simp only[zP,List.foldl_cons,List.foldl_nil,Act.put,sPa,sPb,sPc];go_simp;have z0:=oM (e:=4) m5.out HG.size m4;refine hK.out _ _ ?_;refine⟨x42,x44,x49,(.slice (some ⟨w.heap.size,0,none⟩) m m),x52,x8,o,?fa15,fun j hj=>zD (HR j hj),Kh (fun h=>let ⟨g,e,ho⟩:=H6.out (zE (by decide) h);⟨g,e,zY ho (Ga w (.cells (madeCells #[(.bool false)] m) 4) none)⟩),Kh (fun h=>let ⟨g,e,ho⟩:=H8.out (zE (by decide) h);⟨g,e,zY ho (Ga w (.cells (madeCells #[(.bool false)] m) 4) none)⟩),Kh (fun h=>let ⟨g,c,e,h1,h2,ho⟩:=h7.out (zE (by decide) h);⟨g,c,e,h1,h2,zY ho (Ga w (.cells (madeCells #[(.bool false)] m) 4) none)⟩),Kh (fun _=>⟨w.heap.size,rfl,z0⟩),Kh (fun h=>absurd (h4.out (zE (by decide) h)).2.2.2.1 (by rw[h0];simp)),(hs7P h5),Kh (fun h h9=>zB (B1.out (zE (by decide) h) (zI h9)) (Ga w (.cells (madeCells #[(.bool false)] m) 4) none)),Kh (fun h=>absurd (B2.out (zE (by decide) h)).2.2.2.1 (by rw[h0];simp)),zC HG (Ga w (.cells (madeCells #[(.bool false)] m) 4) none)⟩
  case fa15=>rw[a9];simp only[zP,List.foldl_cons,List.foldl_nil,Act.put,sPa,sPb,sPc]
 case s16 =>
  intro l a w h h0 h3 K hK;obtain⟨x42,x44,x49,x51,x52,x8,o,ha,HR,H6,H8,h7,h6,h4,h5,B1,B2,HG⟩:=h;have DH6:=H6.out (zM (h3 ⟨6,.data⟩ (by simp) rfl));have DH8:=H8.out (zM (h3 ⟨8,.data⟩ (by simp) rfl));have DH13:=h7.out (zM (h3 ⟨13,.data⟩ (by simp) rfl));have DH15:=h6.out (zM (h3 ⟨15,.data⟩ (by simp) rfl));obtain⟨g6,rfl,z2⟩:=DH6;obtain⟨g8,rfl,z1⟩:=DH8;obtain⟨g13,c13,rfl,H1,H4,H0⟩:=DH13;obtain⟨g15,rfl,h8⟩:=DH15;subst ha;rw[a9];simp only[zP,List.foldl_cons,List.foldl_nil,Act.put,sPa,sPb,sPc];go_simp;refine hK.out _ _ ?_;refine⟨(.slice (some ⟨g6,0,none⟩) m m),(.slice (some ⟨g8,0,none⟩) m m),(.slice (some ⟨g13,0,none⟩) k c13),(.slice (some ⟨g15,0,none⟩) m m),(.agg #[.int .i64 k,(.slice (some ⟨g6,0,none⟩) m m),(.slice (some ⟨g8,0,none⟩) m m),(.slice (some ⟨g13,0,none⟩) k c13),.slice none 0 0,(.slice (some ⟨g15,0,none⟩) m m)]),x8,o,?fa16,fun j hj=>zD (HR j hj),Kh (fun _=>⟨g6,rfl,z2⟩),Kh (fun _=>⟨g8,rfl,z1⟩),Kh (fun _=>⟨g13,c13,rfl,H1,H4,H0⟩),Kh (fun _=>⟨g15,rfl,h8⟩),Kh (fun _=>⟨zD (zM (h3 ⟨6,.data⟩ (by simp) rfl)),zD (zM (h3 ⟨8,.data⟩ (by simp) rfl)),zD (zM (h3 ⟨13,.data⟩ (by simp) rfl)),zD (zM (h3 ⟨15,.data⟩ (by simp) rfl)),rfl⟩),(hs7P h5),Kh (fun h h9=>B1.out (zE (by decide) h) (zI h9)),Kh (fun h=>absurd (B2.out (zE (by decide) h)).2.2.2.2.1 (by rw[h0];simp)),HG⟩
  case fa16=>rw[a9];simp only[zP,List.foldl_cons,List.foldl_nil,Act.put,sPa,sPb,sPc]
 case s17 =>
  intro l a w h h0 h3 K hK;obtain⟨x42,x44,x49,x51,x52,x8,o,ha,HR,H6,H8,h7,h6,h4,h5,B1,B2,HG⟩:=h;subst ha;rw[a9];simp only[zP,List.foldl_cons,List.foldl_nil,Act.put,sPa,sPb,sPc];go_simp;refine hK.out _ _ ?_;refine⟨x42,x44,x49,x51,x52,(.pointer (some ⟨w.heap.size,0,none⟩)),w.heap.size,?fa17,fun j hj=>zD (HR j hj),Kh (fun h=>let ⟨g,e,ho⟩:=H6.out (zE (by decide) h);⟨g,e,zY ho (Ga w (.cells #[.int .i64 0,.slice none 0 0,.slice none 0 0,.slice none 0 0,.slice none 0 0,.slice none 0 0] 39) none)⟩),Kh (fun h=>let ⟨g,e,ho⟩:=H8.out (zE (by decide) h);⟨g,e,zY ho (Ga w (.cells #[.int .i64 0,.slice none 0 0,.slice none 0 0,.slice none 0 0,.slice none 0 0,.slice none 0 0] 39) none)⟩),Kh (fun h=>let ⟨g,c,e,h1,h2,ho⟩:=h7.out (zE (by decide) h);⟨g,c,e,h1,h2,zY ho (Ga w (.cells #[.int .i64 0,.slice none 0 0,.slice none 0 0,.slice none 0 0,.slice none 0 0,.slice none 0 0] 39) none)⟩),Kh (fun h=>let ⟨g,e,ho⟩:=h6.out (zE (by decide) h);⟨g,e,zY ho (Ga w (.cells #[.int .i64 0,.slice none 0 0,.slice none 0 0,.slice none 0 0,.slice none 0 0,.slice none 0 0] 39) none)⟩),Kh (fun h=>⟨zD (h4.out (zE (by decide) h)).1,zD (h4.out (zE (by decide) h)).2.1,zD (h4.out (zE (by decide) h)).2.2.1,zD (h4.out (zE (by decide) h)).2.2.2.1,(h4.out (zE (by decide) h)).2.2.2.2⟩),Kh (fun _=>⟨rfl,HG.size⟩),Kh (fun _ _=>heap_alloc_new w _),Kh (fun h=>absurd (B2.out (zE (by decide) h)).2.2.2.2.2.1 (by rw[h0];simp)),zC HG (Ga w (.cells #[.int .i64 0,.slice none 0 0,.slice none 0 0,.slice none 0 0,.slice none 0 0,.slice none 0 0] 39) none)⟩
  case fa17=>rw[a9];simp only[zP,List.foldl_cons,List.foldl_nil,Act.put,sPa,sPb,sPc]
 intro l a w h h0 h3 K hK;obtain⟨x42,x44,x49,x51,x52,x8,o,ha,HR,H6,H8,h7,h6,h4,h5,B1,B2,HG⟩:=h;have DH17:=h5.out (zM (h3 ⟨17,.data⟩ (by simp) rfl));have DB1:=B1.out (zM (h3 ⟨17,.data⟩ (by simp) rfl));have DH16:=h4.out (zM (h3 ⟨16,.data⟩ (by simp) rfl));obtain⟨rfl,ho⟩:=DH17;obtain⟨z4,z3,H3,H2,rfl⟩:=DH16;have z6:=zM (h3 ⟨16,.data⟩ (by simp) rfl);have z5:=zM (h3 ⟨17,.data⟩ (by simp) rfl);obtain⟨g6,rfl,z2⟩:=H6.out z4;obtain⟨g8,rfl,z1⟩:=H8.out z3;obtain⟨g13,c13,rfl,H1,H4,H0⟩:=h7.out H3;obtain⟨g15,rfl,h8⟩:=h6.out H2;have hb:=DB1 h0;subst ha;rw[a9];simp only[zP,List.foldl_cons,List.foldl_nil,Act.put,sPa,sPb,sPc];obtain⟨k0,k1,k2,k3,k4,k5⟩:=yD hb;have f0:=zA hb 0;have f1:=zA hb 1;have f2:=zA hb 2;have f3:=zA hb 3;have f4:=zA hb 4;have f5:=zA hb 5;go_simp;obtain⟨A0,H7⟩:=uM hb (.int .i64 k) (.slice (some ⟨g6,0,none⟩) m m) (.slice (some ⟨g8,0,none⟩) m m) (.slice (some ⟨g13,0,none⟩) k c13) (.slice none 0 0) (.slice (some ⟨g15,0,none⟩) m m);refine hK.out _ _ ?_;refine⟨(.slice (some ⟨g6,0,none⟩) m m),(.slice (some ⟨g8,0,none⟩) m m),(.slice (some ⟨g13,0,none⟩) k c13),(.slice (some ⟨g15,0,none⟩) m m),(.agg #[.int .i64 k,(.slice (some ⟨g6,0,none⟩) m m),(.slice (some ⟨g8,0,none⟩) m m),(.slice (some ⟨g13,0,none⟩) k c13),.slice none 0 0,(.slice (some ⟨g15,0,none⟩) m m)]),(.pointer (some ⟨o,0,none⟩)),o,?fa18,fun j hj=>zD (HR j hj),Kh (fun _=>⟨g6,rfl,z2.kept H7 (.inr (zV z2 hb (by decide)))⟩),Kh (fun _=>⟨g8,rfl,z1.kept H7 (.inr (zV z1 hb (by decide)))⟩),Kh (fun _=>⟨g13,c13,rfl,H1,H4,H0.kept H7 (.inr (zV H0 hb (by decide)))⟩),Kh (fun _=>⟨g15,rfl,h8.kept H7 (.inr (zV h8 hb (by decide)))⟩),Kh (fun _=>⟨zD z4,zD z3,zD H3,zD H2,rfl⟩),Kh (fun _=>⟨rfl,ho⟩),Kh (fun _ h9=>yF h9),Kh (fun _=>⟨zD z4,zD z3,zD H3,zD H2,zD z6,zD z5,A0⟩),yG HG H7 (by show _<=o;omega)⟩
 case fa18=>rw[a9];simp only[zP,List.foldl_cons,List.foldl_nil,Act.put,sPa,sPb,sPc]
inductive MonS (w6:World)(o m k tg wg ig ic pg:Nat)(im:List Nat)(hsT:List Value)(done:List (List Nat))(ws:List Value)(ps:List Bool)(tl:List RowS)(w:World):Prop
 | mk (X:Nat->Prop) (hB:BoxS w6.heap.size X o 39 w6 w (⟨w6.heap.size,22,.slice (some ⟨tg,0,none⟩) m m,m,hsT,1⟩::⟨w6.heap.size,9,.slice (some ⟨wg,0,none⟩) m m,m,ws,1⟩::⟨w6.heap.size,3,.slice (some ⟨ig,0,none⟩) k ic,k,nats im,1⟩::⟨w6.heap.size,4,.slice (some ⟨pg,0,none⟩) m m,m,bls ps,1⟩::tl) #[.int .i64 (k:Int),.slice (some ⟨tg,0,none⟩) m m,.slice (some ⟨wg,0,none⟩) m m,.slice (some ⟨ig,0,none⟩) k ic,.slice none 0 0,.slice (some ⟨pg,0,none⟩) m m] w) (hT:xU X 3 nats w (hsT.take done.length) done)
section
variable {w6 w w':World} {o m k tg wg ig ic pg:Nat} {im:List Nat} {hsT:List Value} {done:List (List Nat)} {ws:List Value} {ps:List Bool} {tl:List RowS}
theorem MonS.grow (h:MonS w6 o m k tg wg ig ic pg im hsT done ws ps tl w)(hg:w.grownBy w' none):MonS w6 o m k tg wg ig ic pg im hsT done ws ps tl w':=by
 obtain⟨X,hB,hT⟩:=h;exact⟨X,(hB.grow hg).rebase,hT.kept (hB.mem.keep hg) hg.size⟩
theorem MonS.g (h:MonS w6 o m k tg wg ig ic pg im hsT done ws ps tl w):w6.grownBy w none:=by
 obtain⟨X,hB,hT⟩:=h;exact hB.grown
theorem MonS.cells (h:MonS w6 o m k tg wg ig ic pg im hsT done ws ps tl w):w.heap[o]?=some (.cells #[.int .i64 (k:Int),.slice (some ⟨tg,0,none⟩) m m,.slice (some ⟨wg,0,none⟩) m m,.slice (some ⟨ig,0,none⟩) k ic,.slice none 0 0,.slice (some ⟨pg,0,none⟩) m m] 39 (0,0))/\Arr w tg 22 hsT/\Arr w wg 9 ws/\Arr w pg 4 (bls ps)/\hsT.length=m/\ws.length=m/\ps.length=m:=by
 obtain⟨X,hB,hT⟩:=h;have h1:=hB.own (r:=⟨w6.heap.size,22,.slice (some ⟨tg,0,none⟩) m m,m,hsT,1⟩) (by simp);have h2:=hB.own (r:=⟨w6.heap.size,9,.slice (some ⟨wg,0,none⟩) m m,m,ws,1⟩) (by simp);have h3:=hB.own (r:=⟨w6.heap.size,4,.slice (some ⟨pg,0,none⟩) m m,m,bls ps,1⟩) (by simp);exact⟨hB.box,Arr.of_owns h1,Arr.of_owns h2,Arr.of_owns h3,by have:=h1.1;simpa using this,by have:=h2.1;simpa using this,by have:=h3.1;simpa [bls] using this⟩
theorem MonS.putW (h:MonS w6 o m k tg wg ig ic pg im hsT done ws ps tl w){i:Nat}(hi:i<m)(u:Value):MonS w6 o m k tg wg ig ic pg im hsT done (ws.set i u) ps tl (w.setCell ⟨wg,i,none⟩ u):=by
 obtain⟨X,hB,hT⟩:=h;have hP:=hB.put (j:=1) rfl hi u;exact⟨X,hP.rebase,hT.kept hP.kept hP.wk⟩
theorem MonS.putP (h:MonS w6 o m k tg wg ig ic pg im hsT done ws ps tl w){i:Nat}(hi:i<m)(b:Bool):MonS w6 o m k tg wg ig ic pg im hsT done ws (ps.set i b) tl (w.setCell ⟨pg,i,none⟩ (.bool b)):=by
 obtain⟨X,hB,hT⟩:=h;have hP:=hB.put (j:=3) rfl hi (.bool b);rw[qEX]at hP;exact⟨X,hP.rebase,hT.kept hP.kept hP.wk⟩
theorem MonS.begin {cg i:Nat}{xs:List Value}(h:MonS w6 o m k tg wg ig ic pg im hsT done ws ps [] w)(hi:i<m)(hd:done.length=i)(hg:w.grownBy w' none)(ho:w'.ownsRow w.heap.size 3 1 (.slice (some ⟨cg,0,none⟩) m m) m xs):MonS w6 o m k tg wg ig ic pg im (hsT.set i (.slice (some ⟨cg,0,none⟩) m m)) done ws ps (⟨w6.heap.size,3,.slice (some ⟨cg,0,none⟩) m m,m,xs,1⟩::[]) (w'.setCell ⟨tg,i,none⟩ (.slice (some ⟨cg,0,none⟩) m m)):=by
 obtain⟨X,hB,hT⟩:=h;have hA:=hB.add hg (e:=3) (sz:=1) (n:=m) (v:=.slice (some ⟨cg,0,none⟩) m m) (xs:=xs) ho (by decide);have hP:=hA.put (j:=0) rfl hi (.slice (some ⟨cg,0,none⟩) m m);refine⟨X,hP.rebase,?_⟩;rw[List.take_set_of_le (by omega)];exact hT.kept hP.kept hP.wk
theorem MonS.putC {cg j:Nat}{xs:List Value}(h:MonS w6 o m k tg wg ig ic pg im hsT done ws ps (⟨w6.heap.size,3,.slice (some ⟨cg,0,none⟩) m m,m,xs,1⟩::[]) w)(hj:j<m)(u:Value):MonS w6 o m k tg wg ig ic pg im hsT done ws ps (⟨w6.heap.size,3,.slice (some ⟨cg,0,none⟩) m m,m,(xs.set j u),1⟩::[]) (w.setCell ⟨cg,j,none⟩ u):=by
 obtain⟨X,hB,hT⟩:=h;have hP:=hB.put (j:=4) rfl hj u;exact⟨X,hP.rebase,hT.kept hP.kept hP.wk⟩
theorem MonS.arrC {cg:Nat}{xs:List Value}(h:MonS w6 o m k tg wg ig ic pg im hsT done ws ps (⟨w6.heap.size,3,.slice (some ⟨cg,0,none⟩) m m,m,xs,1⟩::[]) w):Arr w cg 3 xs:=by
 obtain⟨X,hB,hT⟩:=h;exact Arr.of_owns (hB.own (r:=⟨w6.heap.size,3,.slice (some ⟨cg,0,none⟩) m m,m,xs,1⟩) (by simp))
theorem MonS.fin {cg i:Nat}{r:List Nat}(h:MonS w6 o m k tg wg ig ic pg im hsT done ws ps (⟨w6.heap.size,3,.slice (some ⟨cg,0,none⟩) m m,m,nats r,1⟩::[]) w)(hd:done.length=i)(hi:i<m)(hh:hsT[i]?=some (.slice (some ⟨cg,0,none⟩) m m)):MonS w6 o m k tg wg ig ic pg im hsT (done++[r]) ws ps [] w:=by
 obtain⟨X,hB,hT⟩:=h;have hR:=BoxS.retire (rs:=(⟨w6.heap.size,22,.slice (some ⟨tg,0,none⟩) m m,m,hsT,1⟩::⟨w6.heap.size,9,.slice (some ⟨wg,0,none⟩) m m,m,ws,1⟩::⟨w6.heap.size,3,.slice (some ⟨ig,0,none⟩) k ic,k,nats im,1⟩::⟨w6.heap.size,4,.slice (some ⟨pg,0,none⟩) m m,m,bls ps,1⟩::[])) (r:=⟨w6.heap.size,3,.slice (some ⟨cg,0,none⟩) m m,m,nats r,1⟩) hB;refine⟨_,hR,?_⟩;have hX:RowX (fun j=>X j\/(Value.slice (some ⟨cg,0,none⟩) m m).ownBlock=some j) 3 w (.slice (some ⟨cg,0,none⟩) m m) (nats r):=RowX.of_owns (hB.own (r:=⟨w6.heap.size,3,.slice (some ⟨cg,0,none⟩) m m,m,nats r,1⟩) (by simp)) (fun j hj=>.inr hj);have h9:=(hT.mono (X':=fun j=>X j\/(Value.slice (some ⟨cg,0,none⟩) m m).ownBlock=some j) (fun j hj=>.inl hj)).snoc hX
 have e:hsT.take done.length++[.slice (some ⟨cg,0,none⟩) m m]=hsT.take (done++[r]).length:=by
  rw[List.length_append,List.length_singleton,hd,List.take_add_one,hh];rfl
 rw[e]at h9;exact h9
end
theorem qRD {Q:Exit->Act->World->Prop}{v0 v1 v2 v3 v4 v6 v7 s9 r0 r1 r2 r3 r4 r5 r6 r7 r8 r9 q0 q1 q3 q4 q5 q6 q7 q8 p0 p1 p2 p3 p4 p5 p6 p7 p8 p9 o0 o1 o2 o3 o4 o5 o6 o7 o8 o9 n0 n1 n2 n3 n4 n5 n6 n7 n8 x5 x6 x7 x8 x9 t0 t1 t2 t3 t4 t5 t6 t7 t8 t9 s0 s1 s2 s3 s4 s5 s6 s7 n9 m0 m1 m2 m3 m4 m5 m6 m7 m8 m9 l0 l1 l2 l3 l4 l5 l6 l7 k0 k1 k2 k3 k4 k5 k6 k7 k8 k9 j0 j1 j2 j3 j4 j5 j6 j7 j8 j9 i0 i1 i2 i3 i4 i5 i6 i7 i8 i9 g0 g1 g2 g3 g4 g5 g6 g7 g8 g9 f0 f1 f2 f3 f4 f5 f6 f7 f8 e0 e1 e2 e3 e4 e5 e6 e7 e8 e9 d0 d1 d2 d3 d4 d5 d6 d7 d8 d9 c0 c1 c2 c3 c6 c7 c8 c9 b0 b1 b2 b3 b4 b6 b7 b8 b9 a0 a1 a2 a3 a4 a5 a6 a7 a8:Value}{w6 w:World}{o m k tg wg ig ic pg:Nat}{im:List Nat}{s8:List Value}{done:List (List Nat)}{ws:List Value}{ps:List Bool}{tl:List RowS}{b5 qb qo qc lb lo lc i p a:Nat}{sp:ByteArray}(h:MonS w6 o m k tg wg ig ic pg im s8 done ws ps tl w)(hi:i<m)(hp:p<i)(ha:a<26)(hm:m<=400)(x4:sp.size<=400)(c4:w.cell? ⟨b5,4,none⟩=some (.slice (some ⟨qb,qo,none⟩) m qc))(cq:w.cell? ⟨qb,qo+i,none⟩=some (.int .i64 (p:Int)))(cw:ws[p]?=some (.string sp))(c5:w.cell? ⟨b5,5,none⟩=some (.slice (some ⟨lb,lo,none⟩) m lc))(cl:w.cell? ⟨lb,lo+i,none⟩=some (.int .i64 (a:Int)))(l9:m<=qc/\qc<=maxLen)(l8:m<=lc/\lc<=maxLen)(a9:∀(z58 z59 z60 z61 z62 z63 z64 z65 z66 z67 z68 z69 z70 z71 z72 z73 z74 z75 z76 z77 z78 z79 z80:Value) (w':World),MonS w6 o m k tg wg ig ic pg im s8 done (ws.set i (.string (sp++strOfNums [97+(a:Int)]))) ps tl w'->Q .normal ⟨(v0::v1::v2::v3::v4::(Value.pointer (some ⟨b5,0,none⟩))::v6::v7::(Value.pointer (some ⟨o,0,none⟩))::(Value.int .i64 (i:Int))::s9::r0::r1::r2::r3::r4::r5::r6::r7::r8::r9::q0::q1::q3::q4::q5::q6::q7::q8::p0::p1::p2::p3::p4::p5::p6::p7::p8::p9::o0::o1::o2::o3::o4::o5::o6::o7::o8::o9::n0::n1::n2::n3::n4::n5::n6::n7::n8::z58::z59::z60::z61::z62::z63::z64::z65::z66::z67::z68::z69::z70::z71::z72::z73::z74::z75::z76::z77::z78::z79::z80::n9::m0::m1::m2::m3::m4::m5::m6::m7::m8::m9::l0::l1::l2::l3::l4::l5::l6::l7::k0::k1::k2::k3::k4::k5::k6::k7::k8::k9::j0::j1::j2::j3::j4::j5::j6::j7::j8::j9::i0::i1::i2::i3::i4::i5::i6::i7::i8::i9::g0::g1::g2::g3::g4::g5::g6::g7::g8::g9::f0::f1::f2::f3::f4::f5::f6::f7::f8::e0::e1::e2::e3::e4::e5::e6::e7::e8::e9::d0::d1::d2::d3::d4::d5::d6::d7::d8::d9::c0::c1::c2::c3::c6::c7::c8::c9::b0::b1::b2::b3::b4::b6::b7::b8::b9::a0::a1::a2::a3::a4::a5::a6::a7::a8::[]).toArray,[]⟩ w'):Code.wp Tryz.prog (reg Tryz.f51 11) Q ⟨(v0::v1::v2::v3::v4::(Value.pointer (some ⟨b5,0,none⟩))::v6::v7::(Value.pointer (some ⟨o,0,none⟩))::(Value.int .i64 (i:Int))::s9::r0::r1::r2::r3::r4::r5::r6::r7::r8::r9::q0::q1::q3::q4::q5::q6::q7::q8::p0::p1::p2::p3::p4::p5::p6::p7::p8::p9::o0::o1::o2::o3::o4::o5::o6::o7::o8::o9::n0::n1::n2::n3::n4::n5::n6::n7::n8::x5::x6::x7::x8::x9::t0::t1::t2::t3::t4::t5::t6::t7::t8::t9::s0::s1::s2::s3::s4::s5::s6::s7::n9::m0::m1::m2::m3::m4::m5::m6::m7::m8::m9::l0::l1::l2::l3::l4::l5::l6::l7::k0::k1::k2::k3::k4::k5::k6::k7::k8::k9::j0::j1::j2::j3::j4::j5::j6::j7::j8::j9::i0::i1::i2::i3::i4::i5::i6::i7::i8::i9::g0::g1::g2::g3::g4::g5::g6::g7::g8::g9::f0::f1::f2::f3::f4::f5::f6::f7::f8::e0::e1::e2::e3::e4::e5::e6::e7::e8::e9::d0::d1::d2::d3::d4::d5::d6::d7::d8::d9::c0::c1::c2::c3::c6::c7::c8::c9::b0::b1::b2::b3::b4::b6::b7::b8::b9::a0::a1::a2::a3::a4::a5::a6::a7::a8::[]).toArray,[]⟩ w:=by
 obtain⟨H2,x1,h4,x2,y7,y6,y5⟩:=h.cells
 have h0:∀W:World,w.grownBy W none->W.cell? ⟨o,2,none⟩=some (.slice (some ⟨wg,0,none⟩) m m)/\W.cell? ⟨b5,4,none⟩=some (.slice (some ⟨qb,qo,none⟩) m qc)/\W.cell? ⟨qb,qo+i,none⟩=some (.int .i64 (p:Int))/\W.cell? ⟨wg,p,none⟩=some (.string sp)/\W.cell? ⟨b5,5,none⟩=some (.slice (some ⟨lb,lo,none⟩) m lc)/\W.cell? ⟨lb,lo+i,none⟩=some (.int .i64 (a:Int)):=fun W hg=>by
  have q2:=zH (zB H2 hg) 2;simp only[List.getElem_toArray,List.getElem_cons_zero,List.getElem_cons_succ]at q2;exact⟨q2,zK c4 hg,zK cq hg,pJ (h4.kept hg (by simp)) cw,zK c5 hg,zK cl hg⟩
 have h1:∀W:World,w.grownBy W none->∃u,W.cell? ⟨wg,i,none⟩=some u:=fun W hg=>⟨_,(h4.kept hg (by simp)).cell i (by omega)⟩;have H1:∀W:World,w.grownBy W none->W.frozen? ⟨wg,i,none⟩=false:=fun W hg=>(h4.kept hg (by simp)).frozen i;obtain⟨H,y2,y0⟩:=K3 h h1 H1;have y8:(i:Int)<m:=by omega
 have y4:(p:Int)<m:=by omega
 have H6:=l9.1;have H8:=l8.1;have H5:qc<=9223372036854775807:=by have:=l9.2;unfold maxLen at this;omega
 have H7:lc<=9223372036854775807:=by have:=l8.2;unfold maxLen at this;omega
 have z0:IntKind.u8.wrap (97+(a:Int))=97+(a:Int):=IntWalk.u8_in _ (by omega);have x0:IntKind.i64.wrap (97+(a:Int))=97+(a:Int):=xJ (by omega);obtain⟨ex,h3⟩:=Nm (strOfNums [97+(a:Int)]);have y9:ex.size=1:=by rw[h3];rfl
 have y3:¬9223372036854775807<sp.size+1:=by omega
 have y1:=Kh h3;rw[<-h3]at a9;clear h H2 x1 h4 x2 c4 cq cw c5 cl l9 l8 h1 H1 h3;have H4:Hid (∀W:World,w.grownBy W none->W.cell? ⟨o,2,none⟩=some (.slice (some ⟨wg,0,none⟩) m m)/\W.cell? ⟨b5,4,none⟩=some (.slice (some ⟨qb,qo,none⟩) m qc)/\W.cell? ⟨qb,qo+i,none⟩=some (.int .i64 (p:Int))/\W.cell? ⟨wg,p,none⟩=some (.string sp)/\W.cell? ⟨b5,5,none⟩=some (.slice (some ⟨lb,lo,none⟩) m lc)/\W.cell? ⟨lb,lo+i,none⟩=some (.int .i64 (a:Int))):=Kh (fun W hg=>h0 W hg);clear h0
 conv=>arg 2;whnf
 obtain⟨w7,h6⟩:=Nm w.drew;have H0:w.grownBy w7 none:=by rw[h6];exact zS w none
 have x3:=Kh h6;have H3:=Kh H0;clear h6 H0;refine wp_region_noPanic ?_;refine yM (G:=wH 23 (fun _=>True) (fun W=>W.cell? ⟨o,2,none⟩=some (.slice (some ⟨wg,0,none⟩) m m)/\W.cell? ⟨b5,4,none⟩=some (.slice (some ⟨qb,qo,none⟩) m qc)/\W.cell? ⟨qb,qo+i,none⟩=some (.int .i64 (p:Int))/\W.cell? ⟨wg,p,none⟩=some (.string sp)/\W.cell? ⟨b5,5,none⟩=some (.slice (some ⟨lb,lo,none⟩) m lc)/\W.cell? ⟨lb,lo+i,none⟩=some (.int .i64 (a:Int)))) (by kernel_rfl) ?_;rw[<-x3.out];have C:=Kh (H4.out w7 H3.out);refine zO 0 ⟨trivial,fun _=>C.out⟩ ?_;refine yY 1 ⟨trivial,fun _=>C.out⟩ ?_;refine zO 2 ⟨trivial,fun _=>C.out⟩ ?_;refine zO 3 ⟨trivial,fun _=>C.out⟩ ?_;refine yY 4 ⟨trivial,fun _=>C.out⟩ ?_;refine zO 5 ⟨trivial,fun _=>C.out⟩ ?_;refine yY 6 ⟨trivial,fun _=>C.out⟩ ?_;refine zO 7 ⟨trivial,fun _=>C.out⟩ ?_;refine zO 8 ⟨trivial,fun _=>C.out⟩ ?_;refine yY 9 ⟨trivial,fun _=>C.out⟩ ?_;refine zO 10 ⟨trivial,fun _=>C.out⟩ ?_;refine yY 11 ⟨trivial,fun _=>C.out⟩ ?_;refine zO 12 ⟨trivial,fun _=>C.out⟩ ?_;refine yY 13 ⟨trivial,fun _=>C.out⟩ ?_;refine zO 14 ⟨trivial,fun _=>C.out⟩ ?_;refine zO 15 ⟨trivial,fun _=>C.out⟩ ?_;refine yY 16 ⟨trivial,fun _=>C.out⟩ ?_;refine zO 17 ⟨trivial,fun _=>C.out⟩ ?_;refine zO 18 ⟨trivial,fun _=>C.out⟩ ?_;refine oneG (i:=19) (by kernel_rfl) rfl (fun K hK=>?_);go_simp;have h2:=heap_alloc_new w7 (.cells #[Value.int .u8 (97+(a:Int))] 5);have h7:=Ga w7 (.cells #[Value.int .u8 (97+(a:Int))] 5) none;obtain⟨gR,h9⟩:=Nm w7.heap.size;obtain⟨w9,h8⟩:=Nm (w7.alloc (.cells #[Value.int .u8 (97+(a:Int))] 5));rw[<-h9]at h2⊢;rw[<-h8]at h2 h7⊢;have h5:=Kh (zC H3.out h7);have C9:=Kh (H4.out w9 h5.out);refine hK.out _ _ ⟨trivial,fun _=>C9.out⟩ ?_;clear hK K C h9 h8 h7
 try simp only[Act.put,sPa,sPb,sPc]
 have H9:(convert 72 9 (.slice (some ⟨gR,0,none⟩) 1 1)).run Tryz.prog w9=.ok (.string ex) w9:=by
  rw[y1.out];exact eD 72 5 Tryz.underlying72 Tryz.underlying5 9 Tryz.underlying9 (by simpa using zH h2 0)
 refine oneG (i:=20) (by kernel_rfl) rfl (fun K hK=>?_);go_simp;refine hK.out _ _ ⟨trivial,fun _=>C9.out⟩ ?_;clear hK K H9 h2
 try simp only[Act.put,sPa,sPb,sPc]
 refine oneG (i:=21) (by kernel_rfl) rfl (fun K hK=>?_);go_simp;refine hK.out _ _ ⟨trivial,fun _=>C9.out⟩ ?_;clear hK K
 try simp only[Act.put,sPa,sPb,sPc]
 refine zO 22 ⟨trivial,fun _=>C9.out⟩ ?_;refine oneG (i:=23) (by kernel_rfl) rfl (fun K hK=>?_);obtain⟨u9,q9⟩:=y2.out w9 h5.out;have f9:=y0.out w9 h5.out;go_simp;refine hK.out _ _ ⟨trivial,fun h=>by simp at h⟩ ?_;clear hK K q9 f9
 try simp only[Act.put,sPa,sPb,sPc]
 refine tT (by kernel_rfl) ?_ _;refine NoPanic.normal ?_;exact a9 _ _ _ _ _ _ _ _ _ _ _ _ _ _ _ _ _ _ _ _ _ _ _  _ ((H.out.grow h5.out).putW hi _)
theorem qRF {Q:Exit->Act->World->Prop}{v0 v1 v2 v3 v4 v5 v6 v9 t2 t3 t4 t5 t6 t7 t8 t9 s0 s1 s2 s3 s4 s5 s6 s7 s8 s9 r0 r1 r2 r3 r4 r5 r6 r7 r8 r9 q0 q1 q3 q4 q5 q6 q7 q8 p0 p1 p2 p3 p4 p5 p6 p7 p8 p9 o0 o1 o2 o3 o4 o5 o6 o7 o8 o9 n0 n1 n2 n3 n4 n5 n6 n7 n8 n9 m0 m1 m2 m3 m4 m5 m6 m7 m8 m9 l0 l1 l2 l3 l4 l5 l6 l7 l8 l9 k0 k1 k2 j0 j1 j2 j3 k3 k4 k5 k6 k7 k8 j4 j5 j6 j7 j8 j9 i0 i1 i2 i3 i4 i5 i6 i7 i8 i9 g0 g1 g2 g3 g4 g5 g6 g7 g8 g9 f0 f1 f2 f3 f4 f5 f6 f7 f8 e0 e1 e2 e3 e4 e5 e6 e7 e8 e9 d0 d1 d2 d3 d4 d5 d6 d7 d8 d9 c0 c1 c2 c3 c4 c5 c6 c7 c8 c9 b0 b1 b2 b3 b4 b5 b6 b7 b8 b9 a0 a1 a2 a3 a4 a5 a6 a7 a8 a9:Value}{w6 w:World}{o m k tg wg ig ic pg:Nat}{im:List Nat}{t1:List Value}{done:List (List Nat)}{ws:List Value}{ps:List Bool}{i:Nat}(h:MonS w6 o m k tg wg ig ic pg im t1 done ws ps [] w)(hi:i<m)(hd:done.length=i)(hm:m<=400)(k9:∀(z104 z105 z106 z107 z108 z109:Value) (w':World) (cg:Nat),MonS w6 o m k tg wg ig ic pg im (t1.set i (.slice (some ⟨cg,0,none⟩) m m)) done ws ps (⟨w6.heap.size,3,.slice (some ⟨cg,0,none⟩) m m,m,nats (List.replicate m 0),1⟩::[]) w'->Q .normal ⟨(v0::v1::v2::v3::v4::v5::v6::(Value.int .i64 (m:Int))::(Value.pointer (some ⟨o,0,none⟩))::v9::(Value.int .i64 (i:Int))::t2::t3::t4::t5::t6::t7::t8::t9::s0::s1::s2::s3::s4::s5::s6::s7::s8::s9::r0::r1::r2::r3::r4::r5::r6::r7::r8::r9::q0::q1::q3::q4::q5::q6::q7::q8::p0::p1::p2::p3::p4::p5::p6::p7::p8::p9::o0::o1::o2::o3::o4::o5::o6::o7::o8::o9::n0::n1::n2::n3::n4::n5::n6::n7::n8::n9::m0::m1::m2::m3::m4::m5::m6::m7::m8::m9::l0::l1::l2::l3::l4::l5::l6::l7::l8::l9::k0::k1::k2::j0::j1::j2::j3::z104::z105::z106::z107::z108::z109::j4::j5::j6::j7::j8::j9::i0::i1::i2::i3::i4::i5::i6::i7::i8::i9::g0::g1::g2::g3::g4::g5::g6::g7::g8::g9::f0::f1::f2::f3::f4::f5::f6::f7::f8::e0::e1::e2::e3::e4::e5::e6::e7::e8::e9::d0::d1::d2::d3::d4::d5::d6::d7::d8::d9::c0::c1::c2::c3::c4::c5::c6::c7::c8::c9::b0::b1::b2::b3::b4::b5::b6::b7::b8::b9::a0::a1::a2::a3::a4::a5::a6::a7::a8::a9::[]).toArray,[]⟩ w'):Code.wp Tryz.prog (reg Tryz.f51 17) Q ⟨(v0::v1::v2::v3::v4::v5::v6::(Value.int .i64 (m:Int))::(Value.pointer (some ⟨o,0,none⟩))::v9::(Value.int .i64 (i:Int))::t2::t3::t4::t5::t6::t7::t8::t9::s0::s1::s2::s3::s4::s5::s6::s7::s8::s9::r0::r1::r2::r3::r4::r5::r6::r7::r8::r9::q0::q1::q3::q4::q5::q6::q7::q8::p0::p1::p2::p3::p4::p5::p6::p7::p8::p9::o0::o1::o2::o3::o4::o5::o6::o7::o8::o9::n0::n1::n2::n3::n4::n5::n6::n7::n8::n9::m0::m1::m2::m3::m4::m5::m6::m7::m8::m9::l0::l1::l2::l3::l4::l5::l6::l7::l8::l9::k0::k1::k2::j0::j1::j2::j3::k3::k4::k5::k6::k7::k8::j4::j5::j6::j7::j8::j9::i0::i1::i2::i3::i4::i5::i6::i7::i8::i9::g0::g1::g2::g3::g4::g5::g6::g7::g8::g9::f0::f1::f2::f3::f4::f5::f6::f7::f8::e0::e1::e2::e3::e4::e5::e6::e7::e8::e9::d0::d1::d2::d3::d4::d5::d6::d7::d8::d9::c0::c1::c2::c3::c4::c5::c6::c7::c8::c9::b0::b1::b2::b3::b4::b5::b6::b7::b8::b9::a0::a1::a2::a3::a4::a5::a6::a7::a8::a9::[]).toArray,[]⟩ w:=by
 obtain⟨H3,h6,H5,H6,x3,x2,x1⟩:=h.cells
 have h1:∀W:World,w.grownBy W none->W.cell? ⟨o,1,none⟩=some (.slice (some ⟨tg,0,none⟩) m m):=fun W hg=>by
  have q2:=zH (zB H3 hg) 1;simp only[List.getElem_toArray,List.getElem_cons_zero,List.getElem_cons_succ]at q2;exact q2
 have h2:∀W:World,w.grownBy W none->∃u,W.cell? ⟨tg,i,none⟩=some u:=fun W hg=>⟨_,(h6.kept hg (by simp)).cell i (by omega)⟩;have H2:∀W:World,w.grownBy W none->W.frozen? ⟨tg,i,none⟩=false:=fun W hg=>(h6.kept hg (by simp)).frozen i;obtain⟨H,t0,H9⟩:=K3 h h2 H2;have x4:(i:Int)<m:=by omega
 have x0:∀w:World,(Instr.makeSlice 22 (.int .i64 (m:Int)) (.int .i64 (m:Int))).run Tryz.prog w=.ok (.slice (some ⟨w.heap.size,0,none⟩) m m) (w.alloc (.cells (madeCells #[.int .i64 0] m) 3)) :=
  fun w=>qQF m (by omega) w
 clear h H3 h6 H5 H6 h2 H2;have H4:Hid (∀W:World,w.grownBy W none->W.cell? ⟨o,1,none⟩=some (.slice (some ⟨tg,0,none⟩) m m)):=Kh (fun W hg=>h1 W hg);clear h1
 conv=>arg 2;whnf
 obtain⟨w7,h5⟩:=Nm w.drew;have H1:w.grownBy w7 none:=by rw[h5];exact zS w none
 have H7:=Kh h5;have h9:=Kh H1;clear h5 H1;refine wp_region_noPanic ?_;refine yM (G:=wH 6 (fun _=>True) (fun W=>W.cell? ⟨o,1,none⟩=some (.slice (some ⟨tg,0,none⟩) m m))) (by kernel_rfl) ?_;rw[<-H7.out];have C:=Kh (H4.out w7 h9.out);refine zO 0 ⟨trivial,fun _=>C.out⟩ ?_;refine yY 1 ⟨trivial,fun _=>C.out⟩ ?_;refine zO 2 ⟨trivial,fun _=>C.out⟩ ?_;refine zO 3 ⟨trivial,fun _=>C.out⟩ ?_;have h0:=oM (w:=w7) (b:=w7.heap.size) (m:=m) (e:=3) (by rw[qAH,yN]) (Nat.le_refl _) (by unfold maxLen;omega);rw[<-yN]at h0;refine oneG (i:=4) (by kernel_rfl) rfl (fun K hK=>?_);go_simp;have h3:=Ga w7 (.cells (madeCells #[.int .i64 0] m) 3) none;obtain⟨cg,h4⟩:=Nm w7.heap.size;obtain⟨w9,H0⟩:=Nm (w7.alloc (.cells (madeCells #[.int .i64 0] m) 3));rw[<-H0]at h0 h3⊢;rw[<-h4]at h0⊢;rw[h4]at h0;have h7:Hid (w9.ownsRow w7.heap.size 3 1 (.slice (some ⟨cg,0,none⟩) m m) m (nats (List.replicate m 0))):=Kh (by rw[h4];exact h0);have H8:=Kh h3;have h8:=Kh (zC h9.out h3);have C9:=Kh (H4.out w9 h8.out);refine hK.out _ _ ⟨trivial,fun _=>C9.out⟩ ?_;clear hK K C h4 H0 h3 h0
 try simp only[Act.put,sPa,sPb,sPc]
 refine zO 5 ⟨trivial,fun _=>C9.out⟩ ?_;refine oneG (i:=6) (by kernel_rfl) rfl (fun K hK=>?_);obtain⟨u9,q9⟩:=t0.out w9 h8.out;have f9:=H9.out w9 h8.out;go_simp;refine hK.out _ _ ⟨trivial,fun h=>by simp at h⟩ ?_;clear hK K q9 f9
 try simp only[Act.put,sPa,sPb,sPc]
 refine tT (by kernel_rfl) ?_ _;refine NoPanic.normal ?_;exact k9 _ _ _ _ _ _  _ cg ((H.out.grow h9.out).begin hi hd H8.out h7.out)
theorem qFU (n:Nat)(h:n<=4096):∀w:World,(Instr.makeSlice 27 (.int .i64 (n:Int)) (.int .i64 (n:Int))).run Tryz.prog w=.ok (.slice (some ⟨w.heap.size,0,none⟩) n n) (w.alloc (.cells (madeCells #[.slice none 0 0] n) 22)) :=
 fun w=>run_make_row' 27 22 (.slice none 0 0) 24 Tryz.underlying27 (by kernel_rfl) rfl .i64 .i64 n (by omega) (by omega) w
theorem qNV (n:Nat)(h:n<=4096):∀w:World,(Instr.makeSlice 37 (.int .i64 (n:Int)) (.int .i64 (n:Int))).run Tryz.prog w=.ok (.slice (some ⟨w.heap.size,0,none⟩) n n) (w.alloc (.cells (madeCells #[.string ⟨#[]⟩] n) 9)) :=
 fun w=>run_make_row' 37 9 (.string ⟨#[]⟩) 16 Tryz.underlying37 (by kernel_rfl) rfl .i64 .i64 n (by omega) (by omega) w
theorem qFW {z:Value}(hz:z.cells=#[z])(n:Nat):(madeCells #[z] n).toList=List.replicate n z:=by
 have:=pE hz n
 rwa [Nat.mul_one,hz]at this
theorem qX {w:World}{b b' e e' n n':Nat}{v v':Value}{xs a9:List Value}(h:w.ownsRow b e 1 v n xs)(h':w.ownsRow b' e' 1 v' n' a9)(a8:e≠e'):∀k,v.ownBlock=some k->v'.ownBlock≠some k:=by
 intro k hk h0;obtain⟨c,e3,m,hp,h3⟩:=vV h' (Ne.symm a8) k h0;exact zV h hp (Ne.symm h3) hk
theorem qRG {Q:Exit->Act->World->Prop}{v1 v2 v3 v4 v6 v8 v9 s4 s5 s6 s7 s8 s9 r1 r2 r3 r4 r5 r6 r7 r8 r9 q0 q1 q2 q3 q4 q5 q6 q7 q8 q9 p0 x5 x6 x7 x9 t0 t1 t2 t3 t4 t5 t6 t7 t8 t9 s0 s1 s2 p1 p2 p3 p4 p5 p6 p7 p8 p9 o0 o1 o2 o3 o4 o6 o7 o8 o9 n0 n1 n2 n3 n4 n5 n6 n7 n8 n9 m0 m1 m2 m3 m4 m5 m6 m7 m8 m9 l0 l1 l2 l3 l4 l5 l6 l7 l8 k1 k2 k3 k4 k5 k6 k7 k8 k9 j0 j1 j2 j3 j4 j5 j6 j7 j8 j9 i0 i1 i2 i3 i4 i5 i6 i7 i8 i9 g0 g1 g2 g3 g4 g5 g7 g9 f0 f1 f2 f3 f4 f5 f6 f7 f8 f9 e0 e1 e2 e3 e4 e5 e6 e7 e8 e9 d0 d1 d2 d3 d4 d5 d6 d7 d8 d9 c0 c1 c2 c3 c4 c5 c6 c7 c8 c9 b0 b1 b2 b3 b4 b6 b7 b8 b9 a1 a2 a3 a4 a5 a6 a7 a8 a9:Value}{w:World}{o5 b5 gb rb rf cR r0 ro rc m k:Nat}{im:List Nat}(x4:1<=m)(x3:m<=400)(hC:w.cell? ⟨o5,0,none⟩=some (.slice (some ⟨gb,0,none⟩) k k)/\w.cell? ⟨b5,6,none⟩=some (.slice (some ⟨rb,rf,none⟩) m cR)/\w.cell? ⟨rb,rf,none⟩=some (.slice (some ⟨r0,ro,none⟩) k rc))(l9:m<=cR/\cR<=maxLen)(s3:∀W:World,w.grownBy W none->Calls Tryz.prog 79 #[.slice (some ⟨r0,ro,none⟩) k rc] W fun e w'=>∃g c,e=.returned (.slice (some ⟨g,0,none⟩) k c)/\k<=c/\c<=maxLen/\w'.ownsRow W.heap.size 3 1 (.slice (some ⟨g,0,none⟩) k c) k (nats im)/\W.grownBy w' none)(k0:∀(z36 z37 z38 z39 z40 z41 z42 z43 z44 z45 z46 z47 z48 z49 z50 z51 z52:Value) (w6 w':World) (o tg wg ig ic pg:Nat),w.grownBy w6 none->MonS w6 o m k tg wg ig ic pg im (List.replicate m (.slice none 0 0)) [] (List.replicate m (.string ⟨#[]⟩)) (List.replicate m false) [] w'->Q .normal ⟨((Value.pointer (some ⟨o5,0,none⟩))::v1::v2::v3::v4::(Value.pointer (some ⟨b5,0,none⟩))::v6::(Value.int .i64 (m:Int))::(Value.pointer (some ⟨o,0,none⟩))::v9::s4::s5::s6::s7::s8::s9::r1::r2::r3::r4::r5::r6::r7::r8::r9::q0::q1::q2::q3::q4::q5::q6::q7::q8::q9::p0::z36::z37::z38::z39::z40::z41::z42::z43::z44::z45::z46::z47::z48::z49::z50::z51::z52::p1::p2::p3::p4::p5::p6::p7::p8::p9::o0::o1::o2::o3::o4::o6::o7::o8::o9::n0::n1::n2::n3::n4::n5::n6::n7::n8::n9::m0::m1::m2::m3::m4::m5::m6::m7::m8::m9::l0::l1::l2::l3::l4::l5::l6::l7::l8::k1::k2::k3::k4::k5::k6::k7::k8::k9::j0::j1::j2::j3::j4::j5::j6::j7::j8::j9::i0::i1::i2::i3::i4::i5::i6::i7::i8::i9::g0::g1::g2::g3::g4::g5::g7::g9::f0::f1::f2::f3::f4::f5::f6::f7::f8::f9::e0::e1::e2::e3::e4::e5::e6::e7::e8::e9::d0::d1::d2::d3::d4::d5::d6::d7::d8::d9::c0::c1::c2::c3::c4::c5::c6::c7::c8::c9::b0::b1::b2::b3::b4::b6::b7::b8::b9::a1::a2::a3::a4::a5::a6::a7::a8::a9::[]).toArray,[]⟩ w'):Code.wp Tryz.prog (reg Tryz.f51 7) Q ⟨((Value.pointer (some ⟨o5,0,none⟩))::v1::v2::v3::v4::(Value.pointer (some ⟨b5,0,none⟩))::v6::(Value.int .i64 (m:Int))::v8::v9::s4::s5::s6::s7::s8::s9::r1::r2::r3::r4::r5::r6::r7::r8::r9::q0::q1::q2::q3::q4::q5::q6::q7::q8::q9::p0::x5::x6::x7::x9::t0::t1::t2::t3::t4::t5::t6::t7::t8::t9::s0::s1::s2::p1::p2::p3::p4::p5::p6::p7::p8::p9::o0::o1::o2::o3::o4::o6::o7::o8::o9::n0::n1::n2::n3::n4::n5::n6::n7::n8::n9::m0::m1::m2::m3::m4::m5::m6::m7::m8::m9::l0::l1::l2::l3::l4::l5::l6::l7::l8::k1::k2::k3::k4::k5::k6::k7::k8::k9::j0::j1::j2::j3::j4::j5::j6::j7::j8::j9::i0::i1::i2::i3::i4::i5::i6::i7::i8::i9::g0::g1::g2::g3::g4::g5::g7::g9::f0::f1::f2::f3::f4::f5::f6::f7::f8::f9::e0::e1::e2::e3::e4::e5::e6::e7::e8::e9::d0::d1::d2::d3::d4::d5::d6::d7::d8::d9::c0::c1::c2::c3::c4::c5::c6::c7::c8::c9::b0::b1::b2::b3::b4::b6::b7::b8::b9::a1::a2::a3::a4::a5::a6::a7::a8::a9::[]).toArray,[]⟩ w:=by
 obtain⟨H1,H0,h9⟩:=hC
 conv=>arg 2;whnf
 obtain⟨w5,h8⟩:=Nm w.drew;have h5:w.grownBy w5 none:=by rw[h8];exact zS w none
 have y0:=Kh h8;have y1:=Kh h5;have C:Hid (w5.cell? ⟨o5,0,none⟩=some (.slice (some ⟨gb,0,none⟩) k k)/\w5.cell? ⟨b5,6,none⟩=some (.slice (some ⟨rb,rf,none⟩) m cR)/\w5.cell? ⟨rb,rf,none⟩=some (.slice (some ⟨r0,ro,none⟩) k rc)):=Kh ⟨zK H1 h5,zK H0 h5,zK h9 h5⟩;have y2:Hid (∀W:World,w5.grownBy W none->Calls Tryz.prog 79 #[.slice (some ⟨r0,ro,none⟩) k rc] W fun e w'=>∃g c,e=.returned (.slice (some ⟨g,0,none⟩) k c)/\k<=c/\c<=maxLen/\w'.ownsRow w5.heap.size 3 1 (.slice (some ⟨g,0,none⟩) k c) k (nats im)/\W.grownBy w' none):=Kh (fun W hW=>(s3 W (zC h5 hW)).mono fun e w' ⟨g,c,he,h1,h2,ho,hg⟩=>⟨g,c,he,h1,h2,wV ho hW.size,hg⟩);have x1:=l9.1;have x0:cR<=9223372036854775807:=by have:=l9.2;unfold maxLen at this;omega
 have y4:0<m:=x4;have H9:m<=maxLen:=by unfold maxLen;omega
 clear h8 h5 H1 H0 h9 s3 l9;refine wp_region_noPanic ?_;refine yM (G:=wH 18 (fun W=>W.cell? ⟨o5,0,none⟩=some (.slice (some ⟨gb,0,none⟩) k k)/\W.cell? ⟨b5,6,none⟩=some (.slice (some ⟨rb,rf,none⟩) m cR)/\W.cell? ⟨rb,rf,none⟩=some (.slice (some ⟨r0,ro,none⟩) k rc)) (fun _=>True)) (by kernel_rfl) ?_;rw[<-y0.out];refine zO 0 ⟨C.out,fun _=>trivial⟩ ?_;refine zO 1 ⟨C.out,fun _=>trivial⟩ ?_;refine zO 2 ⟨C.out,fun _=>trivial⟩ ?_;refine zO 3 ⟨C.out,fun _=>trivial⟩ ?_;refine zO 4 ⟨C.out,fun _=>trivial⟩ ?_;refine zO 5 ⟨C.out,fun _=>trivial⟩ ?_;refine zO 7 ⟨C.out,fun _=>trivial⟩ ?_;refine zO 9 ⟨C.out,fun _=>trivial⟩ ?_;refine zO 10 ⟨C.out,fun _=>trivial⟩ ?_;refine zO 11 ⟨C.out,fun _=>trivial⟩ ?_;refine zO 12 ⟨C.out,fun _=>trivial⟩ ?_;refine zO 14 ⟨C.out,fun _=>trivial⟩ ?_;refine uR (fun Wp hWp a0 ha0=>?_);subst hWp
 try simp only[Act.put,sPd,sPe,sPf,sPa,sPb,sPc]at ha0
 have y3:=Kh ha0;refine uQ (I:=pm7I k m o5 b5 gb rb rf cR r0 ro rc im w5 a0) (fun l a w h=>qTZ C.out h) (qJU ha0 (qFU m (by omega)) (qNV m (by omega)) (qEE m (by omega)) (Kh (qFW rfl m)) (Kh (qFW rfl m)) (Kh (qFW rfl m)) H9 y2.out) (by kernel_rfl) ?hend (by decide +kernel) ?hinit
 case hinit =>
  clear ha0;refine⟨a0.tmps.getD 42 undef,a0.tmps.getD 44 undef,a0.tmps.getD 49 undef,a0.tmps.getD 51 undef,a0.tmps.getD 52 undef,a0.tmps.getD 8 undef,0,(vX (by simp)).symm,by decide +kernel,Kh (fun h=>absurd h (by decide +kernel)),Kh (fun h=>absurd h (by decide +kernel)),Kh (fun h=>absurd h (by decide +kernel)),Kh (fun h=>absurd h (by decide +kernel)),Kh (fun h=>absurd h (by decide +kernel)),Kh (fun h=>absurd h (by decide +kernel)),Kh (fun h=>absurd h (by decide +kernel)),Kh (fun h=>absurd h (by decide +kernel)),zU _ _⟩
 clear ha0;intro l a w6 h h0;obtain⟨x42,x44,x49,x51,x52,x8,o,ha,HR,H6,H8,H5,H4,H3,H2,B1,B2,HG⟩:=h;obtain⟨g6,rfl,h7⟩:=H6.out (h0 6 (by decide));obtain⟨g8,rfl,h6⟩:=H8.out (h0 8 (by decide));obtain⟨g13,c13,rfl,H7,x2,h4⟩:=H5.out (h0 13 (by decide));obtain⟨g15,rfl,h3⟩:=H4.out (h0 15 (by decide));obtain⟨_,_,_,_,rfl⟩:=H3.out (h0 16 (by decide));obtain⟨rfl,ho⟩:=H2.out (h0 17 (by decide));obtain⟨_,_,_,_,_,_,hb⟩:=B2.out (h0 18 (by decide));clear H6 H8 H5 H4 H3 H2 B1 B2 HR;subst ha;rw[y3.out];simp only[zP,List.foldl_cons,List.foldl_nil,Act.put,sPa,sPb,sPc];refine NoPanic.normal ?_;have e15:List.replicate m (.bool false)=bls (List.replicate m false):=by simp[bls]
 rw[e15]at h3;refine k0 _ _ _ _ _ _ _ _ _ _ _ _ _ _ _ _ _  w5 w6 o g6 g8 g13 c13 g15 y1.out ⟨fun _=>False,⟨⟨?_,?_,fun r hr k hk hx=>hx,fun k hk=>hk.elim⟩,?_,hb,fun h=>h,Nat.le_refl _,ho,HG.size,HG,xV.refl _ _,Nat.le_refl _⟩,xU.nil⟩
 ·intro r hr
  simp only[List.mem_cons,List.not_mem_nil,or_false]at hr;rcases hr with rfl|rfl|rfl|rfl
  ·exact h7
  ·exact h6
  ·exact h4
  exact h3
 ·refine List.pairwise_cons.2 ⟨fun s hs=>?_,List.pairwise_cons.2 ⟨fun s hs=>?_,List.pairwise_cons.2 ⟨fun s hs=>?_,List.pairwise_cons.2 ⟨fun s hs=>by simp at hs,List.Pairwise.nil⟩⟩⟩⟩
  ·simp only[List.mem_cons,List.not_mem_nil,or_false]at hs
   rcases hs with rfl|rfl|rfl
   ·exact qX h7 h6 (by decide)
   ·exact qX h7 h4 (by decide)
   exact qX h7 h3 (by decide)
  ·simp only[List.mem_cons,List.not_mem_nil,or_false]at hs
   rcases hs with rfl|rfl
   ·exact qX h6 h4 (by decide)
   exact qX h6 h3 (by decide)
  simp only[List.mem_cons,List.not_mem_nil,or_false]at hs;subst hs;exact qX h4 h3 (by decide)
 intro r hr;simp only[List.mem_cons,List.not_mem_nil,or_false]at hr;rcases hr with rfl|rfl|rfl|rfl<;>exact⟨rfl,by simp⟩
theorem qRQ (n:Nat)(h:n<=100000):∀w:World,(Instr.makeSlice 22 (.int .i64 (n:Int)) (.int .i64 (n:Int))).run Tryz.prog w=.ok (.slice (some ⟨w.heap.size,0,none⟩) n n) (w.alloc (.cells (madeCells #[.int .i64 0] n) 3)) :=
 fun w=>run_make_row' 22 3 (.int .i64 0) 8 Tryz.underlying22 (by kernel_rfl) rfl .i64 .i64 n (by omega) (by omega) w
def mtab (c:CntV)(n k a q:Nat):List Int:=(List.range (n*k)).map fun t=>if a<t % k\/(t % k=a/\t / k<q) then (qO c (t / k) (t % k):Int) else 0
theorem nS (c:CntV)(n k a q:Nat):(mtab c n k a q).length=n*k:=by simp[mtab]
theorem qHF (c:CntV)(n k:Nat)(hk:0<k):mtab c n k k 0=List.replicate (n*k) 0:=by
 refine List.ext_getElem (by simp[mtab]) fun t h1 h2=>?_;have:=Nat.mod_lt t hk;simp only[mtab,List.getElem_map,List.getElem_range,List.getElem_replicate];rw[if_neg (by omega)]
theorem qHH (c:CntV)(n k a:Nat):mtab c n k (a+1) n=mtab c n k a 0:=by
 refine List.ext_getElem (by simp[mtab]) fun t h1 h2=>?_;rw[nS]at h1;have h0:t / k<n:=Nat.div_lt_of_lt_mul (by rw[Nat.mul_comm];exact h1);simp only[mtab,List.getElem_map,List.getElem_range]
 generalize t / k=Q at h0⊢
 generalize t % k=m
 by_cases h:a<m
 ·rw[if_pos (by omega),if_pos (by omega)]
 rw[if_neg (by omega),if_neg (by omega)]
theorem qHG (c:CntV)(n k:Nat)(hk:0<k):mtab c n k k n=mtab c n k k 0:=by
 refine List.ext_getElem (by simp[mtab]) fun t h1 h2=>?_;have:=Nat.mod_lt t hk;simp only[mtab,List.getElem_map,List.getElem_range];rw[if_neg (by omega),if_neg (by omega)]
theorem qNR {c:CntV}{n k a q:Nat}(ha:a<k)(hq:q<n):(mtab c n k a q).set (q*k+a) (qO c q a:Int)=mtab c n k a (q+1):=by
 refine List.ext_getElem (by simp[mtab]) fun t h1 h2=>?_;rw[List.getElem_set];simp only[mtab,List.getElem_map,List.getElem_range];have hk:0<k:=by omega
 split
 ·rename_i e
  subst e;have e1:(q*k+a) % k=a:=by rw[Nat.mul_comm,Nat.mul_add_mod,Nat.mod_eq_of_lt ha]
  have e2:(q*k+a) / k=q:=by rw[Nat.mul_comm,Nat.mul_add_div hk,Nat.div_eq_of_lt ha,Nat.add_zero]
  rw[e1,e2,if_pos (by omega)]
 rename_i e
 by_cases h:t % k=a/\t / k=q
 ·have:=Nat.div_add_mod t k
  rw[h.1,h.2,Nat.mul_comm]at this;exact absurd this e
 generalize t / k=Q at h⊢
 generalize t % k=m at h⊢
 by_cases h2:a<m\/(m=a/\Q<q)
 ·rw[if_pos h2,if_pos (by omega)]
 rw[if_neg h2,if_neg (by omega)]
theorem qNS {c:CntV}{n k s b:Nat}(hs:s<n)(hb:b<k):(mtab c n k 0 n).getD (s*k+b) 0=(qO c s b:Int):=by
 have hk:0<k:=by omega
 have hl:s*k+b<n*k:=by
  have:(s+1)*k<=n*k:=Nat.mul_le_mul_right k hs;rw[Nat.add_mul,Nat.one_mul]at this;omega
 have e1:(s*k+b) % k=b:=by rw[Nat.mul_comm,Nat.mul_add_mod,Nat.mod_eq_of_lt hb]
 have e2:(s*k+b) / k=s:=by rw[Nat.mul_comm,Nat.mul_add_div hk,Nat.div_eq_of_lt hb,Nat.add_zero]
 rw[zN (by rw[nS];exact hl)];simp only[mtab,List.getElem_map,List.getElem_range];rw[e1,e2,if_pos (by omega)]
theorem qRW {Q:Exit->Act->World->Prop}{v0 v2 v3 v4 v6 v7 v8 v9 j0 j1 j2 j3 j4 j5 j6 j7 j8 j9 i0 i1 i2 i3 l9 k0 k1 k2 k3 k4 k5 k6 k7 k8 k9 i4 i5 i6 i7 i8 i9 g0 g1 g2 g3 g4 g5 g6 g7 f0 f1 f2 f3 f4 f5 f6 f7 f8 f9 e2 e3 e4 e5 e6 e7 e8 e9 d0 d1 d2 d3 d4 d5 d6 d7 d8 d9 c1 c2 c3 c4 c5 c6 c7 c8 c9 b0 b1 b2 b3 b4 b5 b6 b7 b8 a0 a1 a2 a3 a4 a5 a6 a7:Value}{dd:_}{w:World}{P k n aC:Nat}{aA:Option Addr}(c0:w.cell? ⟨P,2,none⟩=some (.slice aA n aC))(hn:n<=2000)(hk:k<=6)(a9:∀(z24 z25 z26 z27 z28 z29 z30 z31 z32 z33 z34:Value) (w':World) (M ng:Nat),w'.heap[M]?=some (.cells #[.int .i64 (k:Int),.slice (some ⟨ng,0,none⟩) (n*k) (n*k),.slice aA n aC] 123 (0,0))->Arr w' ng 3 (ints (List.replicate (n*k) 0))->M≠ng->w.heap.size<=M->w.heap.size<=ng->w.grownBy w' none->Q .normal ⟨(v0::(Value.pointer (some ⟨P,0,none⟩))::v2::v3::v4::(Value.int .i64 (k:Int))::(Value.pointer (some ⟨M,0,none⟩))::v7::v8::v9::j0::j1::j2::j3::j4::j5::j6::j7::j8::j9::i0::i1::i2::i3::z24::z25::z26::z27::z28::z29::z30::z31::z32::z33::z34::i4::i5::i6::i7::i8::i9::g0::g1::g2::g3::g4::g5::g6::g7::f0::f1::f2::f3::f4::f5::f6::f7::f8::f9::e2::e3::e4::e5::e6::e7::e8::e9::d0::d1::d2::d3::d4::d5::d6::d7::d8::d9::c1::c2::c3::c4::c5::c6::c7::c8::c9::b0::b1::b2::b3::b4::b5::b6::b7::b8::a0::a1::a2::a3::a4::a5::a6::a7::[]).toArray,dd⟩ w'):Code.wp Tryz.prog (reg Tryz.f43 5) Q ⟨(v0::(Value.pointer (some ⟨P,0,none⟩))::v2::v3::v4::(Value.int .i64 (k:Int))::v6::v7::v8::v9::j0::j1::j2::j3::j4::j5::j6::j7::j8::j9::i0::i1::i2::i3::l9::k0::k1::k2::k3::k4::k5::k6::k7::k8::k9::i4::i5::i6::i7::i8::i9::g0::g1::g2::g3::g4::g5::g6::g7::f0::f1::f2::f3::f4::f5::f6::f7::f8::f9::e2::e3::e4::e5::e6::e7::e8::e9::d0::d1::d2::d3::d4::d5::d6::d7::d8::d9::c1::c2::c3::c4::c5::c6::c7::c8::c9::b0::b1::b2::b3::b4::b5::b6::b7::b8::a0::a1::a2::a3::a4::a5::a6::a7::[]).toArray,dd⟩ w:=by
 have h8:n*k<=12000:=Nat.mul_le_mul hn hk;have e0:(n:Int)*(k:Int)=((n*k:Nat):Int):=by simp
 have e1:IntKind.i64.wrap ((n:Int)*(k:Int))=((n*k:Nat):Int):=by rw[e0];exact xJ (by omega)
 obtain⟨N,hN⟩:=Nm (n*k);rw[<-hN]at h8 e1 a9;have h9:=qRQ N (by omega);have HE:=Kh a9;have H7:=Kh hN;clear e0 hN a9
 conv=>arg 2;whnf
 obtain⟨w7,h2⟩:=Nm w.drew;have h4:w.grownBy w7 none:=by rw[h2];exact zS w none
 have H3:=Kh h2;have h7:=Kh h4;have C:Hid (w7.cell? ⟨P,2,none⟩=some (.slice aA n aC)):=Kh (zK c0 h4);clear h2 h4 c0;refine wp_region_noPanic ?_;refine yM (G:=wH 11 (fun W=>W.cell? ⟨P,2,none⟩=some (.slice aA n aC)) (fun _=>True)) (by kernel_rfl) ?_;rw[<-H3.out];refine zO 0 ⟨C.out,fun _=>trivial⟩ ?_;refine zO 1 ⟨C.out,fun _=>trivial⟩ ?_;refine zO 2 ⟨C.out,fun _=>trivial⟩ ?_;refine zO 3 ⟨C.out,fun _=>trivial⟩ ?_;refine zO 4 ⟨C.out,fun _=>trivial⟩ ?_;refine zO 5 ⟨C.out,fun _=>trivial⟩ ?_;refine zO 7 ⟨C.out,fun _=>trivial⟩ ?_;refine zO 8 ⟨C.out,fun _=>trivial⟩ ?_;obtain⟨ng,h3⟩:=Nm w7.heap.size;obtain⟨w8,h0⟩:=Nm (w7.alloc (.cells (madeCells #[.int .i64 0] N) 3));have g8:w7.grownBy w8 none:=by rw[h0];exact Ga w7 _ none
 have a8:Arr w8 ng 3 (ints (List.replicate N 0)):=by
  rw[h0,h3,show ints (List.replicate N 0)=nats (List.replicate N 0) by simp[ints,nats],<-qAH];exact Arr.new w7 3 _
 have z8:w8.heap.size=w7.heap.size+1:=by rw[h0,zW]
 obtain⟨H6,H4,H2,h5,H0⟩:=K5 a8 g8 h0 h3 z8;have C:=Kh (zK C.out g8);clear h3 h0 g8 a8 z8;refine oneG (i:=6) (by kernel_rfl) rfl (fun K hK=>?_);go_simp;rw[<-H2.out,<-h5.out];refine hK.out _ _ ⟨C.out,fun _=>trivial⟩ ?_;clear hK K h9 e1
 try simp only[Act.put,sPd,sPe,sPf,sPa,sPb,sPc]
 refine zO 9 ⟨C.out,fun _=>trivial⟩ ?_;obtain⟨M,hM⟩:=Nm w8.heap.size;obtain⟨w9,h1⟩:=Nm (w8.alloc (.cells #[.int .i64 (k:Int),.slice (some ⟨ng,0,none⟩) N N,.slice aA n aC] 123));have g9:w8.grownBy w9 none:=by rw[h1];exact Ga w8 _ none
 have b9:=heap_alloc_new w8 (.cells #[.int .i64 (k:Int),.slice (some ⟨ng,0,none⟩) N N,.slice aA n aC] 123);rw[<-h1,<-hM]at b9;obtain⟨H5,h6,H1,HM⟩:=K4 b9 g9 h1 hM;have C:=Kh (zK C.out g9);clear hM h1 g9 b9;refine oneG (i:=10) (by kernel_rfl) rfl (fun K hK=>?_);go_simp;rw[<-H1.out,<-HM.out];refine hK.out _ _ ⟨C.out,fun _=>trivial⟩ ?_;clear hK K
 try simp only[Act.put,sPd,sPe,sPf,sPa,sPb,sPc]
 refine oneG (i:=11) (by kernel_rfl) rfl (fun K hK=>?_);go_simp;refine hK.out _ _ ⟨C.out,fun _=>trivial⟩ ?_;clear hK K
 try simp only[Act.put,sPd,sPe,sPf,sPa,sPb,sPc]
 refine tT (by kernel_rfl) ?_ _;refine NoPanic.normal ?_;have z1:=h5.out;have z2:=HM.out;have z3:=H0.out;have z4:=h7.out.size;exact HE.out _ _ _ _ _ _ _ _ _ _ _  w9 M ng H5.out (H6.out.kept h6.out (by simp)) (by omega) (by omega) (by omega) (zC (zC h7.out H4.out) h6.out)
end Go.Proofs.YtobakifdllameaaGreat
namespace Go.Proofs.YtobakifdllameaaGreat
open Go.RowKit
def qPZ (c:CntV)(w:World)(e:Ending)(w':World):Prop :=
 ((∃z:Int,e=.returned (.tuple #[.agg #[.int .i64 0,.int .i64 0,.slice none 0 0,.slice none 0 0],.int .i64 z])/\((z=cntE c/\cntE c≠0)\/(z=3/\CntOk c/\512<minN (dfaC c) c.idx.length))) \/
 ∃f nx,e=.returned (.tuple #[.agg #[.int .i64 (c.idx.length:Int),.int .i64 0,f,nx],.int .i64 0])/\CntOk c/\minN (dfaC c) c.idx.length<=512/\DfaT w' f nx (minD (dfaC c) c.idx.length))/\w.grownBy w' none
def qIG (c:CntV)(z:Int)(m:DfaV):Prop:=(m=qIH/\((z=cntE c/\cntE c≠0)\/(z=3/\CntOk c/\512<minN (dfaC c) c.idx.length)))\/(z=0/\m=minD (dfaC c) c.idx.length/\CntOk c/\minN (dfaC c) c.idx.length<=512)
theorem qPZ.out {c:CntV}{w w':World}{e:Ending}(h:qPZ c w e w'):∃z m,qSG w z m e w'/\qIG c z m:=by
 obtain⟨⟨z,rfl,h1⟩|⟨f,nx,rfl,h1,h2,h3⟩,hg⟩:=h
 ·exact⟨z,qIH,⟨_,_,rfl,DfaT.zero _,hg⟩,.inl ⟨rfl,h1⟩⟩
 have hv:=gO (pW h1);have e1:(minD (dfaC c) c.idx.length).letters=(c.idx.length:Int):=hv.hk;have e2:(minD (dfaC c) c.idx.length).start=0:=rfl;exact⟨0,_,⟨f,nx,by rw[e1,e2],h3,hg⟩,.inr ⟨rfl,rfl,h1,h2⟩⟩
theorem qIG.same {c:CntV}{z z':Int}{m m':DfaV}(h:qIG c z m)(h':qIG c z' m'):z=z'/\m=m':=by
 rcases h with ⟨rfl,h⟩|⟨rfl,rfl,h1,h2⟩<;>rcases h' with ⟨rfl,h'⟩|⟨rfl,rfl,h1',h2'⟩
 ·refine⟨?_,rfl⟩
  rcases h with ⟨rfl,h⟩|⟨rfl,h,h3⟩<;>rcases h' with ⟨rfl,h'⟩|⟨rfl,h',h3'⟩
  ·rfl
  ·exact absurd (gU.2 h') h
  ·exact absurd (gU.2 h) h'
  rfl
 ·rcases h with ⟨rfl,h⟩|⟨rfl,h,h3⟩
  ·exact absurd (gU.2 h1') h
  omega
 ·rcases h' with ⟨rfl,h⟩|⟨rfl,h,h3⟩
  ·exact absurd (gU.2 h1) h
  omega
 exact⟨rfl,rfl⟩
end Go.Proofs.YtobakifdllameaaGreat
