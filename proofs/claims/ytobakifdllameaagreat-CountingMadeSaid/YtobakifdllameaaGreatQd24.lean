/- Part 24 of the proof. -/
import Derived.Test.YtobakifdllameaaGreatQd23
import Derived.Deep.Cut
import Derived.Deep.CutBlock
set_option linter.unusedVariables false
set_option linter.unusedSimpArgs false
set_option maxRecDepth 100000
set_option maxHeartbeats 16000000
namespace Go.Proofs.YtobakifdllameaaGreat
open Go.Maps Go.RowKit
theorem RowT.litQ {B:Nat}{e:TypeId}{w:World}{b:Nat}{cs:Array Value}{m:Nat×Nat}{n:Nat}(h:w.heap[b]?=some (.cells cs e m))(hb:b<B)(hn:cs.size=n)(hm:n<=maxLen):RowT B e w (.slice (some ⟨b,0,none⟩) n n) cs.toList :=
 .inr ⟨b,0,n,cs,m,by simp[hn],hb,by simp[hn],hm,h,fun i hi=>by
  rw[Nat.zero_add]
  have:i<cs.size:=by simpa using hi
  simp[this]⟩
theorem qSY (w:World):∃w',w'=(((((w.alloc (.cells #[.bool false,.bool false,.bool false,.bool true] 4)).alloc (.cells #[.int .i64 1] 3)).alloc (.cells #[.int .i64 2] 3)).alloc (.cells #[.int .i64 3] 3)).alloc (.cells #[.int .i64 3] 3)).alloc (.cells #[.slice (some ⟨w.heap.size+1,0,none⟩) 1 1,.slice (some ⟨w.heap.size+1+1,0,none⟩) 1 1,.slice (some ⟨w.heap.size+1+1+1,0,none⟩) 1 1,.slice (some ⟨w.heap.size+1+1+1+1,0,none⟩) 1 1] 22)/\w.grownBy w' none/\tR w'.heap.size w' (.agg #[.int .i64 1,.int .i64 0,.slice (some ⟨w.heap.size,0,none⟩) 4 4,.slice (some ⟨w.heap.size+1+1+1+1+1,0,none⟩) 4 4]) dQ:=by
 obtain⟨w1,h8⟩:=Nm (w.alloc (.cells #[.bool false,.bool false,.bool false,.bool true] 4));obtain⟨w2,h7⟩:=Nm (w1.alloc (.cells #[.int .i64 1] 3));obtain⟨w3,h6⟩:=Nm (w2.alloc (.cells #[.int .i64 2] 3));obtain⟨w4,h5⟩:=Nm (w3.alloc (.cells #[.int .i64 3] 3));obtain⟨w5,h4⟩:=Nm (w4.alloc (.cells #[.int .i64 3] 3));obtain⟨w6,h0⟩:=Nm (w5.alloc (.cells #[.slice (some ⟨w.heap.size+1,0,none⟩) 1 1,.slice (some ⟨w.heap.size+1+1,0,none⟩) 1 1,.slice (some ⟨w.heap.size+1+1+1,0,none⟩) 1 1,.slice (some ⟨w.heap.size+1+1+1+1,0,none⟩) 1 1] 22));have g1:w.grownBy w1 none:=by rw[h8];exact Ga _ _ _
 have g2:w1.grownBy w2 none:=by rw[h7];exact Ga _ _ _
 have g3:w2.grownBy w3 none:=by rw[h6];exact Ga _ _ _
 have g4:w3.grownBy w4 none:=by rw[h5];exact Ga _ _ _
 have g5:w4.grownBy w5 none:=by rw[h4];exact Ga _ _ _
 have g6:w5.grownBy w6 none:=by rw[h0];exact Ga _ _ _
 have z1:w1.heap.size=w.heap.size+1:=by rw[h8,zW]
 have z2:w2.heap.size=w.heap.size+2:=by rw[h7,zW,z1]
 have z3:w3.heap.size=w.heap.size+3:=by rw[h6,zW,z2]
 have z4:w4.heap.size=w.heap.size+4:=by rw[h5,zW,z3]
 have z5:w5.heap.size=w.heap.size+5:=by rw[h4,zW,z4]
 have z6:w6.heap.size=w.heap.size+6:=by rw[h0,zW,z5]
 have g36:=zC (zC g4 g5) g6;have g26:=zC g3 g36;have g16:=zC g2 g26;have b1:w6.heap[w.heap.size]?=some (.cells #[.bool false,.bool false,.bool false,.bool true] 4 (0,0)):=zB (by rw[h8];exact heap_alloc_new w _) g16;have b2:w6.heap[w.heap.size+1]?=some (.cells #[.int .i64 1] 3 (0,0)):=zB (by rw[h7,<-z1];exact heap_alloc_new w1 _) g26;have b3:w6.heap[w.heap.size+1+1]?=some (.cells #[.int .i64 2] 3 (0,0)):=zB (by rw[h6,<-z2];exact heap_alloc_new w2 _) g36;have b4:w6.heap[w.heap.size+1+1+1]?=some (.cells #[.int .i64 3] 3 (0,0)):=zB (zB (by rw[h5,<-z3];exact heap_alloc_new w3 _) g5) g6;have b5:w6.heap[w.heap.size+1+1+1+1]?=some (.cells #[.int .i64 3] 3 (0,0)):=zB (by rw[h4,<-z4];exact heap_alloc_new w4 _) g6;have b6:w6.heap[w.heap.size+1+1+1+1+1]?=some (.cells #[.slice (some ⟨w.heap.size+1,0,none⟩) 1 1,.slice (some ⟨w.heap.size+1+1,0,none⟩) 1 1,.slice (some ⟨w.heap.size+1+1+1,0,none⟩) 1 1,.slice (some ⟨w.heap.size+1+1+1+1,0,none⟩) 1 1] 22 (0,0)):=by rw[h0,<-z5];exact heap_alloc_new w5 _
 have m1:1<=maxLen:=by unfold maxLen;omega
 have m4:4<=maxLen:=by unfold maxLen;omega
 refine⟨w6,by rw[h0,h4,h5,h6,h7,h8],zC g1 g16,_,_,rfl,?_,?_⟩
 ·exact(RowT.litQ b1 (by omega) rfl m4).row
 refine Mat.of_rowT (RowT.litQ b6 (by omega) rfl m4) ⟨rfl,fun i h1 h2=>?_⟩ (Nat.le_refl _);have h3:i<4:=h2;rcases (by omega:i=0\/i=1\/i=2\/i=3) with rfl|rfl|rfl|rfl
 ·exact RowT.litQ b2 (by omega) rfl m1
 ·exact RowT.litQ b3 (by omega) rfl m1
 ·exact RowT.litQ b4 (by omega) rfl m1
 exact RowT.litQ b5 (by omega) rfl m1
theorem qTC (w:World):∃w',w'=((w.alloc (.cells #[.int .i64 3] 3)).alloc (.cells #[.int .i64 1] 3)).alloc (.cells #[.bool false,.bool false,.bool false,.bool true] 4)/\w.grownBy w' none/\rV w'.heap.size w' (.agg #[.slice (some ⟨w.heap.size,0,none⟩) 1 1,.slice (some ⟨w.heap.size+1,0,none⟩) 1 1,.slice (some ⟨w.heap.size+1+1,0,none⟩) 4 4]) cQ:=by
 obtain⟨w1,h2⟩:=Nm (w.alloc (.cells #[.int .i64 3] 3));obtain⟨w2,h1⟩:=Nm (w1.alloc (.cells #[.int .i64 1] 3));obtain⟨w3,h0⟩:=Nm (w2.alloc (.cells #[.bool false,.bool false,.bool false,.bool true] 4));have g1:w.grownBy w1 none:=by rw[h2];exact Ga _ _ _
 have g2:w1.grownBy w2 none:=by rw[h1];exact Ga _ _ _
 have g3:w2.grownBy w3 none:=by rw[h0];exact Ga _ _ _
 have z1:w1.heap.size=w.heap.size+1:=by rw[h2,zW]
 have z2:w2.heap.size=w.heap.size+2:=by rw[h1,zW,z1]
 have z3:w3.heap.size=w.heap.size+3:=by rw[h0,zW,z2]
 have g23:=zC g2 g3;have b1:w3.heap[w.heap.size]?=some (.cells #[.int .i64 3] 3 (0,0)):=zB (by rw[h2];exact heap_alloc_new w _) g23;have b2:w3.heap[w.heap.size+1]?=some (.cells #[.int .i64 1] 3 (0,0)):=zB (by rw[h1,<-z1];exact heap_alloc_new w1 _) g3;have b3:w3.heap[w.heap.size+1+1]?=some (.cells #[.bool false,.bool false,.bool false,.bool true] 4 (0,0)):=by rw[h0,<-z2];exact heap_alloc_new w2 _
 have m1:1<=maxLen:=by unfold maxLen;omega
 have m4:4<=maxLen:=by unfold maxLen;omega
 exact⟨w3,by rw[h0,h1,h2],zC g1 g23,_,_,_,rfl,(RowT.litQ b1 (by omega) rfl m1).row,(RowT.litQ b2 (by omega) rfl m1).row,(RowT.litQ b3 (by omega) rfl m4).row⟩
theorem qTW {w w':World}{e:Ending}(h:qMA dQ w e w'):∃v,e=.returned (.tuple #[v,.int .i64 0])/\gF w'.heap.size w' v sQ/\w.grownBy w' none:=by
 rcases h with ⟨c,h1,h2,h3,h4,h5⟩|⟨S,v,h1,h2,h3,h4⟩
 ·exact absurd qQW ((h4 qFZ).2 sQ)
 obtain rfl:=h2.eq qQW;exact⟨v,h1,h3,h4⟩
theorem qSZ {w w':World}{e:Ending}(h:qQP sQ.I w e w'):∃v,e=.returned (.tuple #[v,.int .i64 0])/\rV w'.heap.size w' v cQ/\w.grownBy w' none:=by
 rcases h with ⟨⟨z,h1,h2⟩|⟨c,v,h1,h2,h3,h4,h5⟩,h6⟩
 ·rcases h2 with ⟨_,h2⟩|⟨_,_,h2⟩|⟨_,_,_,h2⟩
  ·exact absurd qQT h2
  ·rw[qTA]at h2;cases h2
  exact absurd h2 qRV
 obtain rfl:=qUG h4;exact⟨v,h1,h5,h6⟩
theorem qEJ (w:World):Calls Tryz.prog 16 #[] w fun e w'=>e=.returned (.bool true)/\w.grownBy w' none:=by
 obtain⟨w6,H2,a4,h7⟩:=qSY w;obtain⟨fb,h6⟩:=Nm w.heap.size;obtain⟨nb,h5⟩:=Nm (w.heap.size+1+1+1+1+1);rw[<-h5,<-h6]at h7;obtain⟨b0,c4,b2,c3⟩:=K4 H2 h6 h5 a4;have b1:=Kh (qRL w6.heap.size w6 _ dQ (Nat.le_refl _) h7);clear H2 a4 h7 h6 h5;go_enter Tryz.func16,Tryz.ntmps16;go_wp2_with fail;rw[<-b0.out,<-b2.out,<-c4.out];refine b1.out.mono ?_;rintro e w7 h0;obtain⟨v,rfl,h1,a3⟩:=qTW h0.ret;have c2:=Kh (zC c3.out a3);have h4:=h1.toI;obtain⟨vT,vW,vI,vA,vP,rfl,hT,hW,hI,hA,hP⟩:=id h4;obtain⟨tA,tC,rfl⟩:=hT.shape;obtain⟨wA,wC,rfl⟩:=hW.shape;obtain⟨iA,iC,rfl⟩:=hI.shape;obtain⟨aA,aC,rfl⟩:=hA.shape;obtain⟨pA,pC,rfl⟩:=hP.shape;obtain⟨n1,H7⟩:=Nm sQ.I.tab.length;obtain⟨n2,H6⟩:=Nm ((rK sQ.I.words).length);obtain⟨n3,H5⟩:=Nm ((ints sQ.I.images).length);obtain⟨n4,H4⟩:=Nm ((bls sQ.I.accept).length);obtain⟨n5,H3⟩:=Nm ((bls sQ.I.plus).length);obtain⟨ik,a1⟩:=Nm sQ.I.k;rw[<-H7,<-H6,<-H5,<-H4,<-H3,<-a1]at h4⊢;have b3:=Kh h4;clear hT hW hI hA hP H7 H6 H5 H4 H3 a1 h0 h1 h4 a3;go_upto_region 2 with fail;obtain⟨P,hP⟩:=Nm w7.heap.size;obtain⟨w8,h3⟩:=Nm (w7.alloc (.cells #[.int .i64 ik,.slice tA n1 tC,.slice wA n2 wC,.slice iA n3 iC,.slice aA n4 aC,.slice pA n5 pC] 39));have g8:w7.grownBy w8 none:=by rw[h3];exact Ga w7 _ none
 have b8:=heap_alloc_new w7 (.cells #[.int .i64 ik,.slice tA n1 tC,.slice wA n2 wC,.slice iA n3 iC,.slice aA n4 aC,.slice pA n5 pC] 39);rw[<-h3,<-hP]at b8;rw[<-h3,<-hP];obtain⟨q0,q1,q2,q3,q4,q5⟩:=yD b8;have c1:=Kh (zC c2.out g8);have c5:=Kh (qLQ w7.heap.size w8 _ sQ.I g8.size (b3.out.kept g8));clear g8 b8 h3 hP;go_wp2_with fail;refine c5.out.mono ?_;rintro e w9 h0;obtain⟨v,rfl,hc,a2⟩:=qSZ h0;have c0:=Kh (zC c1.out a2);obtain⟨vI,vP,vA,rfl,hi,hp,ha⟩:=id hc;obtain⟨jA,jC,rfl⟩:=hi.shape;obtain⟨kA,kC,rfl⟩:=hp.shape;obtain⟨lA,lC,rfl⟩:=ha.shape;obtain⟨m1,a0⟩:=Nm ((ints cQ.idx).length);obtain⟨m2,H9⟩:=Nm ((ints cQ.per).length);obtain⟨m3,H8⟩:=Nm ((bls cQ.acc).length);rw[<-a0,<-H9,<-H8]at hc⊢;have HC:=Kh hc;clear hi hp ha a0 H9 H8 h0 hc a2 q0 q1 q2 q3 q4 q5;go_upto_region 3 with fail;obtain⟨R,hR⟩:=Nm w9.heap.size;obtain⟨wA',h2⟩:=Nm (w9.alloc (.cells #[.slice jA m1 jC,.slice kA m2 kC,.slice lA m3 lC] 35));have gA:w9.grownBy wA' none:=by rw[h2];exact Ga w9 _ none
 have bA:=heap_alloc_new w9 (.cells #[.slice jA m1 jC,.slice kA m2 kC,.slice lA m3 lC] 35);rw[<-h2,<-hR]at bA;rw[<-h2,<-hR];have d0:=Kh bA;have b9:=Kh (zC c0.out gA);have a8:=Kh (HC.out.kept gA);obtain⟨p0,p1,p2⟩:=xW bA;clear gA bA h2 hR;obtain⟨wB,H1,gB,hB⟩:=qTC wA';have a9:=Kh H1;have b7:=Kh (zC b9.out gB);have a6:=Kh (qLN w9.heap.size wB.heap.size wB _ _ cQ cQ (a8.out.kept gB) hB);rw[show (decide (cQ.idx=cQ.idx) && decide (cQ.per=cQ.per) && decide (cQ.acc=cQ.acc))=true by simp]at a6;have c9:=Kh (zB d0.out gB);have c7:=Kh (a8.out.kept gB);clear H1 gB hB;go_wp2_with fail;rw[<-a9.out];refine a6.out.mono ?_;rintro e wC' ⟨rfl,gC⟩;have b6:=Kh (zC b7.out gC);have h8:=zB c9.out gC;have c8:=Kh h8;have a7:=Kh (c7.out.kept gC);obtain⟨p0,p1,p2⟩:=xW h8;clear gC h8;go_wp2_with fail;have H0:=kF w9.heap.size wC' _ cQ ⟨#[97,97,97,97]⟩ a7.out (by unfold maxLen;decide);rw[qKS.1]at H0;refine H0.mono ?_;rintro e wD' ⟨rfl,gD⟩;have b5:=Kh (zC b6.out gD);have a5:=zB c8.out gD;have c6:=Kh (a7.out.kept gD);obtain⟨p0,p1,p2⟩:=xW a5;clear gD a5 H0;go_wp2_with fail;have h9:=kF w9.heap.size wD' _ cQ ⟨#[97,97]⟩ c6.out (by unfold maxLen;decide);rw[qKS.2]at h9;refine h9.mono ?_;rintro e wE' ⟨rfl,gE⟩;have b4:=Kh (zC b5.out gE);clear gE h9;go_wp2;go_ret;exact⟨rfl,b4.out⟩
end Go.Proofs.YtobakifdllameaaGreat
namespace Go.Proofs.YtobakifdllameaaGreat
open Go.RowKit
def emp (w:World):World:={ w with heap:=#[] }
theorem qCY {w w':World}{row:Option Nat}(h:w.grownBy w' row):(emp w).grownBy w' none :=
 ⟨h.os,h.tape,h.output,Nat.zero_le _,fun k hk=>absurd hk (by simp[emp])⟩
structure CdS (A B o tb ty:Nat)(wS:World)(rs:List RowS)(c:Array Value)(w:World):Prop where
 box:BoxS B (fun _=>False) o ty (emp wS) w rs c w
 tape:uY A w tb
 tlt:tb<wS.heap.size/\wS.heap.size<=B/\wS.heap.size<=o
 grown:wS.grownBy w (some tb)
section
variable {A B o tb ty:Nat} {wS w w':World} {rs:List RowS} {c:Array Value}
theorem CdS.grow (h:CdS A B o tb ty wS rs c w)(hg:w.grownBy w' none):CdS A B o tb ty wS rs c w' :=
 ⟨(h.box.grow hg).rebase,h.tape.kept hg (by simp),h.tlt,zG h.grown (xY hg)⟩
theorem CdS.next (h:CdS A B o tb ty wS rs c w)(hg:w.grownBy w' (some tb))(hT:uY A w' tb):CdS A B o tb ty wS rs c w':=by
 have ht:=h.tlt
 have h0:∀r∈rs,r.v.ownBlock≠some tb:=fun r hr e=>by
  have h1:=((h.box.own hr).lt tb e).1;rw[(h.box.typ r hr).1]at h1;omega
 refine⟨⟨h.box.mem.far hg h0,h.box.typ,zB h.box.box hg (fun e=>by have e:=Oj e;omega),fun h=>h,h.box.size,h.box.old,Nat.le_trans h.box.base hg.size,?_,xV.refl _ _,Nat.le_refl _⟩,hT,ht,zG h.grown hg⟩;exact qCY (zG h.grown hg)
theorem CdS.app (h:CdS A B o tb ty wS rs c w){j:Nat}{r:RowS}(hr:rs[j]?=some r){v':Value}{n':Nat}{us:List Value}(ho:w'.ownsRow r.base r.e r.sz v' n' (r.xs++us))(hg:w.grownBy w' r.v.ownBlock)(hm:jJ w w' r.v v'):CdS A B o tb ty wS (rs.set j ⟨r.base,r.e,v',n',r.xs++us,r.sz⟩) c w':=by
 have ht:=h.tlt;have hB:=h.box.appAt hr ho hg hm
 have h0:∀k,r.v.ownBlock=some k->B<=k:=fun k hk=>by
  have h1:=((h.box.own (List.mem_of_getElem? hr)).lt k hk).1;rw[(h.box.typ r (List.mem_of_getElem? hr)).1]at h1;exact h1
 refine⟨hB.rebase,h.tape.kept hg (fun k e=>?_),ht,zC h.grown hg (fun k e=>Nat.le_trans ht.2.1 (h0 k e))⟩;have h1:=h0 k e;have h2:=h.tape.ge;omega
theorem CdS.set (h:CdS A B o tb ty wS rs c w)(f:Nat)(u:Value):CdS A B o tb ty wS rs (c.setIfInBounds f u) (w.setCell ⟨o,f,none⟩ u):=by
 have ht:=h.tlt;have hg:=zF w ⟨o,f,none⟩ u;refine⟨(h.box.set f u).rebase,h.tape.kept hg (fun k e=>?_),ht,yG h.grown hg (by show _<=o;omega)⟩;have e:o=k:=Oj e;have h2:=h.tape.ge;omega
end
open Go.Maps
theorem qRR {Q:Exit->Act->World->Prop}{v1 v2 v3 v4 v6 v7 v8 v9 d7 d8 d9 c0 e1 e2 e3 e4 e5 e6 e7 e9 d0 d1 d2 d3 d4 d5 d6 c2 c3 c4 c5 c6 c7 c8 c9 b0 b1 b2 b3 b4 b5 b6 b7 b8 b9 a0 a1 a2 a3 a4 a5 a6 a7 a8:Value}{A B o tb m q cI cP cA:Nat}{sI sP sA:Option Addr}{is ps:List Int}{bs:List Bool}{wS w:World}(h:CdS A B o tb 35 wS [⟨B,3,.slice sI m cI,m,ints is,1⟩,⟨B,3,.slice sP m cP,m,ints ps,1⟩,⟨B,4,.slice sA q cA,q,bls bs,1⟩] #[.slice sI m cI,.slice sP m cP,.slice sA q cA] w)(hm:m<=100)(a9:∀(z14 z15 z16 z17 z18 z19 z20 z21 z22 z23 z24 z25 z26 z27 z28:Value) (sI2 sP2:Option Addr) (cI2 cP2:Nat) (y z:Int) (w':World),0<=y->y<3->0<=z->z<3->CdS A B o tb 35 wS [⟨B,3,.slice sI2 (m+1) cI2,(m+1),ints (is++[y]),1⟩,⟨B,3,.slice sP2 (m+1) cP2,(m+1),ints (ps++[1+z]),1⟩,⟨B,4,.slice sA q cA,q,bls bs,1⟩] #[.slice sI2 (m+1) cI2,.slice sP2 (m+1) cP2,.slice sA q cA] w'->Q .normal ⟨((Value.pointer (some ⟨tb,0,none⟩))::v1::v2::v3::v4::(Value.pointer (some ⟨o,0,none⟩))::v6::v7::v8::v9::d7::d8::d9::c0::z14::z15::z16::z17::z18::z19::z20::z21::z22::z23::z24::z25::z26::z27::z28::c2::c3::c4::c5::c6::c7::c8::c9::b0::b1::b2::b3::b4::b5::b6::b7::b8::b9::a0::a1::a2::a3::a4::a5::a6::a7::a8::[]).toArray,[]⟩ w'):Code.wp Tryz.prog (reg Tryz.f10 6) Q ⟨((Value.pointer (some ⟨tb,0,none⟩))::v1::v2::v3::v4::(Value.pointer (some ⟨o,0,none⟩))::v6::v7::v8::v9::d7::d8::d9::c0::e1::e2::e3::e4::e5::e6::e7::e9::d0::d1::d2::d3::d4::d5::d6::c2::c3::c4::c5::c6::c7::c8::c9::b0::b1::b2::b3::b4::b5::b6::b7::b8::b9::a0::a1::a2::a3::a4::a5::a6::a7::a8::[]).toArray,[]⟩ w:=by
 conv=>arg 2;whnf
 obtain⟨w7,H1⟩:=Nm w.drew;have H5:w.grownBy w7 none:=by rw[H1];exact zS w none
 have H8:=Kh H1;have H:=Kh (h.grow H5);have HE:=Kh a9
 have C:Hid (w7.cell? ⟨o,0,none⟩=some (.slice sI m cI)/\w7.cell? ⟨o,1,none⟩=some (.slice sP m cP)):=Kh (by
  have q:=xW H.out.box.box
  exact⟨q.1,q.2.1⟩)
 clear H1 H5 h a9;refine wp_region_noPanic ?_;refine yM (G:=wH 14 (fun _=>True) (fun W=>W.cell? ⟨o,0,none⟩=some (.slice sI m cI)/\W.cell? ⟨o,1,none⟩=some (.slice sP m cP))) (by kernel_rfl) ?_;rw[<-H8.out];refine yY 0 ⟨trivial,fun _=>C.out⟩ ?_;refine yY 1 ⟨trivial,fun _=>C.out⟩ ?_;refine yY 2 ⟨trivial,fun _=>C.out⟩ ?_;refine yY 6 ⟨trivial,fun _=>C.out⟩ ?_;refine yY 7 ⟨trivial,fun _=>C.out⟩ ?_;refine zO 8 ⟨trivial,fun _=>C.out⟩ ?_;refine oneG (i:=3) (by kernel_rfl) rfl (fun K hK=>?_);go_simp
 go_at_call 7
 refine(lW A tb w7 3 (by omega) H.out.tape).mono ?_;rintro e w8 ⟨y,rfl,H7,H0,h8,h7⟩;replace H0:=H0 (by omega);have H:=Kh (H.out.next h7 h8);clear h8 h7
 have C:Hid (w8.cell? ⟨o,0,none⟩=some (.slice sI m cI)/\w8.cell? ⟨o,1,none⟩=some (.slice sP m cP)):=Kh (by
  have q:=xW H.out.box.box
  exact⟨q.1,q.2.1⟩)
 refine hK.out _ _ ⟨trivial,fun _=>C.out⟩ ?_;clear hK K
 try simp only[Act.put,sPd,sPe,sPf,sPa,sPb,sPc]
 have h4:=Ga w8 (.cells #[.int .i64 y] 3) none;have h2:=heap_alloc_new w8 (.cells #[.int .i64 y] 3);obtain⟨X1,hX⟩:=Nm w8.heap.size;obtain⟨w9,h3⟩:=Nm (w8.alloc (.cells #[.int .i64 y] 3));rw[<-h3]at h4 h2;rw[<-hX]at h2;have H3:=Kh h3;have H2:=Kh hX;have H:=Kh (H.out.grow h4);have H4:=Kh h2
 have C:Hid (w9.cell? ⟨o,0,none⟩=some (.slice sI m cI)/\w9.cell? ⟨o,1,none⟩=some (.slice sP m cP)):=Kh (by
  have q:=xW H.out.box.box
  exact⟨q.1,q.2.1⟩)
 clear h4 h2 hX h3;refine oneG (i:=4) (by kernel_rfl) rfl (fun K hK=>?_);go_simp;rw[<-H3.out,<-H2.out];refine hK.out _ _ ⟨trivial,fun _=>C.out⟩ ?_;clear hK K
 try simp only[Act.put,sPd,sPe,sPf,sPa,sPb,sPc]
 have h1:=H.out.box.own (r:=⟨B,3,.slice sI m cI,m,ints is,1⟩) (by simp);simp only at h1;have hz:=H.out.box.base;refine oneG (i:=5) (by kernel_rfl) rfl (fun K hK=>?_);refine qC rfl (.tmp 15) (.tmp 18) 22 rfl yH.toN B (.slice sI m cI) m _ rfl h1 [.int .i64 y] X1 rfl (0,0) rfl H4.out ?z1 ?z2 ?z3 hz ?_
 case z1=>intro v hv;simp only[List.mem_cons,List.not_mem_nil,or_false]at hv;subst hv;rfl
 case z2=>unfold maxLen;omega
 case z3=>omega
 intro sI2 cI2 w10 h0 h6 h5;have H:=Kh (H.out.app (j:=0) rfl h0 h6 h5);clear h1 h0 h6 h5 hz
 have C:Hid (w10.cell? ⟨o,0,none⟩=some (.slice sI m cI)/\w10.cell? ⟨o,1,none⟩=some (.slice sP m cP)):=Kh (by
  have q:=xW H.out.box.box
  exact⟨q.1,q.2.1⟩)
 refine hK.out _ _ ⟨trivial,fun _=>C.out⟩ ?_;clear hK K
 try simp only[Act.put,sPd,sPe,sPf,sPa,sPb,sPc]
 refine yY 13 ⟨trivial,fun _=>C.out⟩ ?_;refine oneG (i:=9) (by kernel_rfl) rfl (fun K hK=>?_);go_simp
 go_at_call 7
 refine(lW A tb w10 3 (by omega) H.out.tape).mono ?_;rintro e w11 ⟨z,rfl,H6,h9,h8,h7⟩;replace h9:=h9 (by omega);have H:=Kh (H.out.next h7 h8);clear h8 h7
 have C:Hid (w11.cell? ⟨o,0,none⟩=some (.slice sI m cI)/\w11.cell? ⟨o,1,none⟩=some (.slice sP m cP)):=Kh (by
  have q:=xW H.out.box.box
  exact⟨q.1,q.2.1⟩)
 refine hK.out _ _ ⟨trivial,fun _=>C.out⟩ ?_;clear hK K
 try simp only[Act.put,sPd,sPe,sPf,sPa,sPb,sPc]
 have e8:IntKind.i64.wrap (1+z)=1+z:=xJ (by omega);refine zO 10 ⟨trivial,fun _=>C.out⟩ ?_;have h4:=Ga w11 (.cells #[.int .i64 (1+z)] 3) none;have h2:=heap_alloc_new w11 (.cells #[.int .i64 (1+z)] 3);obtain⟨X2,hX⟩:=Nm w11.heap.size;obtain⟨w12,h3⟩:=Nm (w11.alloc (.cells #[.int .i64 (1+z)] 3));rw[<-h3]at h4 h2;rw[<-hX]at h2;have H3:=Kh h3;have H2:=Kh hX;have H:=Kh (H.out.grow h4);have H4:=Kh h2
 have C:Hid (w12.cell? ⟨o,0,none⟩=some (.slice sI m cI)/\w12.cell? ⟨o,1,none⟩=some (.slice sP m cP)):=Kh (by
  have q:=xW H.out.box.box
  exact⟨q.1,q.2.1⟩)
 clear h4 h2 hX h3;refine oneG (i:=11) (by kernel_rfl) rfl (fun K hK=>?_);go_simp;rw[<-H3.out,<-H2.out];refine hK.out _ _ ⟨trivial,fun _=>C.out⟩ ?_;clear hK K
 try simp only[Act.put,sPd,sPe,sPf,sPa,sPb,sPc]
 have h1:=H.out.box.own (r:=⟨B,3,.slice sP m cP,m,ints ps,1⟩) (by simp);simp only at h1;have hz:=H.out.box.base;refine oneG (i:=12) (by kernel_rfl) rfl (fun K hK=>?_);refine qC rfl (.tmp 21) (.tmp 25) 22 rfl yH.toN B (.slice sP m cP) m _ rfl h1 [.int .i64 (1+z)] X2 rfl (0,0) rfl H4.out ?z1 ?z2 ?z3 hz ?_
 case z1=>intro v hv;simp only[List.mem_cons,List.not_mem_nil,or_false]at hv;subst hv;rfl
 case z2=>unfold maxLen;omega
 case z3=>omega
 intro sP2 cP2 w13 h0 h6 h5;have H:=Kh (H.out.app (j:=1) rfl h0 h6 h5);clear h1 h0 h6 h5 hz
 have C:Hid (w13.cell? ⟨o,0,none⟩=some (.slice sI m cI)/\w13.cell? ⟨o,1,none⟩=some (.slice sP m cP)):=Kh (by
  have q:=xW H.out.box.box
  exact⟨q.1,q.2.1⟩)
 refine hK.out _ _ ⟨trivial,fun _=>C.out⟩ ?_;clear hK K
 try simp only[Act.put,sPd,sPe,sPf,sPa,sPb,sPc]
 have c1:=C.out;have f1:=zA H.out.box.box 0;have cc:=(xW H.out.box.box).1;have H:=Kh (H.out.set 0 (.slice sI2 (m+1) cI2));refine oneG (i:=14) (by kernel_rfl) rfl (fun K hK=>?_);go_simp;refine hK.out _ _ ⟨trivial,fun h=>by simp at h⟩ ?_;clear hK K
 try simp only[Act.put,sPd,sPe,sPf,sPa,sPb,sPc]
 clear c1 f1 cc;refine oneG (i:=15) (by kernel_rfl) rfl (fun K hK=>?_);go_simp;refine hK.out _ _ ⟨trivial,fun h=>by simp at h⟩ ?_;clear hK K
 try simp only[Act.put,sPd,sPe,sPf,sPa,sPb,sPc]
 have c1:=(xW H.out.box.box);have f1:=zA H.out.box.box 1;have cc:=(xW H.out.box.box).2.1;have H:=Kh (H.out.set 1 (.slice sP2 (m+1) cP2));refine oneG (i:=16) (by kernel_rfl) rfl (fun K hK=>?_);go_simp;refine hK.out _ _ ⟨trivial,fun h=>by simp at h⟩ ?_;clear hK K
 try simp only[Act.put,sPd,sPe,sPf,sPa,sPb,sPc]
 clear c1 f1 cc;have H:=H.out;simp only[List.set_cons_zero,List.set_cons_succ,List.setIfInBounds_toArray]at H;rw[show ints is++[Value.int .i64 y]=ints (is++[y]) by simp[ints],show ints ps++[Value.int .i64 (1+z)]=ints (ps++[1+z]) by simp[ints]]at H;refine tT (by kernel_rfl) ?_ _;refine NoPanic.normal ?_;exact HE.out _ _ _ _ _ _ _ _ _ _ _ _ _ _ _  sI2 sP2 cI2 cP2 y z _ H7 H0 H6 h9 H
theorem qOH {Q:Exit->Act->World->Prop}{v1 v2 v3 v4 v6 v7 v8 v9 d0 d1 d2 d3 d4 d5 d6 d7 d8 d9 c0 c2 c3 c4 c5 c6 c7 c8 c9 b0 b1 b2 b3 b4 b5 b6 b7 b8 b9 a0 a1 a2 a3 a4 a5 a6 a7 e2 e3 e4 e5 e6 e7 e8 e9 a8:Value}{A B o tb m q cI cP cA:Nat}{sI sP sA:Option Addr}{is ps:List Int}{bs:List Bool}{wS w:World}(h:CdS A B o tb 35 wS [⟨B,3,.slice sI m cI,m,ints is,1⟩,⟨B,3,.slice sP m cP,m,ints ps,1⟩,⟨B,4,.slice sA q cA,q,bls bs,1⟩] #[.slice sI m cI,.slice sP m cP,.slice sA q cA] w)(hq:q<=4000)(a9:∀(z47 z48 z49 z50 z51 z52 z53 z54:Value) (sA2:Option Addr) (cA2:Nat) (b:Bool) (w':World),CdS A B o tb 35 wS [⟨B,3,.slice sI m cI,m,ints is,1⟩,⟨B,3,.slice sP m cP,m,ints ps,1⟩,⟨B,4,.slice sA2 (q+1) cA2,(q+1),bls (bs++[b]),1⟩] #[.slice sI m cI,.slice sP m cP,.slice sA2 (q+1) cA2] w'->Q .normal ⟨((Value.pointer (some ⟨tb,0,none⟩))::v1::v2::v3::v4::(Value.pointer (some ⟨o,0,none⟩))::v6::v7::v8::v9::d0::d1::d2::d3::d4::d5::d6::d7::d8::d9::c0::c2::c3::c4::c5::c6::c7::c8::c9::b0::b1::b2::b3::b4::b5::b6::b7::b8::b9::a0::a1::a2::a3::a4::a5::a6::a7::z47::z48::z49::z50::z51::z52::z53::z54::a8::[]).toArray,[]⟩ w'):Code.wp Tryz.prog (reg Tryz.f10 11) Q ⟨((Value.pointer (some ⟨tb,0,none⟩))::v1::v2::v3::v4::(Value.pointer (some ⟨o,0,none⟩))::v6::v7::v8::v9::d0::d1::d2::d3::d4::d5::d6::d7::d8::d9::c0::c2::c3::c4::c5::c6::c7::c8::c9::b0::b1::b2::b3::b4::b5::b6::b7::b8::b9::a0::a1::a2::a3::a4::a5::a6::a7::e2::e3::e4::e5::e6::e7::e8::e9::a8::[]).toArray,[]⟩ w:=by
 conv=>arg 2;whnf
 obtain⟨w7,h4⟩:=Nm w.drew;have H0:w.grownBy w7 none:=by rw[h4];exact zS w none
 have H4:=Kh h4;have H:=Kh (h.grow H0);have HE:=Kh a9
 have C:Hid (w7.cell? ⟨o,2,none⟩=some (.slice sA q cA)):=Kh (by
  have q:=xW H.out.box.box
  exact q.2.2)
 clear h4 H0 h a9;refine wp_region_noPanic ?_;refine yM (G:=wH 8 (fun _=>True) (fun W=>W.cell? ⟨o,2,none⟩=some (.slice sA q cA))) (by kernel_rfl) ?_;rw[<-H4.out];refine yY 0 ⟨trivial,fun _=>C.out⟩ ?_;refine yY 1 ⟨trivial,fun _=>C.out⟩ ?_;refine yY 2 ⟨trivial,fun _=>C.out⟩ ?_;refine oneG (i:=3) (by kernel_rfl) rfl (fun K hK=>?_);go_simp
 go_at_call 7
 refine(lW A tb w7 2 (by omega) H.out.tape).mono ?_;rintro e w8 ⟨y,rfl,H6,h6,H1,h9⟩;replace h6:=h6 (by omega);have H:=Kh (H.out.next h9 H1);clear H1 h9
 have C:Hid (w8.cell? ⟨o,2,none⟩=some (.slice sA q cA)):=Kh (by
  have q:=xW H.out.box.box
  exact q.2.2)
 refine hK.out _ _ ⟨trivial,fun _=>C.out⟩ ?_;clear hK K
 try simp only[Act.put,sPd,sPe,sPf,sPa,sPb,sPc]
 obtain⟨b,hb⟩:=Nm ((y == 1));have H8:(y == 1)=b:=hb.symm;have H7:decide (y=1)=b:=by rw[hb];rfl
 clear hb;refine yY 4 ⟨trivial,fun _=>C.out⟩ ?_;have h5:=Ga w8 (.cells #[.bool b] 4) none;have h2:=heap_alloc_new w8 (.cells #[.bool b] 4);obtain⟨X1,hX⟩:=Nm w8.heap.size;obtain⟨w9,h3⟩:=Nm (w8.alloc (.cells #[.bool b] 4));rw[<-h3]at h5 h2;rw[<-hX]at h2;have H3:=Kh h3;have H2:=Kh hX;have H:=Kh (H.out.grow h5);have H5:=Kh h2
 have C:Hid (w9.cell? ⟨o,2,none⟩=some (.slice sA q cA)):=Kh (by
  have q:=xW H.out.box.box
  exact q.2.2)
 clear h5 h2 hX h3;refine oneG (i:=5) (by kernel_rfl) rfl (fun K hK=>?_);go_simp;rw[<-H3.out,<-H2.out];refine hK.out _ _ ⟨trivial,fun _=>C.out⟩ ?_;clear hK K
 try simp only[Act.put,sPd,sPe,sPf,sPa,sPb,sPc]
 have h1:=H.out.box.own (r:=⟨B,4,.slice sA q cA,q,bls bs,1⟩) (by simp);simp only at h1;have hz:=H.out.box.base;refine oneG (i:=6) (by kernel_rfl) rfl (fun K hK=>?_);refine qC rfl (.tmp 48) (.tmp 52) 26 rfl wF.toN B (.slice sA q cA) q _ rfl h1 [.bool b] X1 rfl (0,0) rfl H5.out ?z1 ?z2 ?z3 hz ?_
 case z1=>intro v hv;simp only[List.mem_cons,List.not_mem_nil,or_false]at hv;subst hv;rfl
 case z2=>unfold maxLen;omega
 case z3=>omega
 intro sA2 cA2 w10 h0 h8 h7;have H:=Kh (H.out.app (j:=2) rfl h0 h8 h7);clear h1 h0 h8 h7 hz
 have C:Hid (w10.cell? ⟨o,2,none⟩=some (.slice sA q cA)):=Kh (by
  have q:=xW H.out.box.box
  exact q.2.2)
 refine hK.out _ _ ⟨trivial,fun _=>C.out⟩ ?_;clear hK K
 try simp only[Act.put,sPd,sPe,sPf,sPa,sPb,sPc]
 refine yY 7 ⟨trivial,fun _=>C.out⟩ ?_;have c1:=C.out;have f1:=zA H.out.box.box 2;have cc:=(xW H.out.box.box).2.2;have H:=Kh (H.out.set 2 (.slice sA2 (q+1) cA2));refine oneG (i:=8) (by kernel_rfl) rfl (fun K hK=>?_);go_simp;refine hK.out _ _ ⟨trivial,fun h=>by simp at h⟩ ?_;clear hK K
 try simp only[Act.put,sPd,sPe,sPf,sPa,sPb,sPc]
 clear c1 f1 cc;have H:=H.out;simp only[List.set_cons_zero,List.set_cons_succ,List.setIfInBounds_toArray]at H;rw[show bls bs++[Value.bool b]=bls (bs++[b]) by simp[bls]]at H;refine tT (by kernel_rfl) ?_ _;refine NoPanic.normal ?_;exact HE.out _ _ _ _ _ _ _ _  sA2 cA2 b _ H
theorem bQ {is ps is' ps':List Int}:∀ {a:Nat},(∀b,b<a->is.getD b 0=is'.getD b 0/\ps.getD b 0=ps'.getD b 0)->vN is ps a=vN is' ps' a
 | 0,_=>rfl
 | a+1,h=>by
  rw[vN,vN,bQ (fun b hb=>h b (by omega)),(h a (by omega)).1,(h a (by omega)).2]
theorem kD {l:List Int}{x:Int}{b:Nat}(hb:b<l.length):(l++[x]).getD b 0=l.getD b 0:=by
 rw[List.getD_eq_getElem?_getD,List.getElem?_append_left hb,<-List.getD_eq_getElem?_getD]
theorem qW {l:List Int}{x:Int}{b:Nat}(hb:b=l.length):(l++[x]).getD b 0=x:=by
 subst hb;simp[List.getD_eq_getElem?_getD]
structure DealC (is ps:List Int)(a c:Nat):Prop where
 l1:is.length=a
 l2:ps.length=a
 comb:vN is ps a=some c
 le:c<=5 ^ a
 bd:∀b,b<a->(0<=is.getD b 0/\is.getD b 0<3)/\1<=ps.getD b 0/\ps.getD b 0<=3
theorem DealC.add {is ps:List Int}{a c y z:Nat}(h:DealC is ps a c)(ha:a<3)(hy:y<3)(hz:1<=z/\z<=3):DealC (is++[(y:Int)]) (ps++[(z:Int)]) (a+1) (c*(y+z)) where
 l1:=by simp[h.l1]
 l2:=by simp[h.l2]
 le:=by rw[Nat.pow_succ];exact Nat.mul_le_mul h.le (by omega)
 comb:=by
  have h0:c*(y+z)<=5 ^ a*5:=Nat.mul_le_mul h.le (by omega);rw[<-Nat.pow_succ]at h0;have hp:5 ^ (a+1)<=5 ^ 3:=Nat.pow_le_pow_right (by omega) (by omega)
  have hc:vN (is++[(y:Int)]) (ps++[(z:Int)]) a=some c:=by
   rw[bQ (is':=is) (ps':=ps) (fun b hb=>⟨kD (by rw[h.l1];exact hb),kD (by rw[h.l2];exact hb)⟩)];exact h.comb
  rw[iX hc (qW h.l1.symm) (qW h.l2.symm),if_neg (by omega)]
 bd:=fun b hb=>by
  rcases Nat.lt_or_ge b a with h1|h1
  ·rw[kD (by rw[h.l1];exact h1),kD (by rw[h.l2];exact h1)];exact h.bd b h1
  ·have e:b=a:=by omega
   rw[qW (by rw[h.l1];exact e),qW (by rw[h.l2];exact e)];omega
theorem DealC.ok {is ps:List Int}{k c:Nat}{bs:List Bool}(h:DealC is ps k c)(h1:1<=k)(h3:k<=3)(hb:bs.length=c):CntOk ⟨is,ps,bs⟩ :=
 ⟨by rw[h.l1];exact h1,by rw[h.l1];omega,by rw[h.l1,h.l2],fun b hb=>by have:=h.bd b (by rw[<-h.l1];exact hb);exact⟨this.1.1,this.2.1⟩,by
  show vN is ps is.length=some bs.length
  rw[h.l1,hb];exact h.comb⟩
def qPY (A tb k:Nat)(w:World)(e:Ending)(w':World):Prop :=
 ∃c v,e=.returned v/\rV w'.heap.size w' v c/\CntOk c/\(c.idx.length=k/\c.acc.length<=5 ^ k)/\uY A w' tb/\w.grownBy w' (some tb)
def qAV (A tb k:Nat)(w:World)(e:Ending)(w':World):Prop :=
 ∃(is ps:List Int) (bs:List Bool) (sI:Option Addr) (cI:Nat) (sP:Option Addr) (cP:Nat) (sA:Option Addr) (cA n B:Nat),e=.returned (.agg #[.slice sI k cI,.slice sP k cP,.slice sA n cA]) /\
  EMem (fun _=>False) w' [⟨B,3,.slice sI k cI,k,ints is,1⟩,⟨B,3,.slice sP k cP,k,ints ps,1⟩,⟨B,4,.slice sA n cA,n,bls bs,1⟩]/\w.heap.size<=B/\CntOk ⟨is,ps,bs⟩/\(is.length=k/\bs.length<=5 ^ k)/\uY A w' tb/\w.grownBy w' (some tb)
theorem qAV.made {A tb k:Nat}{w w':World}{e:Ending}(h:qAV A tb k w e w'):qPY A tb k w e w':=by
 obtain⟨is,ps,bs,sI,cI,sP,cP,sA,cA,n,B,rfl,hM,hB,h0,hl,hT,hg⟩:=h;have h1:=hM.own ⟨B,3,.slice sI k cI,k,ints is,1⟩ (by simp);have h2:=hM.own ⟨B,3,.slice sP k cP,k,ints ps,1⟩ (by simp);have h3:=hM.own ⟨B,4,.slice sA n cA,n,bls bs,1⟩ (by simp);exact⟨⟨is,ps,bs⟩,_,rfl,⟨_,_,_,rfl,(RowT.of_owns h1).row,(RowT.of_owns h2).row,(RowT.of_owns h3).row⟩,h0,hl,hT,hg⟩
theorem qER (A tb k:Nat)(w:World)(h1:1<=k)(h3:k<=3)(hT:uY A w tb):Calls Tryz.prog 10 #[.pointer (some ⟨tb,0,none⟩),.int .i64 (k:Int)] w (qAV A tb k w):=by
 have H6:=hT.lt;obtain⟨w1,h4⟩:=Nm (w.alloc (.cells #[.slice none 0 0,.slice none 0 0,.slice none 0 0] 35));have g1:w.grownBy w1 none:=by rw[h4];exact Ga w _ none
 have n1:=heap_alloc_new w (.cells #[.slice none 0 0,.slice none 0 0,.slice none 0 0] 35);have H0:w1.heap.size=w.heap.size+1:=by rw[h4];simp
 rw[<-h4]at n1;obtain⟨w2,h6⟩:=Nm (w1.alloc (.cells #[.slice none 0 0,.slice none 0 0,.slice none 0 0] 35));have g2:w1.grownBy w2 none:=by rw[h6];exact Ga w1 _ none
 have n2:=heap_alloc_new w1 (.cells #[.slice none 0 0,.slice none 0 0,.slice none 0 0] 35);obtain⟨R,hR⟩:=Nm w.heap.size;obtain⟨o,ho⟩:=Nm w1.heap.size;rw[<-h6,<-ho]at n2;rw[<-hR]at n1;have H9:o=R+1:=by omega
 have a9:BoxS w2.heap.size (fun _=>False) o 35 (emp w1) w2 [] #[.slice none 0 0,.slice none 0 0,.slice none 0 0] w2:=⟨⟨fun r hr=>by simp at hr,List.Pairwise.nil,fun r hr=>by simp at hr,fun k hk=>hk.elim⟩,fun r hr=>by simp at hr,n2,fun h=>h,Nat.zero_le _,Nat.zero_le _,Nat.le_refl _,qCY g2,xV.refl _ _,Nat.le_refl _⟩;obtain⟨B,hB⟩:=Nm w2.heap.size;have a5:uY A w2 tb:=(hT.kept g1 (by simp)).kept g2 (by simp)
 have hS:CdS A B o tb 35 w1 [⟨B,3,.slice none 0 0,0,ints [],1⟩,⟨B,3,.slice none 0 0,0,ints [],1⟩,⟨B,4,.slice none 0 0,0,bls [],1⟩] #[.slice none 0 0,.slice none 0 0,.slice none 0 0] w2:=by
  rw[hB];exact⟨((a9.nil (e:=3) (sz:=1) (by decide)).nil (e:=3) (sz:=1) (by decide)).nil (e:=4) (sz:=1) (by decide),a5,⟨by omega,g2.size,by omega⟩,xY g2⟩
 have c4:Hid (∀W:World,w1.grownBy W (some tb)->W.heap[R]?=some (.cells #[.slice none 0 0,.slice none 0 0,.slice none 0 0] 35 (0,0))):=Kh (fun W hg=>zB n1 hg (fun e=>by have e:=Oj e;omega));obtain⟨c2,c1,b0,d4,b2,HS⟩:=K6 h4 h6 hR ho g1 hS;have c3:=Kh H6;have c8:=Kh hT.ge;have c5:=Kh H9;clear H9 h4 h6 hR ho g1 g2 n1 n2 H0 a9 hB a5 hS hT H6;go_enter Tryz.func10,Tryz.ntmps10;go_upto_region 2 with fail;rw[<-c2.out,<-b0.out,<-c1.out,<-c5.out];go_wp2
 go_loopg [6,7] k (fun gh a6 a7 wr=>∃(a c:Nat) (is ps:List Int) (sI sP:Option Addr) (cI cP:Nat),gh+a=k/\a7=.int .i64 a/\a6=.int .i64 (c:Int)/\DealC is ps a c/\CdS A B o tb 35 w1 [⟨B,3,.slice sI a cI,a,ints is,1⟩,⟨B,3,.slice sP a cP,a,ints ps,1⟩,⟨B,4,.slice none 0 0,0,bls [],1⟩] #[.slice sI a cI,.slice sP a cP,.slice none 0 0] wr)
 case atStart=>exact⟨0,1,[],[],none,none,0,0,rfl,rfl,rfl,⟨rfl,rfl,rfl,by decide,fun b hb=>by omega⟩,HS.out⟩
 clear HS;obtain⟨a,c,is,ps,sI,sP,cI,cP,a1,rfl,rfl,hd,h5⟩:=hrel;obtain⟨h7,HD,h0⟩:=K3 a1 hd h5;clear a1 hd h5;by_cases ha:a<k
 ·have c0:(a:Int)<k:=by omega
  go_upto_region 6 with fail;refine qRR h0.out (by omega) ?_;intro z14 z15 z16 z17 z18 z19 z20 z21 z22 z23 z24 z25 z26 z27 z28 sI2 sP2 cI2 cP2 y z w8 b5 b4 b3 H0 h8;obtain⟨yn,rfl⟩:∃n:Nat,y=(n:Int):=⟨y.toNat,by omega⟩;obtain⟨zn,ez⟩:∃n:Nat,1+z=(n:Int):=⟨(1+z).toNat,by omega⟩;rw[ez]at h8;have hD:=HD.out.add (y:=yn) (z:=zn) (by omega) (by omega) (by omega);have H8:=Kh h8;have c7:=Kh hD;obtain⟨p0,p1,p2⟩:=xW h8.box.box;have H2:=h8.box.own (r:=⟨B,3,.slice sI2 (a+1) cI2,a+1,ints (is++[(yn:Int)]),1⟩) (by simp);have H1:=h8.box.own (r:=⟨B,3,.slice sP2 (a+1) cP2,a+1,ints (ps++[(zn:Int)]),1⟩) (by simp);simp only at H2 H1;obtain⟨ib,io,ic,ei,_,i1,i2,ir⟩:=(Row.of_owns H2).some_ (by rw[zJ,List.length_append,HD.out.l1];simp);obtain⟨pb,po,pc,ep,_,p1',p2',pr⟩:=(Row.of_owns H1).some_ (by rw[zJ,List.length_append,HD.out.l2];simp);rw[zJ,List.length_append,List.length_singleton,HD.out.l1]at ei i1;rw[zJ,List.length_append,List.length_singleton,HD.out.l2]at ep p1';simp only[Value.slice.injEq,true_and]at ei ep;obtain⟨rfl,rfl⟩:=ei;obtain⟨rfl,rfl⟩:=ep;have ci:=ir.int a (by rw[List.length_append,HD.out.l1];simp);have cp:=pr.int a (by rw[List.length_append,HD.out.l2];simp);rw[qW HD.out.l1.symm]at ci;rw[qW HD.out.l2.symm]at cp;obtain⟨s,hs⟩:=Nm (yn+zn);rw[<-hs]at hD;have a3:c<=2000:=qP HD.out.comb;have e1:IntKind.i64.wrap ((yn:Int)+(zn:Int))=(s:Int):=by rw[hs];exact xJ (by omega)
  obtain⟨e2,e3,-⟩:=nQ (c:=c) (r:=s) a3 (by omega);obtain⟨d,a2⟩:=Nm (c*s);rw[<-a2]at hD e2;have c6:=Kh hD;have d2:(a:Int)<((a+1:Nat):Int):=(by omega);unfold maxLen at i2 p2';clear e3 a2 hs hD c7 H2 H1 ir pr h8 b5 b4 b3 H0 ez p2;go_wp2
  go_quiet (fail)
  clear e1 e2;go_wp2;go_roundg (k-(a+1))
  case measure=>have:=h7.out;omega
  exact⟨a+1,d,_,_,some ⟨ib,io,none⟩,some ⟨pb,po,none⟩,cI2,cP2,by have:=h7.out;omega,by go_num,by go_num,c6.out,H8.out.grow (zQ _ _ none)⟩
 have b9:k=a:=by have:=h7.out;omega
 have c0:¬(a:Int)<k:=(by omega);subst b9;clear h7;go_wp2
 go_loopg [8] c (fun gh a8 wx=>∃(q:Nat) (bs:List Bool) (sA:Option Addr) (cA:Nat),gh+q=c/\a8=.int .i64 q/\bs.length=q/\CdS A B o tb 35 w1 [⟨B,3,.slice sI k cI,k,ints is,1⟩,⟨B,3,.slice sP k cP,k,ints ps,1⟩,⟨B,4,.slice sA q cA,q,bls bs,1⟩] #[.slice sI k cI,.slice sP k cP,.slice sA q cA] wx)
 case atStart=>exact⟨0,[],none,0,rfl,by go_num,rfl,h0.out⟩
 clear h0;obtain⟨q,bs,sA,cA,a0,rfl,a4,h5⟩:=hrel;obtain⟨H4,H5,h0⟩:=K3 a0 a4 h5;have a3:c<=2000:=qP HD.out.comb;clear a0 a4 h5;by_cases hq:q<c
 ·have b6:(q:Int)<c:=by omega
  go_upto_region 11 with fail;refine qOH h0.out (by omega) ?_;intro z47 z48 z49 z50 z51 z52 z53 z54 sA2 cA2 b w8 h8;have H8:=Kh h8;clear h8 h0;go_wp2;go_roundg (c-(q+1))
  case measure=>have:=H4.out;omega
  exact⟨q+1,_,_,_,by have:=H4.out;omega,by go_num,by simp[H5.out],H8.out⟩
 have H7:c=q:=by have:=H4.out;omega
 have b6:¬(q:Int)<c:=(by omega);have b1:=Kh H7;obtain⟨p0,p1,p2⟩:=xW h0.out.box.box;have h2:=Kh (c4.out _ h0.out.grown);obtain⟨r0,r1,r2⟩:=xW h2.out;have f0:=zA h2.out 0;have f1:=zA h2.out 1;have f2:=zA h2.out 2;clear H7;go_wp2;refine bodyPost_ret (v:=.agg #[.slice sI k cI,.slice sP k cP,.slice sA q cA]) (by simp[results,Tryz.results10,go_sem,r0,r1,r2]) rfl ?_;obtain⟨d0,H3⟩:=dB h2.out (.slice sI k cI) (.slice sP k cP) (.slice sA q cA)
 have hM:=h0.out.box.mem.far H3 (fun r hr e=>by
  obtain⟨_,h9⟩:=h0.out.box.typ r hr;have h8:=h0.out.box.own hr
  exact zV h8 h2.out (fun e=>h9 e) e)
 have c9:=c3.out;have d1:=b0.out;have d3:=c8.out;have b7:=HD.out.ok (bs:=bs) (by omega) (by omega) (by rw[H5.out,b1.out]);have b8:bs.length=c:=by rw[H5.out,b1.out]
 exact⟨is,ps,bs,sI,cI,sP,cP,sA,cA,q,B,rfl,hM,Nat.le_trans b2.out.size h0.out.tlt.2.1,b7,⟨HD.out.l1,by rw[b8];exact HD.out.le⟩,h0.out.tape.kept H3 (fun j e=>by have e:R=j:=Oj e;omega),yG (zG (xY b2.out) h0.out.grown) H3 (by show _<=R;omega)⟩
structure CtA (W:World)(o gI cI gP cP gA cA k n:Nat)(is ps:List Int)(bs:List Bool):Prop where
 box:W.heap[o]?=some (.cells #[.slice (some ⟨gI,0,none⟩) k cI,.slice (some ⟨gP,0,none⟩) k cP,.slice (some ⟨gA,0,none⟩) n cA] 35 (0,0))
 aI:Arr W gI 3 (ints is)
 aP:Arr W gP 3 (ints ps)
 aA:Arr W gA 4 (bls bs)
 ne:gI≠gP/\gI≠gA/\gP≠gA
 off:o≠gI/\o≠gP/\o≠gA
 cap:(k<=cI/\cI<=maxLen)/\(k<=cP/\cP<=maxLen)/\n<=cA/\cA<=maxLen
 len:is.length=k/\ps.length=k/\bs.length=n
section
variable {W W':World} {o gI cI gP cP gA cA k n:Nat} {is ps:List Int} {bs:List Bool}
theorem eG {W:World}{g c k:Nat}{e:TypeId}{xs:List Value}(h:Arr W g e xs)(hk:xs.length=k)(hc:k<=c/\c<=maxLen):Row W.heap.size W (.slice (some ⟨g,0,none⟩) k c) xs:=by
 subst hk;exact(h.rowT' hc.1 hc.2).row
theorem CtA.cnt (h:CtA W o gI cI gP cP gA cA k n is ps bs):rV W.heap.size W (.agg #[.slice (some ⟨gI,0,none⟩) k cI,.slice (some ⟨gP,0,none⟩) k cP,.slice (some ⟨gA,0,none⟩) n cA]) ⟨is,ps,bs⟩ :=
 ⟨_,_,_,rfl,eG h.aI (by rw[zJ];exact h.len.1) h.cap.1,eG h.aP (by rw[zJ];exact h.len.2.1) h.cap.2.1,eG h.aA (by rw[zX];exact h.len.2.2) h.cap.2.2⟩
theorem CtA.grow (h:CtA W o gI cI gP cP gA cA k n is ps bs)(hg:W.grownBy W' none):CtA W' o gI cI gP cP gA cA k n is ps bs :=
 ⟨zB h.box hg,h.aI.kept hg (by simp),h.aP.kept hg (by simp),h.aA.kept hg (by simp),h.ne,h.off,h.cap,h.len⟩
theorem CtA.far {t:Nat}(h:CtA W o gI cI gP cP gA cA k n is ps bs)(hg:W.grownBy W' (some t))(a9:o≠t/\gI≠t/\gP≠t/\gA≠t):CtA W' o gI cI gP cP gA cA k n is ps bs :=
 ⟨zB h.box hg (fun e=>a9.1 (Oj e).symm),h.aI.kept hg (fun e=>a9.2.1 (Oj e).symm),h.aP.kept hg (fun e=>a9.2.2.1 (Oj e).symm),h.aA.kept hg (fun e=>a9.2.2.2 (Oj e).symm),h.ne,h.off,h.cap,h.len⟩
theorem CtA.setI (h:CtA W o gI cI gP cP gA cA k n is ps bs){q:Nat}(hq:q<k)(v:Int):CtA (W.setCell ⟨gI,q,none⟩ (.int .i64 v)) o gI cI gP cP gA cA k n (is.set q v) ps bs:=by
 have hg:=zF W ⟨gI,q,none⟩ (.int .i64 v);exact⟨zB h.box hg (fun e=>h.off.1 (Oj e).symm),h.aI.int_set q (by rw[h.len.1];exact hq) v,h.aP.kept hg (fun e=>h.ne.1 (Oj e)),h.aA.kept hg (fun e=>h.ne.2.1 (Oj e)),h.ne,h.off,h.cap,by simp[h.len]⟩
theorem CtA.setP (h:CtA W o gI cI gP cP gA cA k n is ps bs){q:Nat}(hq:q<k)(v:Int):CtA (W.setCell ⟨gP,q,none⟩ (.int .i64 v)) o gI cI gP cP gA cA k n is (ps.set q v) bs:=by
 have hg:=zF W ⟨gP,q,none⟩ (.int .i64 v);exact⟨zB h.box hg (fun e=>h.off.2.1 (Oj e).symm),h.aI.kept hg (fun e=>h.ne.1 (Oj e).symm),h.aP.int_set q (by rw[h.len.2.1];exact hq) v,h.aA.kept hg (fun e=>h.ne.2.2 (Oj e)),h.ne,h.off,h.cap,by simp[h.len]⟩
theorem CtA.cutA (h:CtA W o gI cI gP cP gA cA k n is ps bs){q:Nat}(hq:q<=n):CtA (W.setCell ⟨o,2,none⟩ (.slice (some ⟨gA,0,none⟩) q cA)) o gI cI gP cP gA cA k q is ps (bs.take q):=by
 have hg:=zF W ⟨o,2,none⟩ (.slice (some ⟨gA,0,none⟩) q cA);have hA:=h.aA.kept hg (fun e=>h.off.2.2 (Oj e));have hc:=h.cap;refine⟨by rw[heap_setCell_same W o 2 _ _ (.slice (some ⟨gA,0,none⟩) q cA) h.box];rfl,h.aI.kept hg (fun e=>h.off.1 (Oj e)),h.aP.kept hg (fun e=>h.off.2.1 (Oj e)),?_,h.ne,h.off,⟨hc.1,hc.2.1,by omega,hc.2.2.2⟩,h.len.1,h.len.2.1,by rw[List.length_take,h.len.2.2];omega⟩;refine Arr.front (ys:=bls (bs.drop q)) ?_;rw[show bls (bs.take q)++bls (bs.drop q)=bls bs by simp[bls,<-List.map_append]];exact hA
end
theorem qPA {A tb k:Nat}{w w':World}{e:Ending}(h:qAV A tb k w e w')(h1:1<=k):∃(gI cI gP cP gA cA n B:Nat) (is ps:List Int) (bs:List Bool),e=.returned (.agg #[.slice (some ⟨gI,0,none⟩) k cI,.slice (some ⟨gP,0,none⟩) k cP,.slice (some ⟨gA,0,none⟩) n cA])/\CntOk ⟨is,ps,bs⟩/\w.heap.size<=B/\(B<=gI/\B<=gP/\B<=gA)/\1<=n/\w'.ownsRow B 3 1 (.slice (some ⟨gP,0,none⟩) k cP) k (ints ps)/\uY A w' tb/\w.grownBy w' (some tb)/\(∀(o:Nat) (W:World),w'.grownBy W none->w'.heap.size<=o->W.heap[o]?=some (.cells #[.slice (some ⟨gI,0,none⟩) k cI,.slice (some ⟨gP,0,none⟩) k cP,.slice (some ⟨gA,0,none⟩) n cA] 35 (0,0))->CtA W o gI cI gP cP gA cA k n is ps bs):=by
 obtain⟨is,ps,bs,sI,cI,sP,cP,sA,cA,n,B,rfl,hM,hB,h2,hl,hT,hg⟩:=h;have o1:=hM.own ⟨B,3,.slice sI k cI,k,ints is,1⟩ (by simp);have o2:=hM.own ⟨B,3,.slice sP k cP,k,ints ps,1⟩ (by simp);have o3:=hM.own ⟨B,4,.slice sA n cA,n,bls bs,1⟩ (by simp);have h0:=hM.apart;simp only[List.pairwise_cons,List.mem_cons,List.not_mem_nil,or_false]at h0;simp only at o1 o2 o3;have l1:is.length=k:=by have:=o1.1;simpa [ints] using this
 have l2:ps.length=k:=by have:=o2.1;simpa [ints] using this
 have l3:bs.length=n:=by have:=o3.1;simpa [bls] using this
 have hn:1<=n:=by have:=(pW h2).n1;simp only at this;omega
 obtain⟨gI,rfl,i1,i2,aI⟩:=yZ o1 (by omega);obtain⟨gP,rfl,p1,p2,aP⟩:=yZ o2 (by omega);obtain⟨gA,rfl,a1,a2,aA⟩:=yZ o3 (by omega);have bI:=(o1.lt gI rfl).1;have bP:=(o2.lt gP rfl).1;have bA:=(o3.lt gA rfl).1
 have h4:gI≠gP:=fun e=>by
  subst e;exact h0.1 _ (.inl rfl) gI rfl rfl
 have h5:gI≠gA:=fun e=>by
  subst e;exact h0.1 _ (.inr rfl) gI rfl rfl
 have h3:gP≠gA:=fun e=>by
  subst e;exact h0.2.1 _ rfl gP rfl rfl
 refine⟨gI,cI,gP,cP,gA,cA,n,B,is,ps,bs,rfl,h2,hB,⟨bI,bP,bA⟩,hn,o2,hT,hg,fun o W hW ho hb=>⟨hb,aI.kept hW (by simp),aP.kept hW (by simp),aA.kept hW (by simp),⟨h4,h5,h3⟩,?_,⟨⟨i1,i2⟩,⟨p1,p2⟩,a1,a2⟩,l1,l2,l3⟩⟩;have:=aI.lt;have:=aP.lt;have:=aA.lt;omega
theorem countingMade_walk (w:World)(v0:Value)(z0:List Int)(a8 a9 v:Int)(h0:Row w.heap.size w v0 (z0.map (Value.int .i64))):Calls Tryz.prog 4 #[v0,.int .i64 a8,.int .i64 a9,.int .i64 v] w fun e w'=>e=.returned (.bool true)/\w.grownBy w' none:=by
 go_enter Tryz.func4,Tryz.ntmps4;go_wp2_with fail;refine(qRN w.heap.size w v0 z0 h0 (Nat.le_refl _)).mono ?_;rintro e w1 ⟨rfl,c0,b7⟩;go_wp2_with fail;refine(lW w.heap.size w.heap.size w1 2 (by omega) c0).mono ?_;rintro e w2 ⟨r,rfl,d0,H5,a2,b6⟩;replace H5:=H5 (by omega);have gw2:w.grownBy w2 none:=zC b7 b6;obtain⟨k,hk⟩:∃k:Nat,1+r=(k:Int):=⟨(1+r).toNat,by omega⟩;have d9:IntKind.i64.wrap (1+r)=(k:Int):=by rw[hk];exact xJ (by omega)
 have b3:1<=k:=by omega
 have i1:k<=2:=by omega
 have H4:=a2.lt;clear c0 b7;go_wp2_with fail;refine(qER w.heap.size w.heap.size k w2 b3 (by omega) a2).mono ?_;intro e w3 b8;obtain⟨gI,cI,gP,cP,gA,cA,n,B,is,ps,bs,rfl,b1,hB,⟨bI,bP,bA⟩,g9,b2,b9,b5,c4⟩:=qPA b8 b3;have gw3:w.grownBy w3 none:=zC gw2 b5;have e9:w.heap.size<B:=by omega
 obtain⟨i6,c7,g5,c8,f3,a6⟩:=K6 b1 b2 c4 gw3 b9 e9;clear b8 b1 b2 b9 b5 c4 gw3 a2 b6 gw2 h0 hk d9 d0 H5 hB H4;go_upto_region 4 with fail;obtain⟨o,ho⟩:=Nm w3.heap.size;obtain⟨w4,h4⟩:=Nm (w3.alloc (.cells #[.slice (some ⟨gI,0,none⟩) k cI,.slice (some ⟨gP,0,none⟩) k cP,.slice (some ⟨gA,0,none⟩) n cA] 35));have g4:w3.grownBy w4 none:=by rw[h4];exact Ga w3 _ none
 have b4:=heap_alloc_new w3 (.cells #[.slice (some ⟨gI,0,none⟩) k cI,.slice (some ⟨gP,0,none⟩) k cP,.slice (some ⟨gA,0,none⟩) n cA] 35);rw[<-h4,<-ho]at b4;rw[<-h4,<-ho];have a7:Hid (CtA w4 o gI cI gP cP gA cA k n is ps bs/\w4.ownsRow B 3 1 (.slice (some ⟨gP,0,none⟩) k cP) k (ints ps)):=Kh ⟨g5.out o w4 g4 (by omega) b4,zY c7.out g4⟩;have g3:=Kh (zC c8.out g4);have c5:=Kh (f3.out.kept g4 (by simp));have a4:Hid (w.heap.size<=o):=Kh (by have:=c8.out.size;omega);have f4:Hid (w.heap.size<o):=Kh (by have:=(c7.out.lt gP rfl).2;omega);clear g4 b4 h4 ho;go_wp2_with fail;refine(qMI w.heap.size w.heap.size w4 (k:Int) 14 (by omega) (by omega) (by omega) (by omega) c5.out).mono ?_;rintro e w5 ⟨l,rfl,H7,d8,e6,h9⟩;obtain⟨s,hs⟩:=Nm (strOfNums l);have a3:Hid (s.size<=maxLen):=Kh (by rw[hs,strOfNums_size];unfold maxLen;omega);have i5:=a6.out;have H3:Hid (CtA w5 o gI cI gP cP gA cA k n is ps bs/\w5.ownsRow B 3 1 (.slice (some ⟨gP,0,none⟩) k cP) k (ints ps)):=Kh ⟨a7.out.1.far h9 ⟨by have:=a4.out;have:=f4.out;omega,by omega,by omega,by omega⟩,a7.out.2.kept h9 (.inr (fun e=>by have e:gP=w.heap.size:=Oj e;omega))⟩;have f9:=Kh (zC g3.out h9);rw[<-hs];clear h9 e6 H7 d8 hs a7 c5;obtain⟨p0,p1,p2⟩:=xW H3.out.1.box;have c9:=Kh (qLX w5.heap.size w5 _ ⟨is,ps,bs⟩ s H3.out.1.cnt (Nat.le_refl _) a3.out);go_wp2_with fail;refine c9.out.mono ?_;rintro e w6 ⟨rfl,h8⟩;have h1:Hid (CtA w6 o gI cI gP cP gA cA k n is ps bs/\w6.ownsRow B 3 1 (.slice (some ⟨gP,0,none⟩) k cP) k (ints ps)):=Kh ⟨H3.out.1.grow h8,zY H3.out.2 h8⟩;have H1:=Kh (zC f9.out h8);clear h8 c9 p0 p1 p2;go_wp2_with fail;refine(qAE a9 k w6 (by omega)).mono ?_;rintro e w7 ⟨rfl,rfl⟩;obtain⟨q,hq⟩:∃q:Nat,modI a9 (k:Int)=(q:Int):=⟨(modI a9 k).toNat,by have:=kV a9 k;omega⟩;have h5:q<k:=by have:=qED a9 k (by omega);omega
 rw[hq];clear hq;go_wp2_with fail;refine(qAE a8 4 _ (by omega)).mono ?_;rintro e w8 ⟨rfl,rfl⟩;obtain⟨y,hy⟩:=Nm (modI a8 4);have g7:0<=y:=by rw[hy];exact kV _ _
 have g6:y<4:=by rw[hy];exact qED _ _ (by omega)
 rw[<-hy];clear hy
 go_upto_block 0 with fail
 have d5:(q:Int)<k:=by omega
 have e4:=h1.out.1.cap.1;have e1:=h1.out.1.cap.2.1;have e5:=h1.out.1.cap.2.2;unfold maxLen at e4 e1 e5;go_cut [34,41,48,55] (fun s34 s41 s48 s55 wx=>∃(c':CntV) (sI sP sA:Option Addr) (m1 d1 m2 d2 m3 d3:Nat),wx.heap[o]?=some (.cells #[.slice sI m1 d1,.slice sP m2 d2,.slice sA m3 d3] 35 (0,0))/\rV wx.heap.size wx (.agg #[.slice sI m1 d1,.slice sP m2 d2,.slice sA m3 d3]) c'/\w.grownBy wx none)
 case first =>
  obtain⟨p0,p1,p2⟩:=xW h1.out.1.box;have i0:=zR h1.out.1.box;obtain rfl|rfl|rfl|rfl:y=0\/y=1\/y=2\/y=3:=by omega
  ·have cc:=h1.out.1.aI.int q (by rw[h1.out.1.len.1];exact h5)
   have ff:=h1.out.1.aI.frozen q;have HX:=Kh (h1.out.1.setI h5 v);have h3:=Kh (yG H1.out (zF w6 ⟨gI,q,none⟩ (.int .i64 v)) (by show _<=gI;have:=a6.out;omega));go_wp2
   go_meet
   exact⟨_,_,_,_,_,_,_,_,_,_,HX.out.box,HX.out.cnt,h3.out⟩
  ·have cc:=h1.out.1.aP.int q (by rw[h1.out.1.len.2.1];exact h5)
   have ff:=h1.out.1.aP.frozen q;have HX:=Kh (h1.out.1.setP h5 v);have h3:=Kh (yG H1.out (zF w6 ⟨gP,q,none⟩ (.int .i64 v)) (by show _<=gP;have:=a6.out;omega));go_wp2
   go_meet
   exact⟨_,_,_,_,_,_,_,_,_,_,HX.out.box,HX.out.cnt,h3.out⟩
  ·have f2:=zA h1.out.1.box 2
   have d4:q<=n:=by omega
   have HX:=Kh (h1.out.1.cutA d4);have h3:=Kh (yG H1.out (zF w6 ⟨o,2,none⟩ (.slice (some ⟨gA,0,none⟩) q cA)) (by show _<=o;have:=a4.out;omega));have g8:(q:Int)<=cA:=by omega
   go_wp2
   go_meet
   exact⟨_,_,_,_,_,_,_,_,_,_,HX.out.box,HX.out.cnt,h3.out⟩
  have c6:=Kh h1.out.2;have d6:(some gP:Option Nat)≠some o:=fun e=>h1.out.1.off.2.1 (Oj e).symm;go_wp2_with (first|(at_builtin;refine app1 rfl _ _ _ rfl yH B _ k (ints ps) rfl c6.out _ rfl rfl ?c1 ?c2 ?c3 ?_;(case c1=>(unfold maxLen;omega));(case c2=>omega);(case c3=>(have:=(c6.out.lt gP rfl);omega));intro sa' sc' wp h2 h7 d7;have H0:=zB h1.out.1.box h7 d6;have p4:=(xW H0).2.1;have ff:=zA H0 1)|fail)
  go_meet
  have h6:=zF wp ⟨o,1,none⟩ (.slice sa' (k+1) sc');have hA:=h1.out.1;have hP:=RowT.of_owns (h2.kept h6 (.inr (zV h2 H0 (by decide))));rw[show ints ps++[.int .i64 1]=ints (ps++[1]) by simp[ints]]at hP;have hI:=(hA.aI.kept h7 (fun e=>hA.ne.1 (Oj e).symm)).kept h6 (fun e=>hA.off.1 (Oj e));have hB:=(hA.aA.kept h7 (fun e=>hA.ne.2.2 (Oj e))).kept h6 (fun e=>hA.off.2.2 (Oj e));exact⟨⟨is,ps++[1],bs⟩,_,_,_,_,_,_,_,_,_,heap_setCell_same wp o 1 _ _ (.slice sa' (k+1) sc') H0,⟨_,_,_,rfl,eG hI (by rw[zJ];exact hA.len.1) hA.cap.1,hP.row,eG hB (by rw[zX];exact hA.len.2.2) hA.cap.2.2⟩,yG (yG H1.out h7 (by show _<=gP;omega)) h6 (by show _<=o;have:=a4.out;omega)⟩
 obtain⟨c',sI,sP,sA,m1,d1,m2,d2,m3,d3,a1,H9,H8⟩:=hcut;obtain⟨wf,b0⟩:=Nm (wc:World);rw[<-b0]at a1 H9 H8⊢;have f8:=Kh H8;have H2:=Kh H9;obtain⟨ce,a0⟩:=Nm (cntE c');obtain⟨mm,H6⟩:=Nm (pR c' s);have e2:(ce == ce)=true:=by simp
 have e3:(mm == mm)=true:=by simp
 have f1:Hid (∀W:World,wf.grownBy W none->Calls Tryz.prog 19 #[.agg #[.slice sI m1 d1,.slice sP m2 d2,.slice sA m3 d3]] W fun e w'=>e=.returned (.int .i64 ce)/\wf.grownBy w' none):=Kh (fun W hW=>(kE _ W _ c' (H2.out.kept hW)).mono fun e w' ⟨he,hg⟩=>⟨by rw[he,a0],zG hW hg⟩);have f0:Hid (∀W:World,wf.grownBy W none->Calls Tryz.prog 20 #[.agg #[.slice sI m1 d1,.slice sP m2 d2,.slice sA m3 d3]] W fun e w'=>e=.returned (.int .i64 ce)/\wf.grownBy w' none):=Kh (fun W hW=>(nI _ W _ c' (H2.out.kept hW)).mono fun e w' ⟨he,hg⟩=>⟨by rw[he,a0],zG hW hg⟩);have f6:Hid (∀W:World,wf.grownBy W none->Calls Tryz.prog 21 #[.agg #[.slice sI m1 d1,.slice sP m2 d2,.slice sA m3 d3],.string s] W fun e w'=>e=.returned (.bool mm)/\wf.grownBy w' none):=Kh (fun W hW=>(kF _ W _ c' s (H2.out.kept hW) a3.out).mono fun e w' ⟨he,hg⟩=>⟨by rw[he,H6],zG hW hg⟩);have f5:Hid (∀W:World,wf.grownBy W none->Calls Tryz.prog 22 #[.agg #[.slice sI m1 d1,.slice sP m2 d2,.slice sA m3 d3],.string s] W fun e w'=>e=.returned (.bool mm)/\wf.grownBy w' none):=Kh (fun W hW=>(eH _ W _ c' s (H2.out.kept hW) a3.out).mono fun e w' ⟨he,hg⟩=>⟨by rw[he,H6],zG hW hg⟩);have f7:Hid (∀W:World,wf.grownBy W none->Calls Tryz.prog 16 #[] W fun e w'=>e=.returned (.bool true)/\wf.grownBy w' none):=Kh (fun W hW=>(qEJ W).mono fun e w' h=>⟨h.1,zG hW h.2⟩);have a5:Hid (∀W:World,wf.grownBy W none->W.cell? ⟨o,0,none⟩=some (.slice sI m1 d1)/\W.cell? ⟨o,1,none⟩=some (.slice sP m2 d2)/\W.cell? ⟨o,2,none⟩=some (.slice sA m3 d3)):=Kh (fun W hW=>xW (zB a1 hW));have e0:=zS wf none;obtain⟨g0,g1,g2⟩:=a5.out wf (zU _ _);obtain⟨y0,y1,y2⟩:=a5.out _ e0;clear a1 H9 H8 b0 a0 H6;go_upto_region 17 with fail
 go_region_held3 (fun W=>W.cell? ⟨o,0,none⟩=some (.slice sI m1 d1)/\W.cell? ⟨o,1,none⟩=some (.slice sP m2 d2)/\W.cell? ⟨o,2,none⟩=some (.slice sA m3 d3))
  (first|go_keep|exact a5.out _ (by assumption)|exact⟨y0,y1,y2⟩|fail)
  (first|(go_at_call 19;(with_reducible refine(f1.out _ (by first|assumption|exact zS _ none)).mono ?_);rintro e w7 ⟨rfl,i4⟩)|(go_at_call 20;(with_reducible refine(f0.out _ (by first|assumption|exact zS _ none)).mono ?_);rintro e w7 ⟨rfl,i3⟩)|(go_at_call 21;(with_reducible refine(f6.out _ (by first|assumption|exact zS _ none)).mono ?_);rintro e w7 ⟨rfl,i2⟩)|(go_at_call 22;(with_reducible refine(f5.out _ (by first|assumption|exact zS _ none)).mono ?_);rintro e w7 ⟨rfl,e8⟩)|(go_at_call 16;(with_reducible refine(f7.out _ (by first|assumption|exact zS _ none)).mono ?_);rintro e w7 ⟨rfl,e7⟩)|fail)
 all_goals
  go_wp2;go_ret;exact⟨rfl,zC f8.out (by assumption)⟩
end Go.Proofs.YtobakifdllameaaGreat
