/- Part 24 of the proof. -/
import Derived.Test.YtobakifdllameaaQc23
import Derived.Lib.ConvBytes
set_option linter.unusedVariables false
set_option linter.unusedSimpArgs false
set_option maxRecDepth 100000
set_option maxHeartbeats 16000000
namespace Go.Proofs.Ytobakifdllameaa
open Go.Maps Go.RowKit
theorem RowT.litQ {B:Nat}{e:TypeId}{w:World}{b:Nat}{cs:Array Value}{m:Nat×Nat}{n:Nat}(h:w.heap[b]?=some (.cells cs e m))(hb:b<B)(hn:cs.size=n)(hm:n<=maxLen):RowT B e w (.slice (some ⟨b,0,none⟩) n n) cs.toList :=
 .inr ⟨b,0,n,cs,m,by simp[hn],hb,by simp[hn],hm,h,fun i hi=>by
  rw[Nat.zero_add]
  have:i<cs.size:=by simpa using hi
  simp[this]⟩
theorem qSS (w:World):∃w',w'=(((((w.alloc (.cells #[.bool false,.bool false,.bool false,.bool true] 4)).alloc (.cells #[.int .i64 1] 3)).alloc (.cells #[.int .i64 2] 3)).alloc (.cells #[.int .i64 3] 3)).alloc (.cells #[.int .i64 3] 3)).alloc (.cells #[.slice (some ⟨w.heap.size+1,0,none⟩) 1 1,.slice (some ⟨w.heap.size+1+1,0,none⟩) 1 1,.slice (some ⟨w.heap.size+1+1+1,0,none⟩) 1 1,.slice (some ⟨w.heap.size+1+1+1+1,0,none⟩) 1 1] 22)/\w.grownBy w' none/\sK w'.heap.size w' (.agg #[.int .i64 1,.int .i64 0,.slice (some ⟨w.heap.size,0,none⟩) 4 4,.slice (some ⟨w.heap.size+1+1+1+1+1,0,none⟩) 4 4]) dQ:=by
 obtain⟨w1,h8⟩:=Nm (w.alloc (.cells #[.bool false,.bool false,.bool false,.bool true] 4));obtain⟨w2,h7⟩:=Nm (w1.alloc (.cells #[.int .i64 1] 3));obtain⟨w3,h6⟩:=Nm (w2.alloc (.cells #[.int .i64 2] 3));obtain⟨w4,h5⟩:=Nm (w3.alloc (.cells #[.int .i64 3] 3));obtain⟨w5,h4⟩:=Nm (w4.alloc (.cells #[.int .i64 3] 3));obtain⟨w6,h0⟩:=Nm (w5.alloc (.cells #[.slice (some ⟨w.heap.size+1,0,none⟩) 1 1,.slice (some ⟨w.heap.size+1+1,0,none⟩) 1 1,.slice (some ⟨w.heap.size+1+1+1,0,none⟩) 1 1,.slice (some ⟨w.heap.size+1+1+1+1,0,none⟩) 1 1] 22));have g1:w.grownBy w1 none:=by rw[h8];exact Ga _ _ _
 have g2:w1.grownBy w2 none:=by rw[h7];exact Ga _ _ _
 have g3:w2.grownBy w3 none:=by rw[h6];exact Ga _ _ _
 have g4:w3.grownBy w4 none:=by rw[h5];exact Ga _ _ _
 have g5:w4.grownBy w5 none:=by rw[h4];exact Ga _ _ _
 have g6:w5.grownBy w6 none:=by rw[h0];exact Ga _ _ _
 have z1:w1.heap.size=w.heap.size+1:=by rw[h8,zX]
 have z2:w2.heap.size=w.heap.size+2:=by rw[h7,zX,z1]
 have z3:w3.heap.size=w.heap.size+3:=by rw[h6,zX,z2]
 have z4:w4.heap.size=w.heap.size+4:=by rw[h5,zX,z3]
 have z5:w5.heap.size=w.heap.size+5:=by rw[h4,zX,z4]
 have z6:w6.heap.size=w.heap.size+6:=by rw[h0,zX,z5]
 have g36:=zC (zC g4 g5) g6;have g26:=zC g3 g36;have g16:=zC g2 g26;have b1:w6.heap[w.heap.size]?=some (.cells #[.bool false,.bool false,.bool false,.bool true] 4 (0,0)):=zB (by rw[h8];exact heap_alloc_new w _) g16;have b2:w6.heap[w.heap.size+1]?=some (.cells #[.int .i64 1] 3 (0,0)):=zB (by rw[h7,<-z1];exact heap_alloc_new w1 _) g26;have b3:w6.heap[w.heap.size+1+1]?=some (.cells #[.int .i64 2] 3 (0,0)):=zB (by rw[h6,<-z2];exact heap_alloc_new w2 _) g36;have b4:w6.heap[w.heap.size+1+1+1]?=some (.cells #[.int .i64 3] 3 (0,0)):=zB (zB (by rw[h5,<-z3];exact heap_alloc_new w3 _) g5) g6;have b5:w6.heap[w.heap.size+1+1+1+1]?=some (.cells #[.int .i64 3] 3 (0,0)):=zB (by rw[h4,<-z4];exact heap_alloc_new w4 _) g6;have b6:w6.heap[w.heap.size+1+1+1+1+1]?=some (.cells #[.slice (some ⟨w.heap.size+1,0,none⟩) 1 1,.slice (some ⟨w.heap.size+1+1,0,none⟩) 1 1,.slice (some ⟨w.heap.size+1+1+1,0,none⟩) 1 1,.slice (some ⟨w.heap.size+1+1+1+1,0,none⟩) 1 1] 22 (0,0)):=by rw[h0,<-z5];exact heap_alloc_new w5 _
 have m1:1<=maxLen:=by unfold maxLen;omega
 have m4:4<=maxLen:=by unfold maxLen;omega
 refine⟨w6,by rw[h0,h4,h5,h6,h7,h8],zC g1 g16,_,_,rfl,?_,?_⟩
 ·exact(RowT.litQ b1 (by omega) rfl m4).row
 refine Mat.of_rowT (RowT.litQ b6 (by omega) rfl m4) ⟨rfl,fun i h1 h2=>?_⟩ (Nat.le_refl _);have h3:i<4:=h2;rcases (by omega:i=0\/i=1\/i=2\/i=3) with rfl|rfl|rfl|rfl
 ·exact RowT.litQ b2 (by omega) rfl m1
 ·exact RowT.litQ b3 (by omega) rfl m1
 ·exact RowT.litQ b4 (by omega) rfl m1
 exact RowT.litQ b5 (by omega) rfl m1
theorem qTD (w:World):∃w',w'=((w.alloc (.cells #[.int .i64 3] 3)).alloc (.cells #[.int .i64 1] 3)).alloc (.cells #[.bool false,.bool false,.bool false,.bool true] 4)/\w.grownBy w' none/\iQ w'.heap.size w' (.agg #[.slice (some ⟨w.heap.size,0,none⟩) 1 1,.slice (some ⟨w.heap.size+1,0,none⟩) 1 1,.slice (some ⟨w.heap.size+1+1,0,none⟩) 4 4]) cQ:=by
 obtain⟨w1,h2⟩:=Nm (w.alloc (.cells #[.int .i64 3] 3));obtain⟨w2,h1⟩:=Nm (w1.alloc (.cells #[.int .i64 1] 3));obtain⟨w3,h0⟩:=Nm (w2.alloc (.cells #[.bool false,.bool false,.bool false,.bool true] 4));have g1:w.grownBy w1 none:=by rw[h2];exact Ga _ _ _
 have g2:w1.grownBy w2 none:=by rw[h1];exact Ga _ _ _
 have g3:w2.grownBy w3 none:=by rw[h0];exact Ga _ _ _
 have z1:w1.heap.size=w.heap.size+1:=by rw[h2,zX]
 have z2:w2.heap.size=w.heap.size+2:=by rw[h1,zX,z1]
 have z3:w3.heap.size=w.heap.size+3:=by rw[h0,zX,z2]
 have g23:=zC g2 g3;have b1:w3.heap[w.heap.size]?=some (.cells #[.int .i64 3] 3 (0,0)):=zB (by rw[h2];exact heap_alloc_new w _) g23;have b2:w3.heap[w.heap.size+1]?=some (.cells #[.int .i64 1] 3 (0,0)):=zB (by rw[h1,<-z1];exact heap_alloc_new w1 _) g3;have b3:w3.heap[w.heap.size+1+1]?=some (.cells #[.bool false,.bool false,.bool false,.bool true] 4 (0,0)):=by rw[h0,<-z2];exact heap_alloc_new w2 _
 have m1:1<=maxLen:=by unfold maxLen;omega
 have m4:4<=maxLen:=by unfold maxLen;omega
 exact⟨w3,by rw[h0,h1,h2],zC g1 g23,_,_,_,rfl,(RowT.litQ b1 (by omega) rfl m1).row,(RowT.litQ b2 (by omega) rfl m1).row,(RowT.litQ b3 (by omega) rfl m4).row⟩
theorem qTY {w w':World}{e:Ending}(h:qMD dQ w e w'):∃v,e=.returned (.tuple #[v,.int .i64 0])/\iO w'.heap.size w' v sQ/\w.grownBy w' none:=by
 rcases h with ⟨c,h1,h2,h3,h4,h5⟩|⟨S,v,h1,h2,h3,h4⟩
 ·exact absurd qQO ((h4 qGE).2 sQ)
 obtain rfl:=h2.eq qQO;exact⟨v,h1,h3,h4⟩
theorem qST {w w':World}{e:Ending}(h:qQG sQ.I w e w'):∃v,e=.returned (.tuple #[v,.int .i64 0])/\iQ w'.heap.size w' v cQ/\w.grownBy w' none:=by
 rcases h with ⟨⟨z,h1,h2⟩|⟨c,v,h1,h2,h3,h4,h5⟩,h6⟩
 ·rcases h2 with ⟨_,h2⟩|⟨_,_,h2⟩|⟨_,_,_,h2⟩
  ·exact absurd qQL h2
  ·rw[qSU]at h2;cases h2
  exact absurd h2 qRN
 obtain rfl:=qUI h4;exact⟨v,h1,h5,h6⟩
theorem qEK (w:World):Calls Try.prog 11 #[] w fun e w'=>e=.returned (.bool true)/\w.grownBy w' none:=by
 obtain⟨w6,H2,a4,h7⟩:=qSS w;obtain⟨fb,h6⟩:=Nm w.heap.size;obtain⟨nb,h5⟩:=Nm (w.heap.size+1+1+1+1+1);rw[<-h5,<-h6]at h7;obtain⟨b0,c4,b2,c3⟩:=K4 H2 h6 h5 a4;have b1:=Kh (qRC w6.heap.size w6 _ dQ (Nat.le_refl _) h7);clear H2 a4 h7 h6 h5;go_enter Try.func11,Try.ntmps11;go_wp2_with fail;rw[<-b0.out,<-b2.out,<-c4.out];refine b1.out.mono ?_;rintro e w7 h0;obtain⟨v,rfl,h1,a3⟩:=qTY h0.ret;have c2:=Kh (zC c3.out a3);have h4:=h1.toI;obtain⟨vT,vW,vI,vA,vP,rfl,hT,hW,hI,hA,hP⟩:=id h4;obtain⟨tA,tC,rfl⟩:=hT.shape;obtain⟨wA,wC,rfl⟩:=hW.shape;obtain⟨iA,iC,rfl⟩:=hI.shape;obtain⟨aA,aC,rfl⟩:=hA.shape;obtain⟨pA,pC,rfl⟩:=hP.shape;obtain⟨n1,H7⟩:=Nm sQ.I.tab.length;obtain⟨n2,H6⟩:=Nm ((rQ sQ.I.words).length);obtain⟨n3,H5⟩:=Nm ((ints sQ.I.images).length);obtain⟨n4,H4⟩:=Nm ((bls sQ.I.accept).length);obtain⟨n5,H3⟩:=Nm ((bls sQ.I.plus).length);obtain⟨ik,a1⟩:=Nm sQ.I.k;rw[<-H7,<-H6,<-H5,<-H4,<-H3,<-a1]at h4⊢;have b3:=Kh h4;clear hT hW hI hA hP H7 H6 H5 H4 H3 a1 h0 h1 h4 a3;go_upto_region 2 with fail;obtain⟨P,hP⟩:=Nm w7.heap.size;obtain⟨w8,h3⟩:=Nm (w7.alloc (.cells #[.int .i64 ik,.slice tA n1 tC,.slice wA n2 wC,.slice iA n3 iC,.slice aA n4 aC,.slice pA n5 pC] 44));have g8:w7.grownBy w8 none:=by rw[h3];exact Ga w7 _ none
 have b8:=heap_alloc_new w7 (.cells #[.int .i64 ik,.slice tA n1 tC,.slice wA n2 wC,.slice iA n3 iC,.slice aA n4 aC,.slice pA n5 pC] 44);rw[<-h3,<-hP]at b8;rw[<-h3,<-hP];obtain⟨q0,q1,q2,q3,q4,q5⟩:=zY b8;have c1:=Kh (zC c2.out g8);have c5:=Kh (qDF w7.heap.size w8 _ sQ.I g8.size (b3.out.kept g8));clear g8 b8 h3 hP;go_wp2_with fail;refine c5.out.mono ?_;rintro e w9 h0;obtain⟨v,rfl,hc,a2⟩:=qST h0;have c0:=Kh (zC c1.out a2);obtain⟨vI,vP,vA,rfl,hi,hp,ha⟩:=id hc;obtain⟨jA,jC,rfl⟩:=hi.shape;obtain⟨kA,kC,rfl⟩:=hp.shape;obtain⟨lA,lC,rfl⟩:=ha.shape;obtain⟨m1,a0⟩:=Nm ((ints cQ.idx).length);obtain⟨m2,H9⟩:=Nm ((ints cQ.per).length);obtain⟨m3,H8⟩:=Nm ((bls cQ.acc).length);rw[<-a0,<-H9,<-H8]at hc⊢;have HC:=Kh hc;clear hi hp ha a0 H9 H8 h0 hc a2 q0 q1 q2 q3 q4 q5;go_upto_region 3 with fail;obtain⟨R,hR⟩:=Nm w9.heap.size;obtain⟨wA',h2⟩:=Nm (w9.alloc (.cells #[.slice jA m1 jC,.slice kA m2 kC,.slice lA m3 lC] 28));have gA:w9.grownBy wA' none:=by rw[h2];exact Ga w9 _ none
 have bA:=heap_alloc_new w9 (.cells #[.slice jA m1 jC,.slice kA m2 kC,.slice lA m3 lC] 28);rw[<-h2,<-hR]at bA;rw[<-h2,<-hR];have d0:=Kh bA;have b9:=Kh (zC c0.out gA);have a8:=Kh (HC.out.kept gA);obtain⟨p0,p1,p2⟩:=vS bA;clear gA bA h2 hR;obtain⟨wB,H1,gB,hB⟩:=qTD wA';have a9:=Kh H1;have b7:=Kh (zC b9.out gB);have a6:=Kh (qLS w9.heap.size wB.heap.size wB _ _ cQ cQ (a8.out.kept gB) hB);rw[show (decide (cQ.idx=cQ.idx) && decide (cQ.per=cQ.per) && decide (cQ.acc=cQ.acc))=true by simp]at a6;have c9:=Kh (zB d0.out gB);have c7:=Kh (a8.out.kept gB);clear H1 gB hB;go_wp2_with fail;rw[<-a9.out];refine a6.out.mono ?_;rintro e wC' ⟨rfl,gC⟩;have b6:=Kh (zC b7.out gC);have h8:=zB c9.out gC;have c8:=Kh h8;have a7:=Kh (c7.out.kept gC);obtain⟨p0,p1,p2⟩:=vS h8;clear gC h8;go_wp2_with fail;have H0:=kJ w9.heap.size wC' _ cQ ⟨#[97,97,97,97]⟩ a7.out (by unfold maxLen;decide);rw[qKV.1]at H0;refine H0.mono ?_;rintro e wD' ⟨rfl,gD⟩;have b5:=Kh (zC b6.out gD);have a5:=zB c8.out gD;have c6:=Kh (a7.out.kept gD);obtain⟨p0,p1,p2⟩:=vS a5;clear gD a5 H0;go_wp2_with fail;have h9:=kJ w9.heap.size wD' _ cQ ⟨#[97,97]⟩ c6.out (by unfold maxLen;decide);rw[qKV.2]at h9;refine h9.mono ?_;rintro e wE' ⟨rfl,gE⟩;have b4:=Kh (zC b5.out gE);clear gE h9;go_wp2;go_ret;exact⟨rfl,b4.out⟩
end Go.Proofs.Ytobakifdllameaa
namespace Go.Proofs.Ytobakifdllameaa
open Go.RowKit
def emp (w:World):World:={ w with heap:=#[] }
theorem qCY {w w':World}{row:Option Nat}(h:w.grownBy w' row):(emp w).grownBy w' none :=
 ⟨h.os,h.tape,h.output,Nat.zero_le _,fun k hk=>absurd hk (by simp[emp])⟩
structure CdS (A B o tb ty:Nat)(wS:World)(rs:List RowS)(c:Array Value)(w:World):Prop where
 box:BoxS B (fun _=>False) o ty (emp wS) w rs c w
 tape:tN A w tb
 tlt:tb<wS.heap.size/\wS.heap.size<=B/\wS.heap.size<=o
 grown:wS.grownBy w (some tb)
section
variable {A B o tb ty:Nat} {wS w w':World} {rs:List RowS} {c:Array Value}
theorem CdS.grow (h:CdS A B o tb ty wS rs c w)(hg:w.grownBy w' none):CdS A B o tb ty wS rs c w' :=
 ⟨(h.box.grow hg).rebase,h.tape.kept hg (by simp),h.tlt,zH h.grown (wU hg)⟩
theorem CdS.next (h:CdS A B o tb ty wS rs c w)(hg:w.grownBy w' (some tb))(hT:tN A w' tb):CdS A B o tb ty wS rs c w':=by
 have ht:=h.tlt
 have h0:∀r∈rs,r.v.ownBlock≠some tb:=fun r hr e=>by
  have h1:=((h.box.own hr).lt tb e).1;rw[(h.box.typ r hr).1]at h1;omega
 refine⟨⟨h.box.mem.far hg h0,h.box.typ,zB h.box.box hg (fun e=>by have e:=Oj e;omega),fun h=>h,h.box.size,h.box.old,Nat.le_trans h.box.base hg.size,?_,xX.refl _ _,Nat.le_refl _⟩,hT,ht,zH h.grown hg⟩;exact qCY (zH h.grown hg)
theorem CdS.app (h:CdS A B o tb ty wS rs c w){j:Nat}{r:RowS}(hr:rs[j]?=some r){v':Value}{n':Nat}{us:List Value}(ho:w'.ownsRow r.base r.e r.sz v' n' (r.xs++us))(hg:w.grownBy w' r.v.ownBlock)(hm:jO w w' r.v v'):CdS A B o tb ty wS (rs.set j ⟨r.base,r.e,v',n',r.xs++us,r.sz⟩) c w':=by
 have ht:=h.tlt;have hB:=h.box.appAt hr ho hg hm
 have h0:∀k,r.v.ownBlock=some k->B<=k:=fun k hk=>by
  have h1:=((h.box.own (List.mem_of_getElem? hr)).lt k hk).1;rw[(h.box.typ r (List.mem_of_getElem? hr)).1]at h1;exact h1
 refine⟨hB.rebase,h.tape.kept hg (fun k e=>?_),ht,zC h.grown hg (fun k e=>Nat.le_trans ht.2.1 (h0 k e))⟩;have h1:=h0 k e;have h2:=h.tape.ge;omega
theorem CdS.set (h:CdS A B o tb ty wS rs c w)(f:Nat)(u:Value):CdS A B o tb ty wS rs (c.setIfInBounds f u) (w.setCell ⟨o,f,none⟩ u):=by
 have ht:=h.tlt;have hg:=zF w ⟨o,f,none⟩ u;refine⟨(h.box.set f u).rebase,h.tape.kept hg (fun k e=>?_),ht,yM h.grown hg (by show _<=o;omega)⟩;have e:o=k:=Oj e;have h2:=h.tape.ge;omega
end
open Go.Maps
theorem qRK {Q:Exit->Act->World->Prop}{v1 v2 v3 v4 v6 v7 v8 v9 d7 d8 d9 c0 e1 e2 e3 e4 e5 e6 e7 e9 d0 d1 d2 d3 d4 d5 d6 c2 c3 c4 c5 c6 c7 c8 c9 b0 b1 b2 b3 b4 b5 b6 b7 b8 b9 a0 a1 a2 a3 a4 a5 a6 a7 a8:Value}{A B o tb m q cI cP cA:Nat}{sI sP sA:Option Addr}{is ps:List Int}{bs:List Bool}{wS w:World}(h:CdS A B o tb 28 wS [⟨B,3,.slice sI m cI,m,ints is,1⟩,⟨B,3,.slice sP m cP,m,ints ps,1⟩,⟨B,4,.slice sA q cA,q,bls bs,1⟩] #[.slice sI m cI,.slice sP m cP,.slice sA q cA] w)(hm:m<=100)(a9:∀(z14 z15 z16 z17 z18 z19 z20 z21 z22 z23 z24 z25 z26 z27 z28:Value) (sI2 sP2:Option Addr) (cI2 cP2:Nat) (y z:Int) (w':World),0<=y->y<3->0<=z->z<3->CdS A B o tb 28 wS [⟨B,3,.slice sI2 (m+1) cI2,(m+1),ints (is++[y]),1⟩,⟨B,3,.slice sP2 (m+1) cP2,(m+1),ints (ps++[1+z]),1⟩,⟨B,4,.slice sA q cA,q,bls bs,1⟩] #[.slice sI2 (m+1) cI2,.slice sP2 (m+1) cP2,.slice sA q cA] w'->Q .normal ⟨((Value.pointer (some ⟨tb,0,none⟩))::v1::v2::v3::v4::(Value.pointer (some ⟨o,0,none⟩))::v6::v7::v8::v9::d7::d8::d9::c0::z14::z15::z16::z17::z18::z19::z20::z21::z22::z23::z24::z25::z26::z27::z28::c2::c3::c4::c5::c6::c7::c8::c9::b0::b1::b2::b3::b4::b5::b6::b7::b8::b9::a0::a1::a2::a3::a4::a5::a6::a7::a8::[]).toArray,[]⟩ w'):Code.wp Try.prog (reg Try.f8 6) Q ⟨((Value.pointer (some ⟨tb,0,none⟩))::v1::v2::v3::v4::(Value.pointer (some ⟨o,0,none⟩))::v6::v7::v8::v9::d7::d8::d9::c0::e1::e2::e3::e4::e5::e6::e7::e9::d0::d1::d2::d3::d4::d5::d6::c2::c3::c4::c5::c6::c7::c8::c9::b0::b1::b2::b3::b4::b5::b6::b7::b8::b9::a0::a1::a2::a3::a4::a5::a6::a7::a8::[]).toArray,[]⟩ w:=by
 conv=>arg 2;whnf
 obtain⟨w7,H1⟩:=Nm w.drew;have H5:w.grownBy w7 none:=by rw[H1];exact zU w none
 have H8:=Kh H1;have H:=Kh (h.grow H5);have HE:=Kh a9
 have C:Hid (w7.cell? ⟨o,0,none⟩=some (.slice sI m cI)/\w7.cell? ⟨o,1,none⟩=some (.slice sP m cP)):=Kh (by
  have q:=vS H.out.box.box
  exact⟨q.1,q.2.1⟩)
 clear H1 H5 h a9;refine wp_region_noPanic ?_;refine yN (G:=wF 14 (fun _=>True) (fun W=>W.cell? ⟨o,0,none⟩=some (.slice sI m cI)/\W.cell? ⟨o,1,none⟩=some (.slice sP m cP))) (by kernel_rfl) ?_;rw[<-H8.out];refine xD 0 ⟨trivial,fun _=>C.out⟩ ?_;refine xD 1 ⟨trivial,fun _=>C.out⟩ ?_;refine xD 2 ⟨trivial,fun _=>C.out⟩ ?_;refine xD 6 ⟨trivial,fun _=>C.out⟩ ?_;refine xD 7 ⟨trivial,fun _=>C.out⟩ ?_;refine zO 8 ⟨trivial,fun _=>C.out⟩ ?_;refine oneG (i:=3) (by kernel_rfl) rfl (fun K hK=>?_);go_simp
 go_at_call 7
 refine(kB A tb w7 3 (by omega) H.out.tape).mono ?_;rintro e w8 ⟨y,rfl,H7,H0,h8,h7⟩;replace H0:=H0 (by omega);have H:=Kh (H.out.next h7 h8);clear h8 h7
 have C:Hid (w8.cell? ⟨o,0,none⟩=some (.slice sI m cI)/\w8.cell? ⟨o,1,none⟩=some (.slice sP m cP)):=Kh (by
  have q:=vS H.out.box.box
  exact⟨q.1,q.2.1⟩)
 refine hK.out _ _ ⟨trivial,fun _=>C.out⟩ ?_;clear hK K
 try simp only[Act.put,sPd,sPe,sPf,sPa,sPb,sPc]
 have h4:=Ga w8 (.cells #[.int .i64 y] 3) none;have h2:=heap_alloc_new w8 (.cells #[.int .i64 y] 3);obtain⟨X1,hX⟩:=Nm w8.heap.size;obtain⟨w9,h3⟩:=Nm (w8.alloc (.cells #[.int .i64 y] 3));rw[<-h3]at h4 h2;rw[<-hX]at h2;have H3:=Kh h3;have H2:=Kh hX;have H:=Kh (H.out.grow h4);have H4:=Kh h2
 have C:Hid (w9.cell? ⟨o,0,none⟩=some (.slice sI m cI)/\w9.cell? ⟨o,1,none⟩=some (.slice sP m cP)):=Kh (by
  have q:=vS H.out.box.box
  exact⟨q.1,q.2.1⟩)
 clear h4 h2 hX h3;refine oneG (i:=4) (by kernel_rfl) rfl (fun K hK=>?_);go_simp;rw[<-H3.out,<-H2.out];refine hK.out _ _ ⟨trivial,fun _=>C.out⟩ ?_;clear hK K
 try simp only[Act.put,sPd,sPe,sPf,sPa,sPb,sPc]
 have h1:=H.out.box.own (r:=⟨B,3,.slice sI m cI,m,ints is,1⟩) (by simp);simp only at h1;have hz:=H.out.box.base;refine oneG (i:=5) (by kernel_rfl) rfl (fun K hK=>?_);refine qK rfl (.tmp 15) (.tmp 18) 22 rfl yJ.toN B (.slice sI m cI) m _ rfl h1 [.int .i64 y] X1 rfl (0,0) rfl H4.out ?z1 ?z2 ?z3 hz ?_
 case z1=>intro v hv;simp only[List.mem_cons,List.not_mem_nil,or_false]at hv;subst hv;rfl
 case z2=>unfold maxLen;omega
 case z3=>omega
 intro sI2 cI2 w10 h0 h6 h5;have H:=Kh (H.out.app (j:=0) rfl h0 h6 h5);clear h1 h0 h6 h5 hz
 have C:Hid (w10.cell? ⟨o,0,none⟩=some (.slice sI m cI)/\w10.cell? ⟨o,1,none⟩=some (.slice sP m cP)):=Kh (by
  have q:=vS H.out.box.box
  exact⟨q.1,q.2.1⟩)
 refine hK.out _ _ ⟨trivial,fun _=>C.out⟩ ?_;clear hK K
 try simp only[Act.put,sPd,sPe,sPf,sPa,sPb,sPc]
 refine xD 13 ⟨trivial,fun _=>C.out⟩ ?_;refine oneG (i:=9) (by kernel_rfl) rfl (fun K hK=>?_);go_simp
 go_at_call 7
 refine(kB A tb w10 3 (by omega) H.out.tape).mono ?_;rintro e w11 ⟨z,rfl,H6,h9,h8,h7⟩;replace h9:=h9 (by omega);have H:=Kh (H.out.next h7 h8);clear h8 h7
 have C:Hid (w11.cell? ⟨o,0,none⟩=some (.slice sI m cI)/\w11.cell? ⟨o,1,none⟩=some (.slice sP m cP)):=Kh (by
  have q:=vS H.out.box.box
  exact⟨q.1,q.2.1⟩)
 refine hK.out _ _ ⟨trivial,fun _=>C.out⟩ ?_;clear hK K
 try simp only[Act.put,sPd,sPe,sPf,sPa,sPb,sPc]
 have e8:IntKind.i64.wrap (1+z)=1+z:=wG (by omega);refine zO 10 ⟨trivial,fun _=>C.out⟩ ?_;have h4:=Ga w11 (.cells #[.int .i64 (1+z)] 3) none;have h2:=heap_alloc_new w11 (.cells #[.int .i64 (1+z)] 3);obtain⟨X2,hX⟩:=Nm w11.heap.size;obtain⟨w12,h3⟩:=Nm (w11.alloc (.cells #[.int .i64 (1+z)] 3));rw[<-h3]at h4 h2;rw[<-hX]at h2;have H3:=Kh h3;have H2:=Kh hX;have H:=Kh (H.out.grow h4);have H4:=Kh h2
 have C:Hid (w12.cell? ⟨o,0,none⟩=some (.slice sI m cI)/\w12.cell? ⟨o,1,none⟩=some (.slice sP m cP)):=Kh (by
  have q:=vS H.out.box.box
  exact⟨q.1,q.2.1⟩)
 clear h4 h2 hX h3;refine oneG (i:=11) (by kernel_rfl) rfl (fun K hK=>?_);go_simp;rw[<-H3.out,<-H2.out];refine hK.out _ _ ⟨trivial,fun _=>C.out⟩ ?_;clear hK K
 try simp only[Act.put,sPd,sPe,sPf,sPa,sPb,sPc]
 have h1:=H.out.box.own (r:=⟨B,3,.slice sP m cP,m,ints ps,1⟩) (by simp);simp only at h1;have hz:=H.out.box.base;refine oneG (i:=12) (by kernel_rfl) rfl (fun K hK=>?_);refine qK rfl (.tmp 21) (.tmp 25) 22 rfl yJ.toN B (.slice sP m cP) m _ rfl h1 [.int .i64 (1+z)] X2 rfl (0,0) rfl H4.out ?z1 ?z2 ?z3 hz ?_
 case z1=>intro v hv;simp only[List.mem_cons,List.not_mem_nil,or_false]at hv;subst hv;rfl
 case z2=>unfold maxLen;omega
 case z3=>omega
 intro sP2 cP2 w13 h0 h6 h5;have H:=Kh (H.out.app (j:=1) rfl h0 h6 h5);clear h1 h0 h6 h5 hz
 have C:Hid (w13.cell? ⟨o,0,none⟩=some (.slice sI m cI)/\w13.cell? ⟨o,1,none⟩=some (.slice sP m cP)):=Kh (by
  have q:=vS H.out.box.box
  exact⟨q.1,q.2.1⟩)
 refine hK.out _ _ ⟨trivial,fun _=>C.out⟩ ?_;clear hK K
 try simp only[Act.put,sPd,sPe,sPf,sPa,sPb,sPc]
 have c1:=C.out;have f1:=zA H.out.box.box 0;have cc:=(vS H.out.box.box).1;have H:=Kh (H.out.set 0 (.slice sI2 (m+1) cI2));refine oneG (i:=14) (by kernel_rfl) rfl (fun K hK=>?_);go_simp;refine hK.out _ _ ⟨trivial,fun h=>by simp at h⟩ ?_;clear hK K
 try simp only[Act.put,sPd,sPe,sPf,sPa,sPb,sPc]
 clear c1 f1 cc;refine oneG (i:=15) (by kernel_rfl) rfl (fun K hK=>?_);go_simp;refine hK.out _ _ ⟨trivial,fun h=>by simp at h⟩ ?_;clear hK K
 try simp only[Act.put,sPd,sPe,sPf,sPa,sPb,sPc]
 have c1:=(vS H.out.box.box);have f1:=zA H.out.box.box 1;have cc:=(vS H.out.box.box).2.1;have H:=Kh (H.out.set 1 (.slice sP2 (m+1) cP2));refine oneG (i:=16) (by kernel_rfl) rfl (fun K hK=>?_);go_simp;refine hK.out _ _ ⟨trivial,fun h=>by simp at h⟩ ?_;clear hK K
 try simp only[Act.put,sPd,sPe,sPf,sPa,sPb,sPc]
 clear c1 f1 cc;have H:=H.out;simp only[List.set_cons_zero,List.set_cons_succ,List.setIfInBounds_toArray]at H;rw[show ints is++[Value.int .i64 y]=ints (is++[y]) by simp[ints],show ints ps++[Value.int .i64 (1+z)]=ints (ps++[1+z]) by simp[ints]]at H;refine rE (by kernel_rfl) ?_ _;refine NoPanic.normal ?_;exact HE.out _ _ _ _ _ _ _ _ _ _ _ _ _ _ _  sI2 sP2 cI2 cP2 y z _ H7 H0 H6 h9 H
theorem qOJ {Q:Exit->Act->World->Prop}{v1 v2 v3 v4 v6 v7 v8 v9 d0 d1 d2 d3 d4 d5 d6 d7 d8 d9 c0 c2 c3 c4 c5 c6 c7 c8 c9 b0 b1 b2 b3 b4 b5 b6 b7 b8 b9 a0 a1 a2 a3 a4 a5 a6 a7 e2 e3 e4 e5 e6 e7 e8 e9 a8:Value}{A B o tb m q cI cP cA:Nat}{sI sP sA:Option Addr}{is ps:List Int}{bs:List Bool}{wS w:World}(h:CdS A B o tb 28 wS [⟨B,3,.slice sI m cI,m,ints is,1⟩,⟨B,3,.slice sP m cP,m,ints ps,1⟩,⟨B,4,.slice sA q cA,q,bls bs,1⟩] #[.slice sI m cI,.slice sP m cP,.slice sA q cA] w)(hq:q<=4000)(a9:∀(z47 z48 z49 z50 z51 z52 z53 z54:Value) (sA2:Option Addr) (cA2:Nat) (b:Bool) (w':World),CdS A B o tb 28 wS [⟨B,3,.slice sI m cI,m,ints is,1⟩,⟨B,3,.slice sP m cP,m,ints ps,1⟩,⟨B,4,.slice sA2 (q+1) cA2,(q+1),bls (bs++[b]),1⟩] #[.slice sI m cI,.slice sP m cP,.slice sA2 (q+1) cA2] w'->Q .normal ⟨((Value.pointer (some ⟨tb,0,none⟩))::v1::v2::v3::v4::(Value.pointer (some ⟨o,0,none⟩))::v6::v7::v8::v9::d0::d1::d2::d3::d4::d5::d6::d7::d8::d9::c0::c2::c3::c4::c5::c6::c7::c8::c9::b0::b1::b2::b3::b4::b5::b6::b7::b8::b9::a0::a1::a2::a3::a4::a5::a6::a7::z47::z48::z49::z50::z51::z52::z53::z54::a8::[]).toArray,[]⟩ w'):Code.wp Try.prog (reg Try.f8 11) Q ⟨((Value.pointer (some ⟨tb,0,none⟩))::v1::v2::v3::v4::(Value.pointer (some ⟨o,0,none⟩))::v6::v7::v8::v9::d0::d1::d2::d3::d4::d5::d6::d7::d8::d9::c0::c2::c3::c4::c5::c6::c7::c8::c9::b0::b1::b2::b3::b4::b5::b6::b7::b8::b9::a0::a1::a2::a3::a4::a5::a6::a7::e2::e3::e4::e5::e6::e7::e8::e9::a8::[]).toArray,[]⟩ w:=by
 conv=>arg 2;whnf
 obtain⟨w7,h4⟩:=Nm w.drew;have H0:w.grownBy w7 none:=by rw[h4];exact zU w none
 have H4:=Kh h4;have H:=Kh (h.grow H0);have HE:=Kh a9
 have C:Hid (w7.cell? ⟨o,2,none⟩=some (.slice sA q cA)):=Kh (by
  have q:=vS H.out.box.box
  exact q.2.2)
 clear h4 H0 h a9;refine wp_region_noPanic ?_;refine yN (G:=wF 8 (fun _=>True) (fun W=>W.cell? ⟨o,2,none⟩=some (.slice sA q cA))) (by kernel_rfl) ?_;rw[<-H4.out];refine xD 0 ⟨trivial,fun _=>C.out⟩ ?_;refine xD 1 ⟨trivial,fun _=>C.out⟩ ?_;refine xD 2 ⟨trivial,fun _=>C.out⟩ ?_;refine oneG (i:=3) (by kernel_rfl) rfl (fun K hK=>?_);go_simp
 go_at_call 7
 refine(kB A tb w7 2 (by omega) H.out.tape).mono ?_;rintro e w8 ⟨y,rfl,H6,h6,H1,h9⟩;replace h6:=h6 (by omega);have H:=Kh (H.out.next h9 H1);clear H1 h9
 have C:Hid (w8.cell? ⟨o,2,none⟩=some (.slice sA q cA)):=Kh (by
  have q:=vS H.out.box.box
  exact q.2.2)
 refine hK.out _ _ ⟨trivial,fun _=>C.out⟩ ?_;clear hK K
 try simp only[Act.put,sPd,sPe,sPf,sPa,sPb,sPc]
 obtain⟨b,hb⟩:=Nm ((y == 1));have H8:(y == 1)=b:=hb.symm;have H7:decide (y=1)=b:=by rw[hb];rfl
 clear hb;refine xD 4 ⟨trivial,fun _=>C.out⟩ ?_;have h5:=Ga w8 (.cells #[.bool b] 4) none;have h2:=heap_alloc_new w8 (.cells #[.bool b] 4);obtain⟨X1,hX⟩:=Nm w8.heap.size;obtain⟨w9,h3⟩:=Nm (w8.alloc (.cells #[.bool b] 4));rw[<-h3]at h5 h2;rw[<-hX]at h2;have H3:=Kh h3;have H2:=Kh hX;have H:=Kh (H.out.grow h5);have H5:=Kh h2
 have C:Hid (w9.cell? ⟨o,2,none⟩=some (.slice sA q cA)):=Kh (by
  have q:=vS H.out.box.box
  exact q.2.2)
 clear h5 h2 hX h3;refine oneG (i:=5) (by kernel_rfl) rfl (fun K hK=>?_);go_simp;rw[<-H3.out,<-H2.out];refine hK.out _ _ ⟨trivial,fun _=>C.out⟩ ?_;clear hK K
 try simp only[Act.put,sPd,sPe,sPf,sPa,sPb,sPc]
 have h1:=H.out.box.own (r:=⟨B,4,.slice sA q cA,q,bls bs,1⟩) (by simp);simp only at h1;have hz:=H.out.box.base;refine oneG (i:=6) (by kernel_rfl) rfl (fun K hK=>?_);refine qK rfl (.tmp 48) (.tmp 52) 26 rfl wX.toN B (.slice sA q cA) q _ rfl h1 [.bool b] X1 rfl (0,0) rfl H5.out ?z1 ?z2 ?z3 hz ?_
 case z1=>intro v hv;simp only[List.mem_cons,List.not_mem_nil,or_false]at hv;subst hv;rfl
 case z2=>unfold maxLen;omega
 case z3=>omega
 intro sA2 cA2 w10 h0 h8 h7;have H:=Kh (H.out.app (j:=2) rfl h0 h8 h7);clear h1 h0 h8 h7 hz
 have C:Hid (w10.cell? ⟨o,2,none⟩=some (.slice sA q cA)):=Kh (by
  have q:=vS H.out.box.box
  exact q.2.2)
 refine hK.out _ _ ⟨trivial,fun _=>C.out⟩ ?_;clear hK K
 try simp only[Act.put,sPd,sPe,sPf,sPa,sPb,sPc]
 refine xD 7 ⟨trivial,fun _=>C.out⟩ ?_;have c1:=C.out;have f1:=zA H.out.box.box 2;have cc:=(vS H.out.box.box).2.2;have H:=Kh (H.out.set 2 (.slice sA2 (q+1) cA2));refine oneG (i:=8) (by kernel_rfl) rfl (fun K hK=>?_);go_simp;refine hK.out _ _ ⟨trivial,fun h=>by simp at h⟩ ?_;clear hK K
 try simp only[Act.put,sPd,sPe,sPf,sPa,sPb,sPc]
 clear c1 f1 cc;have H:=H.out;simp only[List.set_cons_zero,List.set_cons_succ,List.setIfInBounds_toArray]at H;rw[show bls bs++[Value.bool b]=bls (bs++[b]) by simp[bls]]at H;refine rE (by kernel_rfl) ?_ _;refine NoPanic.normal ?_;exact HE.out _ _ _ _ _ _ _ _  sA2 cA2 b _ H
theorem bS {is ps is' ps':List Int}:∀ {a:Nat},(∀b,b<a->is.getD b 0=is'.getD b 0/\ps.getD b 0=ps'.getD b 0)->vQ is ps a=vQ is' ps' a
 | 0,_=>rfl
 | a+1,h=>by
  rw[vQ,vQ,bS (fun b hb=>h b (by omega)),(h a (by omega)).1,(h a (by omega)).2]
theorem kH {l:List Int}{x:Int}{b:Nat}(hb:b<l.length):(l++[x]).getD b 0=l.getD b 0:=by
 rw[List.getD_eq_getElem?_getD,List.getElem?_append_left hb,<-List.getD_eq_getElem?_getD]
theorem pE {l:List Int}{x:Int}{b:Nat}(hb:b=l.length):(l++[x]).getD b 0=x:=by
 subst hb;simp[List.getD_eq_getElem?_getD]
structure DealC (is ps:List Int)(a c:Nat):Prop where
 l1:is.length=a
 l2:ps.length=a
 comb:vQ is ps a=some c
 le:c<=5 ^ a
 bd:∀b,b<a->(0<=is.getD b 0/\is.getD b 0<3)/\1<=ps.getD b 0/\ps.getD b 0<=3
theorem DealC.add {is ps:List Int}{a c y z:Nat}(h:DealC is ps a c)(ha:a<3)(hy:y<3)(hz:1<=z/\z<=3):DealC (is++[(y:Int)]) (ps++[(z:Int)]) (a+1) (c*(y+z)) where
 l1:=by simp[h.l1]
 l2:=by simp[h.l2]
 le:=by rw[Nat.pow_succ];exact Nat.mul_le_mul h.le (by omega)
 comb:=by
  have h0:c*(y+z)<=5 ^ a*5:=Nat.mul_le_mul h.le (by omega);rw[<-Nat.pow_succ]at h0;have hp:5 ^ (a+1)<=5 ^ 3:=Nat.pow_le_pow_right (by omega) (by omega)
  have hc:vQ (is++[(y:Int)]) (ps++[(z:Int)]) a=some c:=by
   rw[bS (is':=is) (ps':=ps) (fun b hb=>⟨kH (by rw[h.l1];exact hb),kH (by rw[h.l2];exact hb)⟩)];exact h.comb
  rw[gK hc (pE h.l1.symm) (pE h.l2.symm),if_neg (by omega)]
 bd:=fun b hb=>by
  rcases Nat.lt_or_ge b a with h1|h1
  ·rw[kH (by rw[h.l1];exact h1),kH (by rw[h.l2];exact h1)];exact h.bd b h1
  ·have e:b=a:=by omega
   rw[pE (by rw[h.l1];exact e),pE (by rw[h.l2];exact e)];omega
theorem DealC.ok {is ps:List Int}{k c:Nat}{bs:List Bool}(h:DealC is ps k c)(h1:1<=k)(h3:k<=3)(hb:bs.length=c):CntOk ⟨is,ps,bs⟩ :=
 ⟨by rw[h.l1];exact h1,by rw[h.l1];omega,by rw[h.l1,h.l2],fun b hb=>by have:=h.bd b (by rw[<-h.l1];exact hb);exact⟨this.1.1,this.2.1⟩,by
  show vQ is ps is.length=some bs.length
  rw[h.l1,hb];exact h.comb⟩
def qPT (A tb k:Nat)(w:World)(e:Ending)(w':World):Prop :=
 ∃c v,e=.returned v/\iQ w'.heap.size w' v c/\CntOk c/\(c.idx.length=k/\c.acc.length<=5 ^ k)/\tN A w' tb/\w.grownBy w' (some tb)
theorem qIC (A tb k:Nat)(w:World)(h1:1<=k)(h3:k<=3)(hT:tN A w tb):Calls Try.prog 8 #[.pointer (some ⟨tb,0,none⟩),.int .i64 (k:Int)] w (qPT A tb k w):=by
 have H7:=hT.lt;obtain⟨w1,h6⟩:=Nm (w.alloc (.cells #[.slice none 0 0,.slice none 0 0,.slice none 0 0] 28));have g1:w.grownBy w1 none:=by rw[h6];exact Ga w _ none
 have n1:=heap_alloc_new w (.cells #[.slice none 0 0,.slice none 0 0,.slice none 0 0] 28);have H1:w1.heap.size=w.heap.size+1:=by rw[h6];simp
 rw[<-h6]at n1;obtain⟨w2,h9⟩:=Nm (w1.alloc (.cells #[.slice none 0 0,.slice none 0 0,.slice none 0 0] 28));have g2:w1.grownBy w2 none:=by rw[h9];exact Ga w1 _ none
 have n2:=heap_alloc_new w1 (.cells #[.slice none 0 0,.slice none 0 0,.slice none 0 0] 28);obtain⟨R,hR⟩:=Nm w.heap.size;obtain⟨o,ho⟩:=Nm w1.heap.size;rw[<-h9,<-ho]at n2;rw[<-hR]at n1;have a0:o=R+1:=by omega
 have b0:BoxS w2.heap.size (fun _=>False) o 28 (emp w1) w2 [] #[.slice none 0 0,.slice none 0 0,.slice none 0 0] w2:=⟨⟨fun r hr=>by simp at hr,List.Pairwise.nil,fun r hr=>by simp at hr,fun k hk=>hk.elim⟩,fun r hr=>by simp at hr,n2,fun h=>h,Nat.zero_le _,Nat.zero_le _,Nat.le_refl _,qCY g2,xX.refl _ _,Nat.le_refl _⟩;obtain⟨B,hB⟩:=Nm w2.heap.size;have a9:tN A w2 tb:=(hT.kept g1 (by simp)).kept g2 (by simp)
 have hS:CdS A B o tb 28 w1 [⟨B,3,.slice none 0 0,0,ints [],1⟩,⟨B,3,.slice none 0 0,0,ints [],1⟩,⟨B,4,.slice none 0 0,0,bls [],1⟩] #[.slice none 0 0,.slice none 0 0,.slice none 0 0] w2:=by
  rw[hB];exact⟨((b0.nil (e:=3) (sz:=1) (by decide)).nil (e:=3) (sz:=1) (by decide)).nil (e:=4) (sz:=1) (by decide),a9,⟨by omega,g2.size,by omega⟩,wU g2⟩
 have c6:Hid (∀W:World,w1.grownBy W (some tb)->W.heap[R]?=some (.cells #[.slice none 0 0,.slice none 0 0,.slice none 0 0] 28 (0,0))):=Kh (fun W hg=>zB n1 hg (fun e=>by have e:=Oj e;omega));obtain⟨c4,c3,b1,d7,c8,HS⟩:=K6 h6 h9 hR ho g1 hS;have c5:=Kh H7;have d1:=Kh hT.ge;have c7:=Kh a0;clear a0 h6 h9 hR ho g1 g2 n1 n2 H1 b0 hB a9 hS hT H7;go_enter Try.func8,Try.ntmps8;go_upto_region 2 with fail;rw[<-c4.out,<-b1.out,<-c3.out,<-c7.out];go_wp2
 go_loopg [6,7] k (fun gh a6 a7 wr=>∃(a c:Nat) (is ps:List Int) (sI sP:Option Addr) (cI cP:Nat),gh+a=k/\a7=.int .i64 a/\a6=.int .i64 (c:Int)/\DealC is ps a c/\CdS A B o tb 28 w1 [⟨B,3,.slice sI a cI,a,ints is,1⟩,⟨B,3,.slice sP a cP,a,ints ps,1⟩,⟨B,4,.slice none 0 0,0,bls [],1⟩] #[.slice sI a cI,.slice sP a cP,.slice none 0 0] wr)
 case atStart=>exact⟨0,1,[],[],none,none,0,0,rfl,rfl,rfl,⟨rfl,rfl,rfl,by decide,fun b hb=>by omega⟩,HS.out⟩
 clear HS;obtain⟨a,c,is,ps,sI,sP,cI,cP,a2,rfl,rfl,hd,h7⟩:=hrel;obtain⟨H0,HD,h0⟩:=K3 a2 hd h7;clear a2 hd h7;by_cases ha:a<k
 ·have c1:(a:Int)<k:=by omega
  go_upto_region 6 with fail;refine qRK h0.out (by omega) ?_;intro z14 z15 z16 z17 z18 z19 z20 z21 z22 z23 z24 z25 z26 z27 z28 sI2 sP2 cI2 cP2 y z w8 b5 b4 b3 H1 h8;obtain⟨yn,rfl⟩:∃n:Nat,y=(n:Int):=⟨y.toNat,by omega⟩;obtain⟨zn,ez⟩:∃n:Nat,1+z=(n:Int):=⟨(1+z).toNat,by omega⟩;rw[ez]at h8;have hD:=HD.out.add (y:=yn) (z:=zn) (by omega) (by omega) (by omega);have H8:=Kh h8;have d0:=Kh hD;obtain⟨p0,p1,p2⟩:=vS h8.box.box;have H4:=h8.box.own (r:=⟨B,3,.slice sI2 (a+1) cI2,a+1,ints (is++[(yn:Int)]),1⟩) (by simp);have H3:=h8.box.own (r:=⟨B,3,.slice sP2 (a+1) cP2,a+1,ints (ps++[(zn:Int)]),1⟩) (by simp);simp only at H4 H3;obtain⟨ib,io,ic,ei,_,i1,i2,ir⟩:=(Row.of_owns H4).some_ (by rw[zN,List.length_append,HD.out.l1];simp);obtain⟨pb,po,pc,ep,_,p1',p2',pr⟩:=(Row.of_owns H3).some_ (by rw[zN,List.length_append,HD.out.l2];simp);rw[zN,List.length_append,List.length_singleton,HD.out.l1]at ei i1;rw[zN,List.length_append,List.length_singleton,HD.out.l2]at ep p1';simp only[Value.slice.injEq,true_and]at ei ep;obtain⟨rfl,rfl⟩:=ei;obtain⟨rfl,rfl⟩:=ep;have ci:=ir.int a (by rw[List.length_append,HD.out.l1];simp);have cp:=pr.int a (by rw[List.length_append,HD.out.l2];simp);rw[pE HD.out.l1.symm]at ci;rw[pE HD.out.l2.symm]at cp;obtain⟨s,hs⟩:=Nm (yn+zn);rw[<-hs]at hD;have a4:c<=2000:=pZ HD.out.comb;have e1:IntKind.i64.wrap ((yn:Int)+(zn:Int))=(s:Int):=by rw[hs];exact wG (by omega)
  obtain⟨e2,e3,-⟩:=fU (c:=c) (r:=s) a4 (by omega);obtain⟨d,a3⟩:=Nm (c*s);rw[<-a3]at hD e2;have c9:=Kh hD;have d5:(a:Int)<((a+1:Nat):Int):=(by omega);unfold maxLen at i2 p2';clear e3 a3 hs hD d0 H4 H3 ir pr h8 b5 b4 b3 H1 ez p2;go_wp2
  go_quiet (fail)
  clear e1 e2;go_wp2;go_roundg (k-(a+1))
  case measure=>have:=H0.out;omega
  exact⟨a+1,d,_,_,some ⟨ib,io,none⟩,some ⟨pb,po,none⟩,cI2,cP2,by have:=H0.out;omega,by go_num,by go_num,c9.out,H8.out.grow (zT _ _ none)⟩
 have c0:k=a:=by have:=H0.out;omega
 have c1:¬(a:Int)<k:=(by omega);subst c0;clear H0;go_wp2
 go_loopg [8] c (fun gh a8 wx=>∃(q:Nat) (bs:List Bool) (sA:Option Addr) (cA:Nat),gh+q=c/\a8=.int .i64 q/\bs.length=q/\CdS A B o tb 28 w1 [⟨B,3,.slice sI k cI,k,ints is,1⟩,⟨B,3,.slice sP k cP,k,ints ps,1⟩,⟨B,4,.slice sA q cA,q,bls bs,1⟩] #[.slice sI k cI,.slice sP k cP,.slice sA q cA] wx)
 case atStart=>exact⟨0,[],none,0,rfl,by go_num,rfl,h0.out⟩
 clear h0;obtain⟨q,bs,sA,cA,a1,rfl,a5,h7⟩:=hrel;obtain⟨H5,H6,h0⟩:=K3 a1 a5 h7;have a4:c<=2000:=pZ HD.out.comb;clear a1 a5 h7;by_cases hq:q<c
 ·have b9:(q:Int)<c:=by omega
  go_upto_region 11 with fail;refine qOJ h0.out (by omega) ?_;intro z47 z48 z49 z50 z51 z52 z53 z54 sA2 cA2 b w8 h8;have H8:=Kh h8;clear h8 h0;go_wp2;go_roundg (c-(q+1))
  case measure=>have:=H5.out;omega
  exact⟨q+1,_,_,_,by have:=H5.out;omega,by go_num,by simp[H6.out],H8.out⟩
 have H9:c=q:=by have:=H5.out;omega
 have b9:¬(q:Int)<c:=(by omega);have b2:=Kh H9;obtain⟨p0,p1,p2⟩:=vS h0.out.box.box;have h5:=Kh (c6.out _ h0.out.grown);obtain⟨r0,r1,r2⟩:=vS h5.out;have f0:=zA h5.out 0;have f1:=zA h5.out 1;have f2:=zA h5.out 2;clear H9;go_wp2;refine bodyPost_ret (v:=.agg #[.slice sI k cI,.slice sP k cP,.slice sA q cA]) (by simp[results,Try.results8,go_sem,r0,r1,r2]) rfl ?_;obtain⟨d3,h4⟩:=dF h5.out (.slice sI k cI) (.slice sP k cP) (.slice sA q cA)
 have H2:∀e',e'≠28->∀j,(some R:Option Nat)=some j->wr.heap.size<=j\/xG wr e' j:=fun e' he j hj=>by
  have hj:=Oj hj;subst hj;exact .inr ⟨_,_,_,h5.out,fun e1=>he e1.symm⟩
 have hz:=h4.size;have h1:=h0.out.box.own (r:=⟨B,3,.slice sI k cI,k,ints is,1⟩) (by simp);have h2:=h0.out.box.own (r:=⟨B,3,.slice sP k cP,k,ints ps,1⟩) (by simp);have c2:=h0.out.box.own (r:=⟨B,4,.slice sA q cA,q,bls bs,1⟩) (by simp);have b8:=(((RowT.of_owns h1).kept h4 (H2 3 (by decide))).mono hz).row;have b7:=(((RowT.of_owns h2).kept h4 (H2 3 (by decide))).mono hz).row;have b6:=(((RowT.of_owns c2).kept h4 (H2 4 (by decide))).mono hz).row;have d2:=c5.out;have d4:=b1.out;have d6:=d1.out;exact⟨⟨is,ps,bs⟩,_,rfl,⟨_,_,_,rfl,b8,b7,b6⟩,HD.out.ok (by omega) (by omega) (by rw[H6.out,b2.out]),⟨HD.out.l1,by rw[show bs.length=c by rw[H6.out,b2.out]];exact HD.out.le⟩,h0.out.tape.kept h4 (fun j e=>by have e:R=j:=Oj e;omega),yM (zH (wU c8.out) h0.out.grown) h4 (by show _<=R;omega)⟩
theorem aB {a9:Int}{l:List Int}(h:∀n∈l,qNI a9 n)(h1:1<=a9)(h6:a9<=6)(hl:l.length<=2048):xN (strOfNums l) a9=true:=by
 unfold xN;rw[Bool.and_eq_true,decide_eq_true_eq,strOfNums_data,List.all_eq_true];refine⟨⟨h1,h6,by rw[strOfNums_size];exact hl⟩,fun c hc=>?_⟩;obtain⟨n,hn,rfl⟩:=List.mem_map.1 hc;have h:=h n hn;unfold qNI at h
 have:(UInt8.ofNat n.toNat).toNat=n.toNat:=by
  rw[UInt8.toNat_ofNat'];exact Nat.mod_eq_of_lt (by omega)
 simp only[mU,this,decide_eq_true_eq];omega
theorem qIJ {c:CntV}{z:Int}{m:DfaV}(h:CntOk c)(a9:c.acc.length<=512)(ho:qMK c z m):z=0/\m=minD (dfaC c) c.idx.length/\∃n,VD m n c.idx.length/\n<=512:=by
 have hN:=qEF (jJ h);rcases ho with ⟨_,⟨_,h1⟩|⟨_,_,h1⟩⟩|⟨rfl,rfl,_,h1⟩
 ·exact absurd (kY.2 h) h1
 ·omega
 exact⟨rfl,rfl,_,kV (jJ h),h1⟩
theorem qIP {c:CntV}{s:ByteArray}(h:CntOk c)(hs:xN s c.idx.length=true):acc (minD (dfaC c) c.idx.length) (st0 (minD (dfaC c) c.idx.length)) (yT s)=pK c s:=by
 rw[accC h (qI hs).1,iD (kY.2 h) hs]
theorem qDT {B:Nat}{w:World}{v:Value}{S:SynV}(h:iO B w v S):∃(t u x y z:Option Addr) (t1 t2 u1 u2 x1 x2 y1 y2 z1 z2:Nat),v=.agg #[.int .i64 S.k,.slice t t1 t2,.slice u u1 u2,.slice x x1 x2,.slice y y1 y2,.slice z z1 z2]:=by
 obtain⟨vT,vW,vI,vA,vP,rfl,h1,h2,h3,h4,h5⟩:=h;obtain⟨_,_,rfl⟩:=h1.tmat.mat.shape;obtain⟨_,_,rfl⟩:=h2.shape;obtain⟨_,_,rfl⟩:=h3.shape;obtain⟨_,_,rfl⟩:=h4.shape;obtain⟨_,_,rfl⟩:=h5.shape;exact⟨_,_,_,_,_,_,_,_,_,_,_,_,_,_,_,rfl⟩
theorem dC {B:Nat}{w:World}{v:Value}{c:CntV}(h:iQ B w v c):∃(t u x:Option Addr) (t1 t2 u1 u2 x1 x2:Nat),v=.agg #[.slice t t1 t2,.slice u u1 u2,.slice x x1 x2]:=by
 obtain⟨vi,vp,va,rfl,h1,h2,h3⟩:=h;obtain⟨_,_,rfl⟩:=h1.shape;obtain⟨_,_,rfl⟩:=h2.shape;obtain⟨_,_,rfl⟩:=h3.shape;exact⟨_,_,_,_,_,_,_,_,_,rfl⟩
theorem qIA {w:World}{f nx:Value}{d:DfaV}(h:DfaT w f nx d):∃(t u:Option Addr) (t1 t2 u1 u2:Nat),f=.slice t t1 t2/\nx=.slice u u1 u2:=by
 obtain⟨hs,h1,h2,_⟩:=h;obtain⟨_,_,rfl⟩:=h1.shape;obtain⟨_,_,rfl⟩:=h2.shape;exact⟨_,_,_,_,_,_,rfl,rfl⟩
theorem countingAgrees_walk (w:World)(v0 v1:Value)(z0 z1:List Int)(h0:Row w.heap.size w v0 (z0.map (Value.int .i64)))(h1:Row w.heap.size w v1 (z1.map (Value.int .i64))):Calls Try.prog 5 #[v0,v1] w fun e w'=>e=.returned (.bool true)/\w.grownBy w' none:=by
 have H1:Hid (∀W:World,w.grownBy W none->Row w.heap.size W v1 (z1.map (Value.int .i64))):=Kh (fun W hg=>h1.kept hg (by simp));clear h1;go_enter Try.func5,Try.ntmps5;go_wp2_with fail;refine(qKL w.heap.size w v0 z0 h0 (Nat.le_refl _)).mono ?_;rintro e w1 ⟨rfl,e5,d9⟩;go_wp2_with fail;refine(kB w.heap.size w.heap.size w1 2 (by omega) e5).mono ?_;rintro e w2 ⟨r,rfl,f7,a8,e4,d8⟩;replace a8:=a8 (by omega);have gw2:w.grownBy w2 none:=zC d9 d8;obtain⟨k,hk⟩:∃k:Nat,1+r=(k:Int):=⟨(1+r).toNat,by omega⟩;have f8:IntKind.i64.wrap (1+r)=(k:Int):=by rw[hk];exact wG (by omega)
 have g0:1<=k:=by omega
 have f9:k<=2:=by omega
 clear e5 d9;go_wp2_with fail;refine(qIC w.heap.size w.heap.size k w2 g0 (by omega) e4).mono ?_;rintro e w3 ⟨c,v,rfl,hc,c9,e1,g2,d7⟩;have gw3:w.grownBy w3 none:=zC gw2 d7;obtain⟨jA,kA,lA,m1,jC,m2,kC,m3,lC,rfl⟩:=dC hc
 have e8:c.acc.length<=512:=by
  have h5:5 ^ k<=5 ^ 2:=Nat.pow_le_pow_right (by omega) f9;omega
 obtain⟨HC,i5,b8⟩:=K3 hc gw3 c9;have i8:Hid (c.idx.length=k):=Kh e1.1;have i9:=Kh e8;clear hc d7 e4 g2 c9 e1 gw2 d8 gw3 h0 hk f8 f7 a8 e8;go_upto_region 4 with fail;obtain⟨o,ho⟩:=Nm w3.heap.size;obtain⟨w4,a3⟩:=Nm (w3.alloc (.cells #[.slice jA m1 jC,.slice kA m2 kC,.slice lA m3 lC] 28));have g4:w3.grownBy w4 none:=by rw[a3];exact Ga w3 _ none
 have b4:=heap_alloc_new w3 (.cells #[.slice jA m1 jC,.slice kA m2 kC,.slice lA m3 lC] 28);rw[<-a3,<-ho]at b4;rw[<-a3,<-ho];have a2:Hid (∀W:World,w4.grownBy W none->W.heap[o]?=some (.cells #[.slice jA m1 jC,.slice kA m2 kC,.slice lA m3 lC] 28 (0,0))/\iQ w3.heap.size W (.agg #[.slice jA m1 jC,.slice kA m2 kC,.slice lA m3 lC]) c/\w3.heap.size<=W.heap.size):=Kh (fun W hg=>⟨zB b4 hg,(HC.out.kept g4).kept hg,Nat.le_trans g4.size hg.size⟩);have c2:=Kh (zC i5.out g4);clear g4 b4 a3 ho;go_wp2_with fail;refine(qKL w.heap.size w4 v1 z1 (H1.out _ c2.out) c2.out.size).mono ?_;rintro e w5 ⟨rfl,e3,d6⟩;go_wp2_with fail;refine(qMM w.heap.size w4.heap.size w5 (k:Int) 20 (by omega) (by omega) (by omega) (by omega) e3).mono ?_;rintro e w6 ⟨l,rfl,a9,d2,g1,d5⟩;have H4:Hid (w4.grownBy w6 none):=Kh (zC d6 d5 (fun x e=>by have e:=Oj e;omega));obtain⟨s,hs⟩:=Nm (strOfNums l);have f0:Hid (s.size<=maxLen):=Kh (by rw[hs,strOfNums_size];unfold maxLen;omega);have e9:Hid (xN s c.idx.length=true):=Kh (by rw[hs,i8.out];exact aB d2 (by omega) (by omega) (by omega));rw[<-hs];clear d6 d5 e3 g1 a9 d2 hs;obtain⟨p0,p1,p2⟩:=vS (a2.out _ H4.out).1;obtain⟨M,hM⟩:=Nm (pK c s);have c0:=Kh (kJ w3.heap.size w6 _ c s (a2.out _ H4.out).2.1 f0.out);rw[<-hM]at c0;have HM:=Kh hM;clear hM;go_wp2_with fail;refine c0.out.mono ?_;rintro e w7 ⟨rfl,d4⟩;have H0:=Kh (zC H4.out d4);clear d4 c0 p0 p1 p2;obtain⟨p0,p1,p2⟩:=vS (a2.out _ H0.out).1;have HD:=Kh (qPC w3.heap.size w7 _ c (a2.out _ H0.out).2.2 (a2.out _ H0.out).2.1);go_wp2_with fail;refine HD.out.mono ?_;intro e w8 e2;obtain⟨z,D,⟨fv,nv,rfl,b1,d3⟩,H5⟩:=e2.out;obtain⟨rfl,e7,N,c6,hN⟩:=qIJ b8.out i9.out H5;obtain⟨fa,na,fl,fc,nl,nc,rfl,rfl⟩:=qIA b1;obtain⟨i6,f3,g8,HN⟩:=K4 b1 e7 c6 hN;obtain⟨LT,b5⟩:=Nm D.letters;obtain⟨ST,b3⟩:=Nm D.start;rw[<-b5,<-b3];have i3:=Kh b5;have g9:=Kh b3;obtain⟨Q,hQ⟩:=Nm w8.heap.size;obtain⟨w9,a7⟩:=Nm (w8.alloc (.cells #[.int .i64 LT,.int .i64 ST,.slice fa fl fc,.slice na nl nc] 37));have a4:=Ga w8 (.cells #[.int .i64 LT,.int .i64 ST,.slice fa fl fc,.slice na nl nc] 37) none;have a5:=heap_alloc_new w8 (.cells #[.int .i64 LT,.int .i64 ST,.slice fa fl fc,.slice na nl nc] 37);rw[<-a7]at a4 a5;rw[<-hQ]at a5;have g6:=Kh a7;have i0:=Kh hQ;have c1:=Kh (zC (zC H0.out d3) a4);have a6:Hid (∀W:World,w9.grownBy W none->W.heap[Q]?=some (.cells #[.int .i64 LT,.int .i64 ST,.slice fa fl fc,.slice na nl nc] 37 (0,0))/\sK W.heap.size W (.agg #[.int .i64 LT,.int .i64 ST,.slice fa fl fc,.slice na nl nc]) D):=Kh (fun W hg=>⟨zB a5 hg,by rw[i3.out,g9.out];exact((i6.out.grow a4).grow hg).ok⟩);clear e2 H5 b1 e7 c6 hN b5 b3 hQ a7 a4 a5 d3 HD p0 p1 p2;go_upto_region 7 with fail;rw[<-g6.out,<-i0.out];obtain⟨q0,q1,q2,q3⟩:=zM (a6.out _ (zV w9 none)).1
 have f5:Hid (Calls Try.prog 14 #[.agg #[.int .i64 LT,.int .i64 ST,.slice fa fl fc,.slice na nl nc],.string s] w9 fun e w'=>e=.returned (.bool M)/\w9.grownBy w' none):=Kh (by
  have h9:=qFD w9.heap.size w9 _ D N c.idx.length s (Nat.le_refl _) (a6.out _ (zV w9 none)).2 g8.out HN.out e9.out;rw[f3.out,qIP b8.out e9.out,<-HM.out]at h9
  exact h9)
 go_wp2_with fail;refine f5.out.mono ?_;rintro e w10 ⟨rfl,H7⟩;have h3:=Kh H7;have e6:(M != M)=false:=by simp
 clear H7 f5 q0 q1 q2 q3;obtain⟨q0,q1,q2,q3⟩:=zM (a6.out _ h3.out).1;have f1:=Kh (qBJ w10.heap.size w10 _ D (Nat.le_refl _) (a6.out _ h3.out).2);go_wp2_with fail;refine f1.out.mono ?_;intro e w11 f6;have f2:Hid (∀W:World,w9.grownBy W none->Calls Try.prog 11 #[] W fun e w'=>e=.returned (.bool true)/\w.grownBy w' none):=Kh (fun W hW=>(qEK W).mono fun e w' h=>⟨h.1,zC (zC (zC c2.out c1.out) hW) h.2⟩);clear q0 q1 q2 q3 f1 e6;rcases f6 with ⟨ec,rfl,hne,_,_,hg11⟩|⟨S,sv,rfl,hso,hsa,hg11⟩
 ·have h2:=Ga w11 (.cells #[.int .i64 0,.slice none 0 0,.slice none 0 0,.slice none 0 0,.slice none 0 0,.slice none 0 0] 44) none
  have i4:=Kh (zC (zC h3.out hg11) h2);have hb:(ec != 0)=true:=by rw[bne_iff_ne];exact hne
  clear hg11 h2 hne;go_wp2_with fail;refine(f2.out _ i4.out).mono ?_;rintro e w13 ⟨rfl,h6⟩;go_wp2;go_ret;exact⟨rfl,h6⟩
 obtain⟨t,u,x,y,zz,t1,t2,u1,u2,x1,x2,y1,y2,z1,z2,rfl⟩:=qDT hsa;rw[f3.out]at hso;obtain⟨c7,e0,d1,H8⟩:=qTB b8.out hso;obtain⟨sk,c8⟩:=Nm (S.k:Int);rw[<-c8]at hsa⊢;obtain⟨Y,hY⟩:=Nm w11.heap.size;obtain⟨w12,H3⟩:=Nm (w11.alloc (.cells #[.int .i64 sk,.slice t t1 t2,.slice u u1 u2,.slice x x1 x2,.slice y y1 y2,.slice zz z1 z2] 44));have h2:=Ga w11 (.cells #[.int .i64 sk,.slice t t1 t2,.slice u u1 u2,.slice x x1 x2,.slice y y1 y2,.slice zz z1 z2] 44) none;have h8:=heap_alloc_new w11 (.cells #[.int .i64 sk,.slice t t1 t2,.slice u u1 u2,.slice x x1 x2,.slice y y1 y2,.slice zz z1 z2] 44);rw[<-H3]at h2 h8;rw[<-hY]at h8;obtain⟨b7,g3,c4⟩:=K3 H3 hY h8;have a1:=Kh (zC (zC h3.out hg11) h2);have f4:=Kh (qDF w11.heap.size w12 _ S.I h2.size (hsa.toI.kept h2));obtain⟨g7,i7,i1,c5⟩:=K4 c7 e0 d1 H8;clear hso c7 e0 d1 H8 hsa c8 hY H3 h2 h8 hg11;go_upto_region 10 with fail;rw[<-b7.out,<-g3.out];obtain⟨r0,r1,r2,r3,r4,r5⟩:=zY c4.out;go_wp2_with fail;refine f4.out.mono ?_;rintro e w13 ⟨⟨ze,rfl,⟨_,h9⟩|⟨_,_,h9⟩|⟨_,_,_,h9⟩⟩|⟨b,bv,rfl,_,_,d0,b2⟩,h6⟩
 ·exact absurd g7.out h9
 ·rw[i7.out]at h9;cases h9
 ·exact absurd h9 i1.out
 have i2:Hid (pK b s=M):=Kh (by rw[c5.out b d0 s,HM.out]);obtain⟨jA',kA',lA',m1',jC',m2',kC',m3',lC',rfl⟩:=dC b2;obtain⟨X,hX⟩:=Nm w13.heap.size;obtain⟨w14,H2⟩:=Nm (w13.alloc (.cells #[.slice jA' m1' jC',.slice kA' m2' kC',.slice lA' m3' lC'] 28));have h4:=Ga w13 (.cells #[.slice jA' m1' jC',.slice kA' m2' kC',.slice lA' m3' lC'] 28) none;have h7:=heap_alloc_new w13 (.cells #[.slice jA' m1' jC',.slice kA' m2' kC',.slice lA' m3' lC'] 28);rw[<-H2]at h4 h7;rw[<-hX]at h7;obtain⟨b6,g5,c3⟩:=K3 H2 hX h7;have a0:=Kh (zC (zC a1.out h6) h4);have b9:=Kh (kJ w13.heap.size w14 _ b s (b2.kept h4) f0.out);rw[i2.out]at b9;clear d0 b2 hX H2 h4 h7 h6 r0 r1 r2 r3 r4 r5 f4;go_upto_region 13 with fail;rw[<-b6.out,<-g5.out];obtain⟨p0,p1,p2⟩:=vS c3.out;have e6:(M == M)=true:=by simp
 go_wp2_with fail;refine b9.out.mono ?_;rintro e w15 ⟨rfl,H6⟩;have H9:=Kh (zC a0.out H6);clear H6 b9 p0 p1 p2;go_wp2_with fail;refine(f2.out _ H9.out).mono ?_;rintro e w16 ⟨rfl,b0⟩;go_wp2;go_ret;exact⟨rfl,b0⟩
end Go.Proofs.Ytobakifdllameaa
