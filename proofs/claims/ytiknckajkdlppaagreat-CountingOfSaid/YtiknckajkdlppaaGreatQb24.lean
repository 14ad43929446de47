/- Part 24 of the proof. -/
import Derived.Test.YtiknckajkdlppaaGreatQb23
import Derived.Deep.DeepCutAuto
import Derived.Deep.CutBlock
set_option linter.unusedVariables false
set_option linter.unusedSimpArgs false
set_option maxRecDepth 100000
set_option maxHeartbeats 16000000
namespace Go.Proofs.YtiknckajkdlppaaGreat
open Go.Maps Go.RowKit
variable{B:Nat}{w w':World}{e:Ending}{k:Int}{vT vW vA vP:Value}{I:SynI}
theorem RowT.litQ {e:TypeId}{b:Nat}{cs:Array Value}{m:Nat×Nat}{n:Nat}(h:w.heap[b]?=some (.cells cs e m))(hb:b<B)(hn:cs.size=n)(hm:n<=maxLen):RowT B e w (.slice (some ⟨b,0,none⟩) n n) cs.toList :=
 .inr ⟨b,0,n,cs,m,by simp[hn],hb,by simp[hn],hm,h,fun i hi=>by
  rw[Nat.zero_add]
  have:i<cs.size:=by simpa using hi
  simp[this]⟩
theorem qSW (w:World):∃w',w'=(((((w.alloc (.cells #[.bool false,.bool false,.bool false,.bool true] 4)).alloc (.cells #[.int .i64 1] 3)).alloc (.cells #[.int .i64 2] 3)).alloc (.cells #[.int .i64 3] 3)).alloc (.cells #[.int .i64 3] 3)).alloc (.cells #[.slice (some ⟨w.heap.size+1,0,none⟩) 1 1,.slice (some ⟨w.heap.size+1+1,0,none⟩) 1 1,.slice (some ⟨w.heap.size+1+1+1,0,none⟩) 1 1,.slice (some ⟨w.heap.size+1+1+1+1,0,none⟩) 1 1] 22)/\w.grownBy w' none/\rP w'.heap.size w' (.agg #[.int .i64 1,.int .i64 0,.slice (some ⟨w.heap.size,0,none⟩) 4 4,.slice (some ⟨w.heap.size+1+1+1+1+1,0,none⟩) 4 4]) dQ:=by
 obtain⟨w1,h8⟩:=Nm (w.alloc (.cells #[.bool false,.bool false,.bool false,.bool true] 4));obtain⟨w2,h7⟩:=Nm (w1.alloc (.cells #[.int .i64 1] 3));obtain⟨w3,h6⟩:=Nm (w2.alloc (.cells #[.int .i64 2] 3));obtain⟨w4,h5⟩:=Nm (w3.alloc (.cells #[.int .i64 3] 3));obtain⟨w5,h4⟩:=Nm (w4.alloc (.cells #[.int .i64 3] 3));obtain⟨w6,h0⟩:=Nm (w5.alloc (.cells #[.slice (some ⟨w.heap.size+1,0,none⟩) 1 1,.slice (some ⟨w.heap.size+1+1,0,none⟩) 1 1,.slice (some ⟨w.heap.size+1+1+1,0,none⟩) 1 1,.slice (some ⟨w.heap.size+1+1+1+1,0,none⟩) 1 1] 22));have g1:w.grownBy w1 none:=by rw[h8];exact Ga _ _ _
 have g2:w1.grownBy w2 none:=by rw[h7];exact Ga _ _ _
 have g3:w2.grownBy w3 none:=by rw[h6];exact Ga _ _ _
 have g4:w3.grownBy w4 none:=by rw[h5];exact Ga _ _ _
 have g5:w4.grownBy w5 none:=by rw[h4];exact Ga _ _ _
 have g6:w5.grownBy w6 none:=by rw[h0];exact Ga _ _ _
 have z1:w1.heap.size=w.heap.size+1:=by rw[h8,zW]
 have z2:w2.heap.size=w.heap.size+2:=by rw[h7,zW,z1]
 have z3:w3.heap.size=w.heap.size+3:=by rw[h6,zW,z2]
 have z4:w4.heap.size=w.heap.size+4:=by rw[h5,zW,z3]
 have z5:w5.heap.size=w.heap.size+5:=by rw[h4,zW,z4]
 have z6:w6.heap.size=w.heap.size+6:=by rw[h0,zW,z5]
 have g36:=zE (zE g4 g5) g6;have g26:=zE g3 g36;have g16:=zE g2 g26;have b1:w6.heap[w.heap.size]?=some (.cells #[.bool false,.bool false,.bool false,.bool true] 4 (0,0)):=zD (by rw[h8];exact heap_alloc_new w _) g16;have b2:w6.heap[w.heap.size+1]?=some (.cells #[.int .i64 1] 3 (0,0)):=zD (by rw[h7,<-z1];exact heap_alloc_new w1 _) g26;have b3:w6.heap[w.heap.size+1+1]?=some (.cells #[.int .i64 2] 3 (0,0)):=zD (by rw[h6,<-z2];exact heap_alloc_new w2 _) g36;have b4:w6.heap[w.heap.size+1+1+1]?=some (.cells #[.int .i64 3] 3 (0,0)):=zD (zD (by rw[h5,<-z3];exact heap_alloc_new w3 _) g5) g6;have b5:w6.heap[w.heap.size+1+1+1+1]?=some (.cells #[.int .i64 3] 3 (0,0)):=zD (by rw[h4,<-z4];exact heap_alloc_new w4 _) g6;have b6:w6.heap[w.heap.size+1+1+1+1+1]?=some (.cells #[.slice (some ⟨w.heap.size+1,0,none⟩) 1 1,.slice (some ⟨w.heap.size+1+1,0,none⟩) 1 1,.slice (some ⟨w.heap.size+1+1+1,0,none⟩) 1 1,.slice (some ⟨w.heap.size+1+1+1+1,0,none⟩) 1 1] 22 (0,0)):=by rw[h0,<-z5];exact heap_alloc_new w5 _
 have m1:1<=maxLen:=jm
 have m4:4<=maxLen:=jm
 refine⟨w6,by rw[h0,h4,h5,h6,h7,h8],zE g1 g16,_,_,rfl,?_,?_⟩
 ·exact(RowT.litQ b1 yo rfl m4).row
 refine Mat.of_rowT (RowT.litQ b6 yo rfl m4) ⟨rfl,fun i h1 h2=>?_⟩ (Nat.le_refl _);have h3:i<4:=h2;rcases (by omega:i=0\/i=1\/i=2\/i=3) with rfl|rfl|rfl|rfl
 ·exact RowT.litQ b2 yo rfl m1
 ·exact RowT.litQ b3 yo rfl m1
 ·exact RowT.litQ b4 yo rfl m1
 exact RowT.litQ b5 yo rfl m1
theorem qSZ (w:World):∃w',w'=((w.alloc (.cells #[.int .i64 3] 3)).alloc (.cells #[.int .i64 1] 3)).alloc (.cells #[.bool false,.bool false,.bool false,.bool true] 4)/\w.grownBy w' none/\pK w'.heap.size w' (.agg #[.slice (some ⟨w.heap.size,0,none⟩) 1 1,.slice (some ⟨w.heap.size+1,0,none⟩) 1 1,.slice (some ⟨w.heap.size+1+1,0,none⟩) 4 4]) cQ:=by
 obtain⟨w1,h2⟩:=Nm (w.alloc (.cells #[.int .i64 3] 3));obtain⟨w2,h1⟩:=Nm (w1.alloc (.cells #[.int .i64 1] 3));obtain⟨w3,h0⟩:=Nm (w2.alloc (.cells #[.bool false,.bool false,.bool false,.bool true] 4));have g1:w.grownBy w1 none:=by rw[h2];exact Ga _ _ _
 have g2:w1.grownBy w2 none:=by rw[h1];exact Ga _ _ _
 have g3:w2.grownBy w3 none:=by rw[h0];exact Ga _ _ _
 have z1:w1.heap.size=w.heap.size+1:=by rw[h2,zW]
 have z2:w2.heap.size=w.heap.size+2:=by rw[h1,zW,z1]
 have z3:w3.heap.size=w.heap.size+3:=by rw[h0,zW,z2]
 have g23:=zE g2 g3;have b1:w3.heap[w.heap.size]?=some (.cells #[.int .i64 3] 3 (0,0)):=zD (by rw[h2];exact heap_alloc_new w _) g23;have b2:w3.heap[w.heap.size+1]?=some (.cells #[.int .i64 1] 3 (0,0)):=zD (by rw[h1,<-z1];exact heap_alloc_new w1 _) g3;have b3:w3.heap[w.heap.size+1+1]?=some (.cells #[.bool false,.bool false,.bool false,.bool true] 4 (0,0)):=by rw[h0,<-z2];exact heap_alloc_new w2 _
 have m1:1<=maxLen:=jm
 have m4:4<=maxLen:=jm
 exact⟨w3,by rw[h0,h1,h2],zE g1 g23,_,_,_,rfl,(RowT.litQ b1 yo rfl m1).row,(RowT.litQ b2 yo rfl m1).row,(RowT.litQ b3 yo rfl m4).row⟩
theorem qTR (h:qLW dQ w e w'):∃v,e=.returned (.tuple #[v,.int .i64 0])/\iF w'.heap.size w' v sQ/\w.grownBy w' none:=by
 rcases h with ⟨c,h1,h2,h3,h4,h5⟩|⟨S,v,h1,h2,h3,h4⟩
 ·exact absurd qQN ((h4 qFM).2 sQ)
 obtain rfl:=h2.eq qQN;exact⟨v,h1,h3,h4⟩
theorem qSX (h:qCL sQ.I w e w'):∃v,e=.returned (.tuple #[v,.int .i64 0])/\pK w'.heap.size w' v cQ/\w.grownBy w' none:=by
 rcases h with ⟨⟨z,h1,h2⟩|⟨c,v,h1,h2,h3,h4,h5⟩,h6⟩
 ·rcases h2 with ⟨_,h2⟩|⟨_,_,h2⟩|⟨_,_,_,h2⟩
  ·exact absurd qQK h2
  ·rw[qSY]at h2;cases h2
  exact absurd h2 qRS
 obtain rfl:=qUC h4;exact⟨v,h1,h5,h6⟩
theorem qDR (w:World):Calls Tryz.prog 14 #[] w fun e w'=>e=.returned (.bool true)/\w.grownBy w' none:=by
 obtain⟨w6,H2,a4,h7⟩:=qSW w;obtain⟨fb,h6⟩:=Nm w.heap.size;obtain⟨nb,h5⟩:=Nm (w.heap.size+1+1+1+1+1);rw[<-h5,<-h6]at h7;obtain⟨b0,c4,b2,c3⟩:=Kd H2 h6 h5 a4;have b1:=Kh (qDK w6.heap.size w6 _ dQ (Nat.le_refl _) h7);clear H2 a4 h7 h6 h5;go_enter Tryz.func14,Tryz.ntmps14;go_wp2_with fail;rw[<-b0.out,<-b2.out,<-c4.out];refine b1.out.mono ?_;rintro e w7 h0;obtain⟨v,rfl,h1,a3⟩:=qTR h0.ret;have c2:=Kh (zE c3.out a3);have h4:=h1.toI;obtain⟨vT,vW,vI,vA,vP,rfl,hT,hW,hI,hA,hP⟩:=id h4;obtain⟨tA,tC,rfl⟩:=hT.shape;obtain⟨wA,wC,rfl⟩:=hW.shape;obtain⟨iA,iC,rfl⟩:=hI.shape;obtain⟨aA,aC,rfl⟩:=hA.shape;obtain⟨pA,pC,rfl⟩:=hP.shape;obtain⟨n1,H7⟩:=Nm sQ.I.tab.length;obtain⟨n2,H6⟩:=Nm ((uZ sQ.I.words).length);obtain⟨n3,H5⟩:=Nm ((ints sQ.I.images).length);obtain⟨n4,H4⟩:=Nm ((bls sQ.I.accept).length);obtain⟨n5,H3⟩:=Nm ((bls sQ.I.plus).length);obtain⟨ik,a1⟩:=Nm sQ.I.k;rw[<-H7,<-H6,<-H5,<-H4,<-H3,<-a1]at h4⊢;have b3:=Kh h4;clear hT hW hI hA hP H7 H6 H5 H4 H3 a1 h0 h1 h4 a3;go_upto_region 2 with fail;obtain⟨P,hP⟩:=Nm w7.heap.size;obtain⟨w8,h3⟩:=Nm (w7.alloc (.cells #[.int .i64 ik,.slice tA n1 tC,.slice wA n2 wC,.slice iA n3 iC,.slice aA n4 aC,.slice pA n5 pC] 39));have g8:w7.grownBy w8 none:=by rw[h3];exact Ga w7 _ none
 have b8:=heap_alloc_new w7 (.cells #[.int .i64 ik,.slice tA n1 tC,.slice wA n2 wC,.slice iA n3 iC,.slice aA n4 aC,.slice pA n5 pC] 39);rw[<-h3,<-hP]at b8;rw[<-h3,<-hP];obtain⟨q0,q1,q2,q3,q4,q5⟩:=zU b8;have c1:=Kh (zE c2.out g8);have c5:=Kh (qCC w7.heap.size w8 _ sQ.I g8.size (b3.out.kept g8));clear g8 b8 h3 hP;go_wp2_with fail;refine c5.out.mono ?_;rintro e w9 h0;obtain⟨v,rfl,hc,a2⟩:=qSX h0;have c0:=Kh (zE c1.out a2);obtain⟨vI,vP,vA,rfl,hi,hp,ha⟩:=id hc;obtain⟨jA,jC,rfl⟩:=hi.shape;obtain⟨kA,kC,rfl⟩:=hp.shape;obtain⟨lA,lC,rfl⟩:=ha.shape;obtain⟨m1,a0⟩:=Nm ((ints cQ.idx).length);obtain⟨m2,H9⟩:=Nm ((ints cQ.per).length);obtain⟨m3,H8⟩:=Nm ((bls cQ.acc).length);rw[<-a0,<-H9,<-H8]at hc⊢;have HC:=Kh hc;clear hi hp ha a0 H9 H8 h0 hc a2 q0 q1 q2 q3 q4 q5;go_upto_region 3 with fail;obtain⟨R,hR⟩:=Nm w9.heap.size;obtain⟨wA',h2⟩:=Nm (w9.alloc (.cells #[.slice jA m1 jC,.slice kA m2 kC,.slice lA m3 lC] 35));have gA:w9.grownBy wA' none:=by rw[h2];exact Ga w9 _ none
 have bA:=heap_alloc_new w9 (.cells #[.slice jA m1 jC,.slice kA m2 kC,.slice lA m3 lC] 35);rw[<-h2,<-hR]at bA;rw[<-h2,<-hR];have d0:=Kh bA;have b9:=Kh (zE c0.out gA);have a8:=Kh (HC.out.kept gA);obtain⟨p0,p1,p2⟩:=xZ bA;clear gA bA h2 hR;obtain⟨wB,H1,gB,hB⟩:=qSZ wA';have a9:=Kh H1;have b7:=Kh (zE b9.out gB);have a6:=Kh (qBX w9.heap.size wB.heap.size wB _ _ cQ cQ (a8.out.kept gB) hB);rw[show (decide (cQ.idx=cQ.idx) && decide (cQ.per=cQ.per) && decide (cQ.acc=cQ.acc))=true by simp]at a6;have c9:=Kh (zD d0.out gB);have c7:=Kh (a8.out.kept gB);clear H1 gB hB;go_wp2_with fail;rw[<-a9.out];refine a6.out.mono ?_;rintro e wC' ⟨rfl,gC⟩;have b6:=Kh (zE b7.out gC);have h8:=zD c9.out gC;have c8:=Kh h8;have a7:=Kh (c7.out.kept gC);obtain⟨p0,p1,p2⟩:=xZ h8;clear gC h8;go_wp2_with fail;have H0:=bC w9.heap.size wC' _ cQ ⟨#[97,97,97,97]⟩ a7.out (by unfold maxLen;decide);rw[qKM.1]at H0;refine H0.mono ?_;rintro e wD' ⟨rfl,gD⟩;have b5:=Kh (zE b6.out gD);have a5:=zD c8.out gD;have c6:=Kh (a7.out.kept gD);obtain⟨p0,p1,p2⟩:=xZ a5;clear gD a5 H0;go_wp2_with fail;have h9:=bC w9.heap.size wD' _ cQ ⟨#[97,97]⟩ c6.out (by unfold maxLen;decide);rw[qKM.2]at h9;refine h9.mono ?_;rintro e wE' ⟨rfl,gE⟩;have b4:=Kh (zE b5.out gE);clear gE h9;go_wp2;go_ret;exact⟨rfl,b4.out⟩
def qTL (w:World)(R:Nat)(B:Nat):Prop:=∃(m:DfaV) (ml ms:Int) (fa na:Option Addr) (mf fc mn nc:Nat),w.heap[R]?=some (.cells #[.int .i64 ml,.int .i64 ms,.slice fa mf fc,.slice na mn nc] 29 (0,0))/\rP w.heap.size w (.agg #[.int .i64 ml,.int .i64 ms,.slice fa mf fc,.slice na mn nc]) m/\B<=w.heap.size
def qTG (w:World)(T:Nat):Prop:=∃(I:SynI) (k:Int) (t u x y z:Option Addr) (t1 t2 u1 u2 x1 x2 y1 y2 z1 z2:Nat),w.heap[T]?=some (.cells #[.int .i64 k,.slice t t1 t2,.slice u u1 u2,.slice x x1 x2,.slice y y1 y2,.slice z z1 z2] 39 (0,0))/\pX w.heap.size w (.agg #[.int .i64 k,.slice t t1 t2,.slice u u1 u2,.slice x x1 x2,.slice y y1 y2,.slice z z1 z2]) I
theorem qRU {p e:Nat}{x0 x1 x2 x3 x4 x5:Value}(h:w.heap[p]?=some (.cells #[x0,x1,x2,x3,x4,x5] e (0,0))):w.cell? ⟨p,3,none⟩=some x3/\w.cell? ⟨p,1,none⟩=some x1:=by
 obtain⟨d0,d1,d2,d3,d4,d5⟩:=zU h;exact⟨d3,d1⟩
theorem qMY {W:World}{g c k:Nat}{e:TypeId}{xs:List Value}(h:Arr W g e xs)(hk:xs.length=k)(hc:k<=c/\c<=maxLen):Row W.heap.size W (.slice (some ⟨g,0,none⟩) k c) xs:=by
 subst hk;exact(h.rowT' hc.1 hc.2).row
theorem pX.far {vI a9:Value}{row:Option Nat}(h:pX B w (.agg #[.int .i64 k,vT,vW,vI,vA,vP]) I)(hg:w.grownBy w' row)(hr:∀j,row=some j->B<=j){im:List Int}(hi:Row w'.heap.size w' a9 (ints im))(hB:B<=w.heap.size):pX w'.heap.size w' (.agg #[.int .i64 k,vT,vW,a9,vA,vP]) { I with images:=im }:=by
 obtain⟨a,b,c,d,e,he,h1,h2,h3,h4,h5⟩:=h;simp only[Value.agg.injEq,Array.mk.injEq,List.cons.injEq,Value.int.injEq,true_and,and_true]at he;obtain⟨rfl,rfl,rfl,rfl,rfl,rfl⟩:=he;have hz:=Nat.le_trans hB hg.size;exact⟨_,_,_,_,_,rfl,(h1.kept hg hr).mono hz,(h2.kept hg hr).mono hz,hi,(h4.kept hg hr).mono hz,(h5.kept hg hr).mono hz⟩
theorem pX.img {x:Option Addr}{x1 x2:Nat}(h:pX B w (.agg #[.int .i64 k,vT,vW,.slice x x1 x2,vA,vP]) I):Row B w (.slice x x1 x2) (ints I.images)/\x1=I.images.length:=by
 obtain⟨a,b,c,d,e,he,h1,h2,h3,h4,h5⟩:=h;simp only[Value.agg.injEq,Array.mk.injEq,List.cons.injEq,Value.int.injEq,true_and,and_true]at he;obtain⟨rfl,rfl,rfl,rfl,rfl,rfl⟩:=he;refine⟨h3,?_⟩;obtain⟨_,_,e⟩:=h3.shape;simp only[Value.slice.injEq,zL]at e;exact e.2.1
theorem countingOf_walk (w:World)(v0:Value)(z0:List Int)(z1:Int)(h0:Row w.heap.size w v0 (z0.map (Value.int .i64))):Calls Tryz.prog 3 #[v0,.int .i64 z1] w fun e w'=>e=.returned (.bool true)/\w.grownBy w' none:=by
 go_enter Tryz.func3,Tryz.ntmps3;go_wp2_with fail;refine(qRK w.heap.size w v0 z0 h0 (Nat.le_refl _)).mono ?_;rintro e w1 ⟨rfl,l4,k5⟩;go_wp2_with fail;refine(uS w.heap.size w.heap.size w1 2 yo l4).mono ?_;rintro e w2 ⟨r,rfl,r7,j5,l3,k4⟩;replace j5:=j5 yo;have GW2:=Kh (zE k5 k4);obtain⟨k,hk⟩:∃k:Nat,1+r=(k:Int):=⟨(1+r).toNat,yo⟩;have j8:1<=k:=yo
 have n0:k<=2:=yo
 have m5:=Kh (qNW w.heap.size w.heap.size w2 k 4 j8 n0 yo yo l3);clear l4 k5 l3 k4;go_wp2_with fail;refine m5.out.mono ?_;rintro e w4 ⟨dv,m,n,rfl,H2,j2,m9,-,g9,k3⟩;obtain⟨f4,n4,rfl,g6⟩:=H2.t34 j2;obtain⟨fa,na,mf,fc,mn,nc,rfl,rfl⟩:=cX g6;have GW4:=Kh (zE GW2.out k3 (fun j e=>by have e:w.heap.size=j:=Oj e;omega));obtain⟨ml,a6⟩:=Nm m.letters;obtain⟨ms,a5⟩:=Nm m.start;rw[<-a6,<-a5];have p4:=Kh a6;have p3:=Kh a5;have e6:=heap_alloc_new w4 (.cells #[.int .i64 ml,.int .i64 ms,.slice fa mf fc,.slice na mn nc] 29);have b8:=Ga w4 (.cells #[.int .i64 ml,.int .i64 ms,.slice fa mf fc,.slice na mn nc] 29) none;obtain⟨w5,d9⟩:=Nm (w4.alloc (.cells #[.int .i64 ml,.int .i64 ms,.slice fa mf fc,.slice na mn nc] 29));obtain⟨R,hR⟩:=Nm w4.heap.size;have n9:Hid (w5.heap.size=R+1):=Kh (by rw[d9,zW,hR]);rw[<-d9]at e6 b8;rw[<-hR]at e6;obtain⟨o5,o7,r1⟩:=Kc d9 hR e6;have GW5:=Kh (zE GW4.out b8);have l8:=Kh (g9.kept b8 yq);have q7:=Kh (g6.kept b8 yq);have r6:w.heap.size<R:=by have:=g9.lt;omega
 clear H2 j2 g6 g9 k3 a6 a5 e6 b8 d9 hR m5 m9;go_upto_region 4 with fail;rw[<-o5.out,<-o7.out];go_wp2_with fail;refine(uS w.heap.size w.heap.size w5 3 yo l8.out).mono ?_;rintro e w6 ⟨r2,rfl,m6,g0,l0,H0⟩;have GW6:=Kh (zE GW5.out H0 (fun j e=>by have e:w.heap.size=j:=Oj e;omega));have j0:=Kh (zD r1.out H0 (fun e=>by have:=Oj e;omega));have m3:=Kh (q7.out.kept H0 (qCU l8.out));have l5:Hid (R+1<=w6.heap.size):=Kh (by have:=H0.size;have:=n9.out;omega);have i7:=Kh (qHL w.heap.size w.heap.size k w6 j8 yo l0);clear l0 H0 g0
 go_upto_if 24 with fail
 go_cut [7] (fun s7 wx=>s7=.pointer (some ⟨R,0,none⟩)/\qTL wx R (R+1)/\w.grownBy wx none)
 case first =>
  by_cases hr:0<r2
  ·go_wp2_with fail
   with_reducible refine i7.out.mono ?_
   rintro e w7 ⟨c,v,rfl,hc,m8,n2,n6,H3⟩;have GW7:=Kh (zE GW6.out H3 (fun j e=>by have e:w.heap.size=j:=Oj e;omega));have d8:=Kh (zD j0.out H3 (fun e=>by have:=Oj e;omega));have m4:=Kh (qJF w7.heap.size w7 v c (Nat.le_refl _) hc);clear hc m8 n2 n6 H3 i7;go_wp2_with fail;refine m4.out.mono ?_;intro e w8 k7;obtain⟨z,D,⟨f8,n8,rfl,g5,H7⟩,-⟩:=k7.out;obtain⟨fa',na',mf',fc',mn',nc',rfl,rfl⟩:=cX g5;obtain⟨ml',a6⟩:=Nm D.letters;obtain⟨ms',a5⟩:=Nm D.start;rw[<-a6,<-a5];have d6:=Kh a6;have c9:=Kh a5;have H4:=Kh (zD d8.out H7);have GW8:=Kh (zE GW7.out H7);have q6:=Kh g5;have n7:Hid (R+1<=w8.heap.size):=Kh (zS H4.out);obtain⟨q0,q1,q2,q3⟩:=zM H4.out;have f0:=zB H4.out 0;have f1:=zB H4.out 1;have f2:=zB H4.out 2;have f3:=zB H4.out 3;clear k7 g5 H7 a6 a5 m4;go_wp2;obtain⟨n3,e3⟩:=vS H4.out (.int .i64 ml') (.int .i64 ms') (.slice fa' mf' fc') (.slice na' mn' nc')
   go_meet
   have m7:∀j,some R=some j->yS w8 4 j/\yS w8 22 j/\yS w8 3 j:=fun j e=>by
    have e:R=j:=Oj e;subst e;exact⟨⟨_,_,_,H4.out,jd⟩,⟨_,_,_,H4.out,jd⟩,⟨_,_,_,H4.out,jd⟩⟩
   exact⟨rfl,⟨D,ml',ms',fa',na',mf',fc',mn',nc',n3,by rw[d6.out,c9.out];exact(q6.out.kept (by rw[d6.out,c9.out]at e3;exact e3) m7).ok,Nat.le_trans n7.out e3.size⟩,yM GW8.out e3 (by show _<=R;omega)⟩
  go_wp2
  go_meet
  exact⟨rfl,⟨m,ml,ms,fa,na,mf,fc,mn,nc,j0.out,by rw[p4.out,p3.out];exact m3.out.ok,l5.out⟩,GW6.out⟩
 obtain⟨rfl,⟨m,ml,ms,fa,na,mf,fc,mn,nc,k9,c5,r9⟩,b6⟩:=hcut;obtain⟨wo,rfl⟩:=Nm (wc:World);have d7:=Kh b6;have i3:=Kh (qDK wo.heap.size wo _ m (Nat.le_refl _) c5);obtain⟨c0,c1,c2,c3⟩:=zM k9;clear k9 c5 b6 j0 m3 i7 GW6 l5;go_wp2_with fail;refine i3.out.mono ?_;rintro e w6 g1;rcases g1.ret with ⟨c,rfl,hc0,-,-,H0⟩|⟨S,v4,rfl,e7,hSA,H0⟩
 ·have r8:(c != 0)=true:=by rw[bne_iff_ne];exact hc0
  have p9:=Kh (zE d7.out H0);clear g1 hc0 H0 i3 c0 c1 c2 c3;go_wp2;go_ret;exact⟨rfl,zE p9.out (Ga _ _ none)⟩
 have e7:=e7;obtain⟨tA,uA,xA,yA,zA,t1,t2,u1,u2,x1,x2,y1,y2,zz1,zz2,rfl⟩:=qCW hSA;have e8:=hSA.toI;obtain⟨sk,j3⟩:=Nm ((S.k:Int));rw[<-j3]at e8⊢;have b3:=heap_alloc_new w6 (.cells #[.int .i64 sk,.slice tA t1 t2,.slice uA u1 u2,.slice xA x1 x2,.slice yA y1 y2,.slice zA zz1 zz2] 39);have H3:=Ga w6 (.cells #[.int .i64 sk,.slice tA t1 t2,.slice uA u1 u2,.slice xA x1 x2,.slice yA y1 y2,.slice zA zz1 zz2] 39) none;obtain⟨w7,f9⟩:=Nm (w6.alloc (.cells #[.int .i64 sk,.slice tA t1 t2,.slice uA u1 u2,.slice xA x1 x2,.slice yA y1 y2,.slice zA zz1 zz2] 39));obtain⟨T,hT⟩:=Nm w6.heap.size;rw[<-f9]at b3 H3;rw[<-hT]at b3;have a8:=Kh (e8.kept H3);have a9:=Kh (e8.kept H3).img
 have l9:Hid (1<=S.images.length/\S.images.length<=6):=Kh (by
  obtain⟨n,k,m,M,hd,e,hM,hm,hS⟩:=e7;obtain⟨h1,h2,h3,h4,h5,h6,h7,h8⟩:=hS.lens;rw[uH]at h6;have:=hd.k1;have:=hd.k6
  omega)
 have f6:1<=x1/\x1<=6:=by rw[a9.out.2,show (S.I).images.length=S.images.length by simp[SynV.I]];exact l9.out
 obtain⟨f6,r4⟩:=f6;obtain⟨d8,o4,l7,a3⟩:=Kd b3 f9 hT H3;have f5:=Kh (zE (zE d7.out H0) H3);have n5:T<w7.heap.size:=zS b3;have o6:Hid (w.heap.size<=T):=Kh (by rw[hT];exact(zE d7.out H0).size);obtain⟨q0,q1,q2,q3,q4,q5⟩:=zU b3;obtain⟨md,j6⟩:=Nm (modI z1 8);have i4:=Kh (aI z1 8 w7 yo);rw[<-j6]at i4;clear g1 e7 hSA e8 j3 b3 H3 f9 hT H0 i3 c0 c1 c2 c3 j6;go_upto_region 7 with fail;rw[<-o4.out,<-l7.out];by_cases h60:60<t1
 ·go_wp2
  go_ret;exact⟨rfl,f5.out⟩
 go_wp2_with fail;refine i4.out.mono ?_;rintro e w8 ⟨rfl,rfl⟩;clear i4
 go_upto_if 47 with fail
 go_cut [8] (fun s8 wx=>s8=.pointer (some ⟨T,0,none⟩)/\qTG wx T/\w.grownBy wx none)
 case first =>
  by_cases hm:md=7
  case neg =>
   have e1:(md == 7)=false:=by rw[beq_eq_false_iff_ne];exact hm
   go_wp2
   go_meet
   exact⟨rfl,⟨S.I,sk,tA,uA,xA,yA,zA,t1,t2,u1,u2,x1,x2,y1,y2,zz1,zz2,d8.out,a8.out.far (zX w7 none) yq (a9.out.1.mono a3.out.size) a3.out.size⟩,f5.out⟩
  have e1:(md == 7)=true:=by rw[hm];rfl
  have H2:=jK (base:=w7.heap.size) (heap_alloc_new w7 (.cells #[] 3)) (Nat.le_refl _);have e5:=Ga w7 (.cells #[] 3) none;have b4:=a9.out.1.kept e5 yq;have k8:w7.heap.size<=(w7.alloc (.cells #[] 3)).heap.size:=e5.size;clear hm;go_wp2_with (first|(at_builtin;refine appR rfl (.tmp 48) (.tmp 50) 22 rfl yJ w7.heap.size _ 0 [] rfl H2 _ (ints S.I.images) rfl ⟨_,b4⟩ (fun u hu=>by obtain⟨b,_,rfl⟩:=List.mem_map.1 hu;rfl) x1 (by rw[zL,<-a9.out.2];omega) ?z1 ?z2 k8 ?_;(case z1=>(unfold maxLen;omega));(case z2=>omega);intro sa sc w8 ho H7;(have g3:=zE e5 H7 (fun j e=>by have e:w7.heap.size=j:=Oj e;omega));(have c6:=zD d8.out g3);(obtain⟨d0,d1,d2,d3,d4,d5⟩:=zU c6);(have f3:=zB c6 3))|fail);rw[List.nil_append]at ho;have H9:=heap_setCell_same w8 T 3 _ _ (.slice sa x1 sc) c6;simp only[sPa,sPb,sPc]at H9;have H6:=zH w8 ⟨T,3,none⟩ (.slice sa x1 sc);have e0:=ho.kept H6 (.inr (zR ho c6 jd));obtain⟨w9,b0⟩:=Nm (w8.setCell ⟨T,3,none⟩ (.slice sa x1 sc));rw[<-b0]at H9 H6 e0⊢;have k2:w7.grownBy w9 (some T):=rM g3 H6 (.inl rfl) (.inr (.inl rfl));obtain⟨g,rfl,l1,l2,c7⟩:=yV e0 yo;have n1:=(e0.lt g rfl).1;obtain⟨p7,i9,r3⟩:=Kc k2 H9 c7;have p5:=Kh (And.intro l1 l2);have b7:g≠T:=yo;have r5:0<x1:=f6;clear ho H7 g3 c6 d0 d1 d2 d3 d4 d5 f3 H9 H6 e0 b0 k2 c7 H2 e5 b4 k8 l2;obtain⟨wq,f7⟩:=Nm w9.drew;have e4:w9.grownBy wq none:=(by rw[f7];exact zY w9 none);have l6:=Kh f7;have i8:=Kh (zD i9.out e4);have j1:=Kh (r3.out.kept e4 yq);have p8:Hid (w7.grownBy wq (some T)):=Kh (rM p7.out e4 (.inr (.inl rfl)) (.inl rfl));obtain⟨d0,d1,d2,d3,d4,d5⟩:=zU i8.out;have C:=Kh (And.intro d3 d1);clear f7 e4 d0 d1 d2 d3 d4 d5;refine wp_region_noPanic ?_;refine yI (G:=xM 9 (fun W=>W.cell? ⟨T,3,none⟩=some (.slice (some ⟨g,0,none⟩) x1 sc)/\W.cell? ⟨T,1,none⟩=some (.slice tA t1 t2)) (fun _=>True)) yk ?_;rw[<-l6.out];clear l6;refine zP 0 ?_;refine zP 1 ?_;refine zP 2 ?_;refine zP 3 ?_;refine zP 4 ?_;refine zP 5 ?_;refine zP 6 ?_;refine jg 7 fun K hK=>?_;go_simp
  go_at_call 10
  refine(aI _ (t1:Int) wq yo).mono ?_;rintro e wz ⟨rfl,rfl⟩;refine hK.out _ _ ⟨C.out,fun _=>trivial⟩ ?_;clear hK K
  try simp only[Act.put,sPa,sPb,sPc]
  refine zP 8 ?_;have j7:0<S.I.images.length:=(by rw[<-a9.out.2];omega);have c0:=j1.out.int 0 j7;have f0:=j1.out.frozen 0;refine jg 9 fun K hK=>?_;go_simp;refine hK.out _ _ ⟨?_,fun _=>trivial⟩ ?_
  ·exact qRU (zD i8.out (zH wq ⟨g,0,none⟩ _) (fun e=>b7 (Oj e)))
  clear hK K
  try simp only[Act.put,sPa,sPb,sPc]
  refine uY yk ?_ _;refine NoPanic.normal ?_;go_wp2
  go_meet
  have k0:=fun v=>zH wq ⟨g,0,none⟩ v;have j9:=fun v=>rM (row:=some T) p8.out (k0 v) (.inr (.inl rfl)) (.inr (.inr ⟨g,rfl,n1⟩));exact⟨rfl,⟨{ S.I with images:=S.I.images.set 0 _ },sk,tA,uA,_,yA,zA,t1,t2,u1,u2,x1,sc,y1,y2,zz1,zz2,zD i8.out (k0 _) (fun e=>b7 (Oj e)),a8.out.far (j9 _) (fun j e=>by have e:T=j:=Oj e;have:=l7.out;omega) (qMY (j1.out.int_set 0 j7 _) (by rw[zL,List.length_set,a9.out.2]) p5.out) a3.out.size⟩,yM f5.out (j9 _) (by show _<=T;have:=o6.out;omega)⟩
 obtain⟨rfl,⟨I,k',t,u,x,y,z,t1,t2,u1,u2,x1,x2,y1,y2,zz1,zz2,g8,g2⟩,b6⟩:=hcut;obtain⟨r0,p6,d7⟩:=Kc g8 g2 b6;have m1:=Kh (qCC wc.heap.size wc _ I (Nat.le_refl _) g2);obtain⟨q0,q1,q2,q3,q4,q5⟩:=zU g8;clear g8 g2 b6 a8 a9 d8 f5 a3 l9;go_wp2_with fail;refine m1.out.mono ?_;intro e w8 j4;obtain⟨z8,v8,c8,rfl,a7,H1,H7⟩:=j4.res;obtain⟨aA,bA,cA,a1,a2,b1,b2,cc1,cc2,rfl⟩:=eO a7;have H6:=Ga w8 (.cells #[.slice aA a1 a2,.slice bA b1 b2,.slice cA cc1 cc2] 35) none;have H9:=heap_alloc_new w8 (.cells #[.slice aA a1 a2,.slice bA b1 b2,.slice cA cc1 cc2] 35);obtain⟨w9,b0⟩:=Nm (w8.alloc (.cells #[.slice aA a1 a2,.slice bA b1 b2,.slice cA cc1 cc2] 35));obtain⟨O,hO⟩:=Nm w8.heap.size;rw[<-b0]at H6 H9;rw[<-hO]at H9;have H5:=zE H7 H6;obtain⟨m2,i9,o3,o8,i2⟩:=Ke H5 H9 b0 hO H1;have q9:=Kh (a7.kept H6);have m0:=Kh (qGI wc.heap.size w9 _ I H5.size (p6.out.kept H5));clear j4 a7 H1 H7 H6 H9 b0 hO H5 m1 q0 q1 q2 q3 q4 q5;go_upto_region 13 with fail;rw[<-o3.out,<-o8.out];obtain⟨q0,q1,q2,q3,q4,q5⟩:=zU (zD r0.out m2.out);go_wp2_with fail;refine m0.out.mono ?_;intro e w10 b5;obtain⟨z10,v10,c10,rfl,a7,H1,c4⟩:=b5.res;obtain⟨rfl,rfl⟩:=i2.out.same H1;obtain⟨dA,eA,fA,d1,d2,e1,e2,f1,f2,rfl⟩:=eO a7;have H8:=Ga w10 (.cells #[.slice dA d1 d2,.slice eA e1 e2,.slice fA f1 f2] 35) none;have a0:=heap_alloc_new w10 (.cells #[.slice dA d1 d2,.slice eA e1 e2,.slice fA f1 f2] 35);obtain⟨w11,a4⟩:=Nm (w10.alloc (.cells #[.slice dA d1 d2,.slice eA e1 e2,.slice fA f1 f2] 35));obtain⟨O2,i0⟩:=Nm w10.heap.size;rw[<-a4]at H8 a0;rw[<-i0]at a0;have h9:=zE c4 H8;have g7:=qBX w8.heap.size w10.heap.size w11 _ _ c8 c8 (q9.out.kept h9) (a7.kept H8);simp only[decide_true,Bool.and_self]at g7;obtain⟨q8,i1,o9⟩:=Kc g7 a4 i0;have i6:=Kh (zE (zE d7.out m2.out) h9);obtain⟨o0,o1,o2⟩:=xZ a0;obtain⟨p0,p1,p2⟩:=xZ (zD i9.out h9);have e9:(z8 == z8)=true:=yq
 clear b5 a7 H1 c4 H8 a0 a4 i0 h9 g7 m0 q0 q1 q2 q3 q4 q5;go_upto_region 14 with fail;rw[<-i1.out,<-o9.out];go_wp2_with fail;refine q8.out.mono ?_;rintro e w12 ⟨rfl,b9⟩;have i5:=Kh (zE i6.out b9);clear b9;go_wp2_with fail;refine(qDR w12).mono ?_;rintro e w13 ⟨rfl,g4⟩;go_wp2;go_ret;exact⟨rfl,zE i5.out g4⟩
end Go.Proofs.YtiknckajkdlppaaGreat
