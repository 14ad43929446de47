/- Part 22 of the proof. -/
import Derived.Test.YtobakifdllameaaQb21
set_option linter.unusedVariables false
set_option linter.unusedSimpArgs false
set_option maxRecDepth 100000
set_option maxHeartbeats 16000000
namespace Go.Proofs.Ytobakifdllameaa
open Go.Maps Go.RowKit
theorem SynE.lens {gs:List (List Nat)}{n st:Nat}{fin:List Bool}{S:SynV}(h:SynE gs n st fin S):S.k=gs.length/\1<=S.tab.length/\S.tab.length<=400/\(∀r∈S.tab,r.length=S.tab.length)/\S.words.length=S.tab.length/\S.images.length=gs.length/\S.accept.length=S.tab.length/\S.plus.length=S.tab.length:=by
 obtain⟨el,pr,la,ri,mm,hf,hl,e1,e2,e3,e4,e5,hG,hC,e6⟩:=h;have ht:S.tab.length=el.length:=by rw[e2,wN]
 rw[ht];refine⟨e1,hf.en.pos,hl,fun r hr=>?_,by rw[e3,oM],by rw[e4,kK],by rw[e5,kU],by rw[e6,iX]⟩;rw[e2]at hr;obtain⟨x,_,rfl⟩:=List.mem_map.1 hr;exact tW _ _ _ _ _
def pF (I:SynI):Prop:=tU I=true/\∃S,nW (autI I) S/\S.I=I
def pM (I:SynI)(w:World)(e:Ending)(w':World):Prop:=(∃z:Int,e=.returned (.int .i64 z)/\((z=0/\pF I)\/(z=8/\¬pF I)))/\w.grownBy w' none
theorem pM.no {I:SynI}{w w':World}(h:¬pF I)(hg:w.grownBy w' none):pM I w (.returned (.int .i64 8)) w':=⟨⟨8,rfl,.inr ⟨rfl,h⟩⟩,hg⟩
theorem pM.yes {I:SynI}{w w':World}(h:pF I)(hg:w.grownBy w' none):pM I w (.returned (.int .i64 0)) w':=⟨⟨0,rfl,.inl ⟨rfl,h⟩⟩,hg⟩
theorem nW.valid {d:DfaV}{S:SynV}(h:nW d S)(h5:d.final.length<=512):uG d=0:=by
 obtain⟨n,k,m,M,hd,_⟩:=h;exact kW hd (by rw[<-hd.hn];exact h5)
theorem nW.lens {I:SynI}{S:SynV}(h:nW (autI I) S):(S.k:Int)=I.k/\1<=S.tab.length/\S.tab.length<=400/\(∀r∈S.tab,r.length=S.tab.length)/\S.words.length=S.tab.length/\1<=S.images.length/\S.accept.length=S.tab.length/\S.plus.length=S.tab.length:=by
 obtain⟨n,k,m,M,hd,e,hM,hm,hS⟩:=h;obtain⟨h1,h2,h3,h4,h5,h6,h7,h8⟩:=hS.lens;rw[vZ]at h1 h6;have:=hd.hk;have:=hd.k1;exact⟨by rw[h1];exact(hd.hk).symm,h2,h3,h4,h5,by omega,h7,h8⟩
theorem qLO {I:SynI}{S:SynV}(h:nW (autI I) S)(a9:S.I≠I):¬pF I:=fun⟨_,S',h',e'⟩=>a9 (by rw[h.eq h'];exact e')
theorem Mat.rows_ {B:Nat}{w:World}{v:Value}{t:List (List Int)}{n:Nat}(h:Mat B w v t)(hn:n=t.length)(h1:1<=n):∃b off cap,v=.slice (some ⟨b,off,none⟩) n cap/\n<=cap/\cap<=9223372036854775807/\∀x,x<n->∃a c,w.cell? ⟨b,off+x,none⟩=some (.slice a (t.getD x []).length c)/\Row B w (.slice a (t.getD x []).length c) (ints (t.getD x [])):=by
 obtain⟨b,off,cap,A,C,rfl,h2,h3,h0⟩:=h.some_ (by omega);exact⟨b,off,cap,by rw[hn],by omega,by unfold maxLen at h3;omega,fun x hx=>⟨_,_,h0.hd x (by omega),h0.row x (by omega)⟩⟩
def qTD (s t:List (List Int))(x:Nat):Prop:=∀y,y<x->s.getD y []=t.getD y []
theorem qFR (B:Nat)(w:World)(v:Value)(I:SynI)(a9:B<=w.heap.size)(h:aZ B w v I):Calls Try.prog 32 #[v] w (pM I w):=by
 obtain⟨vT,vW,vI,vA,vP,rfl,hT,hW,hI,hA,hP⟩:=id h;obtain⟨tA,tC,rfl⟩:=hT.shape;obtain⟨wA,wC,rfl⟩:=hW.shape;obtain⟨iA,iC,rfl⟩:=hI.shape;obtain⟨aA,aC,rfl⟩:=hA.shape;obtain⟨pA,pC,rfl⟩:=hP.shape;obtain⟨n,hn⟩:=Nm I.tab.length;obtain⟨wn,c9⟩:=Nm ((rI I.words).length);obtain⟨iN,e5⟩:=Nm ((ints I.images).length);obtain⟨an,f6⟩:=Nm ((bls I.accept).length);obtain⟨pn,e4⟩:=Nm ((bls I.plus).length);obtain⟨k,hk⟩:=Nm I.k;rw[<-hn,<-c9,<-e5,<-f6,<-e4,<-hk]at h⊢;rw[<-hn]at hT;rw[<-c9]at hW;rw[<-e5]at hI;rw[<-f6]at hA;rw[<-e4]at hP;obtain⟨w1,b7⟩:=Nm (w.alloc (.cells #[.int .i64 k,.slice tA n tC,.slice wA wn wC,.slice iA iN iC,.slice aA an aC,.slice pA pn pC] 44));have e9:w.grownBy w1 none:=by rw[b7];exact Ga w _ none
 have c0:=heap_alloc_new w (.cells #[.int .i64 k,.slice tA n tC,.slice wA wn wC,.slice iA iN iC,.slice aA an aC,.slice pA pn pC] 44);obtain⟨P,f7⟩:=Nm w.heap.size;rw[<-b7,<-f7]at c0;obtain⟨q0,q1,q2,q3,q4,q5⟩:=yD c0;have f9:=Kh (qFU B w1 _ I (h.kept e9));have m1:Hid (∀W:World,w.grownBy W none->aZ B W (.agg #[.int .i64 k,.slice tA n tC,.slice wA wn wC,.slice iA iN iC,.slice aA an aC,.slice pA pn pC]) I):=Kh (fun W hW=>h.kept hW);have HT:Hid (∀W:World,w.grownBy W none->Mat B W (.slice tA n tC) I.tab):=Kh (fun W hg=>hT.kept hg (by simp));have HW:Hid (∀W:World,w.grownBy W none->Row B W (.slice wA wn wC) (rI I.words)):=Kh (fun W hg=>hW.kept hg (by simp));have HI:Hid (∀W:World,w.grownBy W none->Row B W (.slice iA iN iC) (ints I.images)):=Kh (fun W hg=>hI.kept hg (by simp));have HA:Hid (∀W:World,w.grownBy W none->Row B W (.slice aA an aC) (bls I.accept)):=Kh (fun W hg=>hA.kept hg (by simp));have HP:Hid (∀W:World,w.grownBy W none->Row B W (.slice pA pn pC) (bls I.plus)):=Kh (fun W hg=>hP.kept hg (by simp));obtain⟨m4,k5,k8,n1,HN,HK⟩:=K6 e9 b7 f7 c0 hn hk;obtain⟨sb,d8⟩:=Nm (tU I);rw[<-d8]at f9;have g0:=Kh d8;clear h hT hW hI hA hP hn c9 e5 f6 e4 e9 c0 b7 f7 hk d8;go_enter Try.func32,Try.ntmps32;go_upto_region 1 with fail;rw[<-k5.out,<-k8.out];go_wp2_with fail;refine f9.out.mono ?_;rintro e w2 ⟨rfl,e8⟩;have c8:=Kh (zC m4.out e8);have b9:=zB n1.out e8;have n0:=Kh b9;clear e8 q0 q1 q2 q3 q4 q5 f9;cases sb with
 | false =>
  clear b9;go_wp2;go_ret;exact pM.no (fun h=>by have:=g0.out;rw[h.1]at this;exact absurd this (by decide)) c8.out
 | true =>
  have d7:tU I=true:=g0.out.symm;have H5:=Kh (lJ d7);have k1:=Kh (aY B w2 _ I (Nat.le_trans a9 c8.out.size) (m1.out _ c8.out) d7);obtain⟨q0,q1,q2,q3,q4,q5⟩:=yD b9;clear d7 b9;go_wp2_with fail;refine k1.out.mono ?_;rintro e w3 ⟨v3,rfl,i1,e7⟩;have g1:=Kh (qHW w3.heap.size w3 v3 (autI I) (Nat.le_refl _) i1);have i8:=Kh (zC c8.out e7);have m9:=Kh (zB n0.out e7);clear e7 i1 q0 q1 q2 q3 q4 q5 k1;go_wp2_with fail;refine g1.out.mono ?_;rintro e w4 (⟨c,rfl,i3,k3,i2,a0⟩|⟨S,v4,rfl,c7,i5,a0⟩)
  ·have H4:Hid (¬pF I):=Kh (fun⟨_,S,h1,_⟩=>by
    have hv:=h1.valid (by have:=H5.out.2.1.2.1;have:=H5.out.1.2.2.2;simp only[autI];omega)
    exact(i2 hv).2 S h1)
   have n2:(c != 0)=true:=by rw[bne_iff_ne];exact i3
   have m3:=Kh (zC i8.out a0);clear k3 i2 i3 a0 g1;go_wp2;go_ret;exact pM.no H4.out (zC m3.out (Ga _ _ none))
  obtain⟨l1,l2,l3,l4,l5,l6,l7,l8⟩:=c7.lens;obtain⟨jT,jW,jI,jA,jP,rfl,f8,a8,b1,b2,b0⟩:=i5.toI;obtain⟨J,hJ⟩:=Nm S.I;have j1:J.tab.length=S.tab.length:=by rw[hJ];exact xJ _
  have j2:J.words.length=S.tab.length:=by rw[hJ];simp[SynV.I,l5]
  have j3:1<=J.images.length:=by rw[hJ];simpa [SynV.I] using l6
  have j4:J.accept.length=S.tab.length:=by rw[hJ];exact l7
  have j5:J.plus.length=S.tab.length:=by rw[hJ];exact l8
  have j6:J.k=I.k:=by rw[hJ];exact l1
  have j7:∀x,x<S.tab.length->(J.tab.getD x []).length=S.tab.length:=fun x hx=>by
   rw[hJ];show ((tabI S.tab).getD x []).length=_;rw[lG,List.length_map];exact l4 _ (uV hx)
  rw[<-hJ]at f8 a8 b1 b2 b0⊢;obtain⟨N,hN⟩:=Nm S.tab.length;rw[<-hN]at j1 j2 j4 j5 j7 l2 l3;have H4:Hid (J≠I->¬pF I):=Kh (fun hne=>qLO c7 (by rw[<-hJ];exact hne));have HV:Hid (J=I->pF I):=Kh (fun e=>⟨g0.out.symm,S,c7,by rw[<-hJ];exact e⟩);obtain⟨jb,jo,jC,rfl,jc1,jc2,jrow⟩:=f8.rows_ (n:=N) j1.symm l2;obtain⟨uA,uC,rfl⟩:=a8.shape;obtain⟨vA2,vC2,rfl⟩:=b1.shape;obtain⟨xA,xC,rfl⟩:=b2.shape;obtain⟨yA,yC,rfl⟩:=b0.shape;have e1:(rI J.words).length=N:=by simp[rI,j2]
  have e2:(bls J.accept).length=N:=by rw[zX,j4]
  have e3:(bls J.plus).length=N:=by rw[zX,j5]
  rw[e1]at a8⊢;rw[e2]at b2⊢;rw[e3]at b0⊢;obtain⟨ik,g8⟩:=Nm ((ints J.images).length);rw[<-g8]at b1⊢;obtain⟨jk,g7⟩:=Nm J.k;rw[<-g7];obtain⟨w5,b6⟩:=Nm (w4.alloc (.cells #[.int .i64 jk,.slice (some ⟨jb,jo,none⟩) N jC,.slice uA N uC,.slice vA2 ik vC2,.slice xA N xC,.slice yA N yC] 44));have H3:w4.grownBy w5 none:=(by rw[b6];exact Ga w4 _ none);have b8:=heap_alloc_new w4 (.cells #[.int .i64 jk,.slice (some ⟨jb,jo,none⟩) N jC,.slice uA N uC,.slice vA2 ik vC2,.slice xA N xC,.slice yA N yC] 44);obtain⟨b5,f0⟩:=Nm w4.heap.size;rw[<-b6,<-f0]at b8;have g9:=zC (zC i8.out a0) H3;obtain⟨b4,h0,k4,m8⟩:=K4 b8 g9 b6 f0;have a7:=Kh (zB (zB m9.out a0) H3)
  have HR:Hid (∀W:World,w5.grownBy W none->∀x,x<N->∃a c,W.cell? ⟨jb,jo+x,none⟩=some (.slice a (J.tab.getD x []).length c)/\Row w4.heap.size W (.slice a (J.tab.getD x []).length c) (ints (J.tab.getD x []))):=Kh (fun W hW x hx=>by
   obtain⟨a,c,h1,h2⟩:=jrow x hx;have hg:=zC H3 hW
   exact⟨a,c,zJ h1 hg,h2.kept hg (by simp)⟩)
  have k9:=Kh (fun W (hW:w5.grownBy W none)=>a8.kept (zC H3 hW) (by simp));have l9:=Kh (fun W (hW:w5.grownBy W none)=>b1.kept (zC H3 hW) (by simp));have m0:=Kh (fun W (hW:w5.grownBy W none)=>b2.kept (zC H3 hW) (by simp));have l0:=Kh (fun W (hW:w5.grownBy W none)=>b0.kept (zC H3 hW) (by simp));obtain⟨J1,J2,J3,J4,J5,J6⟩:=K6 j1 j2 j3 j4 j5 j6;have J7:=Kh j7;obtain⟨d0,d1,d2,d3,d4,d5⟩:=yD b8;obtain⟨q0,q1,q2,q3,q4,q5⟩:=yD a7.out;clear l1 l4 l5 l6 l7 l8 c7 i5 f8 a8 b1 b2 b0 hJ j1 j2 j3 j4 j5 j6 j7 hN jrow e1 e2 e3 g8 g7 b6 H3 b8 f0 g9 a0 g1;go_upto_region 4 with fail;rw[<-k4.out,<-m8.out];by_cases hNn:N=n
  case neg =>
   have e1:((N:Int) != (n:Int))=true:=by rw[bne_iff_ne];omega
   go_wp2;go_ret;exact pM.no (H4.out (fun e=>hNn (by rw[<-J1.out,e,HN.out]))) h0.out
  subst hNn;have hl:=HT.out _ h0.out;obtain⟨tb,tf,tcap,et,t1,t2,_⟩:=hl.rows_ (n:=N) HN.out l2;simp only[Value.slice.injEq,true_and]at et;obtain⟨rfl,rfl⟩:=et
  have k6:Hid (∀W:World,w5.grownBy W none->∀x,x<N->∃a c,W.cell? ⟨tb,tf+x,none⟩=some (.slice a (I.tab.getD x []).length c)/\Row B W (.slice a (I.tab.getD x []).length c) (ints (I.tab.getD x []))):=Kh (fun W hW x hx=>by
   obtain⟨b,o,c,e,_,_,h3⟩:=(HT.out W (zC h0.out hW)).rows_ (n:=N) HN.out l2;simp only[Value.slice.injEq,Option.some.injEq,Addr.mk.injEq,and_true,true_and]at e;obtain⟨⟨rfl,rfl⟩,_⟩:=e
   exact h3 x hx)
  clear hl;go_wp2
  go_loopg [5,6,30] N (fun gh a5 a6 a30 wr=>∃x:Nat,gh+x=N/\a30=.int .i64 x/\qTD J.tab I.tab x/\w5.grownBy wr none)
  case atStart=>exact⟨0,rfl,rfl,fun y hy=>by omega,zT _ _⟩
  clear d0 d1 d2 d3 d4 d5 q0 q1 q2 q3 q4 q5;obtain⟨x,e6,rfl,d6,H1⟩:=hrel;obtain⟨g3,i6,m2⟩:=K3 e6 d6 H1;obtain⟨d0,d1,d2,d3,d4,d5⟩:=yD (zB b4.out H1);obtain⟨q0,q1,q2,q3,q4,q5⟩:=yD (zB a7.out H1);by_cases hx:x<N
  ·have k2:(x:Int)<N:=by omega
   obtain⟨a,c,hc,hr⟩:=HR.out _ H1 x hx;obtain⟨a',c',i4,g6⟩:=k6.out _ H1 x hx;have g4:=Kh (cY w4.heap.size B wr _ _ _ _ hr g6 (by rw[J7.out x hx];exact l2));obtain⟨bq,f2⟩:=Nm (decide (J.tab.getD x []=I.tab.getD x []));obtain⟨r1,e0⟩:=Nm ((J.tab.getD x []).length);obtain⟨r2,d9⟩:=Nm ((I.tab.getD x []).length);rw[<-f2,<-e0,<-d9]at g4;rw[<-e0]at hc;rw[<-d9]at i4;have j8:=Kh f2;clear e6 d6 H1 hr g6 f2 e0 d9 d0 d2 d3 d4 d5 q0 q2 q3 q4 q5;go_wp2_with fail;refine g4.out.mono ?_;rintro e w6 ⟨rfl,i0⟩;have i7:=Kh (zC m2.out i0);clear i0 g4 hc i4 d1 q1;cases bq with
   | false =>
    go_wp2;go_ret
    exact pM.no (H4.out (fun e=>by
     have h1:=j8.out.symm;rw[e]at h1
     exact absurd rfl (of_decide_eq_false h1))) (zC h0.out i7.out)
   | true =>
    go_wp2;go_roundg (N-(x+1))
    case measure=>have:=g3.out;omega
    refine⟨x+1,by have:=g3.out;omega,by go_num,fun y hy=>?_,i7.out⟩;rcases Nat.lt_or_ge y x with h|h
    ·exact i6.out y h
    have:y=x:=by omega
    subst this;exact of_decide_eq_true j8.out.symm
  have g5:x=N:=by have:=g3.out;omega
  have k2:¬(x:Int)<N:=by omega
  have k7:Hid (J.tab=I.tab):=Kh (by
   refine List.ext_getElem (by rw[J1.out,HN.out]) fun i h1 h2=>?_;have:=i6.out i (by rw[g5,<-J1.out];exact h1)
   rwa [zN h1,zN h2]at this)
  have h7:=H5.out.2.1;have i9:=Kh (qGV w4.heap.size B wr _ _ _ _ (k9.out _ H1) (HW.out _ (zC h0.out H1)) (by rw[J2.out];exact l2));have m6:Hid (∀W:World,w5.grownBy W none->_):=Kh (fun W hW=>cY w4.heap.size B W _ _ _ _ (l9.out _ hW) (HI.out _ (zC h0.out hW)) J3.out);have m7:Hid (∀W:World,w5.grownBy W none->_):=Kh (fun W hW=>eI w4.heap.size B W _ _ _ _ (m0.out _ hW) (HA.out _ (zC h0.out hW)) (by rw[J4.out];exact l2) (by rw[h7.2.1,<-HN.out];exact l2));have m5:Hid (∀W:World,w5.grownBy W none->_):=Kh (fun W hW=>eI w4.heap.size B W _ _ _ _ (l0.out _ hW) (HP.out _ (zC h0.out hW)) (by rw[J5.out];exact l2) (by rw[h7.2.2.1,<-HN.out];exact l2));have g2:=Kh H1;clear e6 d6 H1 g5 h7;have H6:=i9;clear i9;obtain⟨bw,f1⟩:=Nm (decide (J.words=I.words));rw[<-f1]at H6;have j0:=Kh f1;clear f1;go_wp2_with fail;refine H6.out.mono ?_;rintro e w6 ⟨rfl,hg⟩;have H0:=Kh (zC g2.out hg);clear hg H6 d0 d1 d2 d3 d4 d5 q0 q1 q2 q3 q4 q5;obtain⟨d0,d1,d2,d3,d4,d5⟩:=yD (zB b4.out H0.out);obtain⟨q0,q1,q2,q3,q4,q5⟩:=yD (zB a7.out H0.out);cases bw with
  | false =>
   go_wp2;go_ret
   exact pM.no (H4.out (fun e=>by
    have h1:=j0.out.symm;rw[e]at h1
    exact absurd rfl (of_decide_eq_false h1))) (zC h0.out H0.out)
  | true =>
   have H8:=Kh (m6.out _ H0.out);obtain⟨bi,f4⟩:=Nm (decide (J.images=I.images));rw[<-f4]at H8;have j9:=Kh f4;clear f4;go_wp2_with fail;refine H8.out.mono ?_;rintro e w7 ⟨rfl,hg⟩;have h9:=Kh (zC H0.out hg);clear hg H8 d0 d1 d2 d3 d4 d5 q0 q1 q2 q3 q4 q5;obtain⟨d0,d1,d2,d3,d4,d5⟩:=yD (zB b4.out h9.out);obtain⟨q0,q1,q2,q3,q4,q5⟩:=yD (zB a7.out h9.out);cases bi with
   | false =>
    go_wp2;go_ret
    exact pM.no (H4.out (fun e=>by
     have h1:=j9.out.symm;rw[e]at h1
     exact absurd rfl (of_decide_eq_false h1))) (zC h0.out h9.out)
   | true =>
    have H9:=Kh (m7.out _ h9.out);obtain⟨ba,f5⟩:=Nm (decide (J.accept=I.accept));rw[<-f5]at H9;have k0:=Kh f5;clear f5;go_wp2_with fail;refine H9.out.mono ?_;rintro e w8 ⟨rfl,hg⟩;have h8:=Kh (zC h9.out hg);clear hg H9 d0 d1 d2 d3 d4 d5 q0 q1 q2 q3 q4 q5;obtain⟨d0,d1,d2,d3,d4,d5⟩:=yD (zB b4.out h8.out);obtain⟨q0,q1,q2,q3,q4,q5⟩:=yD (zB a7.out h8.out);cases ba with
    | false =>
     go_wp2;go_ret
     exact pM.no (H4.out (fun e=>by
      have h1:=k0.out.symm;rw[e]at h1
      exact absurd rfl (of_decide_eq_false h1))) (zC h0.out h8.out)
    | true =>
     have H7:=Kh (m5.out _ h8.out);obtain⟨bp,f3⟩:=Nm (decide (J.plus=I.plus));rw[<-f3]at H7;have b3:=Kh f3;clear f3;go_wp2_with fail;refine H7.out.mono ?_;rintro e w9 ⟨rfl,hg⟩;have H2:=Kh (zC h8.out hg);clear hg H7 d0 d1 d2 d3 d4 d5 q0 q1 q2 q3 q4 q5;obtain⟨d0,d1,d2,d3,d4,d5⟩:=yD (zB b4.out H2.out);obtain⟨q0,q1,q2,q3,q4,q5⟩:=yD (zB a7.out H2.out);cases bp with
     | false =>
      go_wp2;go_ret
      exact pM.no (H4.out (fun e=>by
       have h1:=b3.out.symm;rw[e]at h1
       exact absurd rfl (of_decide_eq_false h1))) (zC h0.out H2.out)
     | true =>
      go_wp2;go_ret
      exact pM.yes (HV.out (by
       have h1:=k7.out;have h2:=of_decide_eq_true j0.out.symm;have h3:=of_decide_eq_true j9.out.symm;have h4:=of_decide_eq_true k0.out.symm;have h5:=of_decide_eq_true b3.out.symm;have h6:=J6.out;obtain⟨a1,a2,a3,a4,a5,a6⟩:=J;obtain⟨c1,c2,c3,c4,c5,c6⟩:=I;simp only at h1 h2 h3 h4 h5 h6
       rw[h1,h2,h3,h4,h5,h6])) (zC h0.out H2.out)
end Go.Proofs.Ytobakifdllameaa
namespace Go.Proofs.Ytobakifdllameaa
section
variable {gs:List (List Nat)} {n:Nat} {el:List (List Nat)} {pr la:List Int} {ri:List (List Nat)}
theorem mG:(tabI (tabE pr la ri el.length)).length=el.length:=by rw[xJ,wN]
theorem Enm.entV (h:Enm gs n el pr la ri el.length)(hg:∀g∈gs,IsT n g){x y:Nat}(hx:x<el.length)(hy:y<el.length):entN (tabI (tabE pr la ri el.length)) x y<el.length/\el.getD (entN (tabI (tabE pr la ri el.length)) x y) []=wP (el.getD x []) (el.getD y []):=by
 rw[qHV];exact h.tab hg hx hy
theorem Enm.shapeV (h:Enm gs n el pr la ri el.length)(hg:∀g∈gs,IsT n g)(h4:el.length<=400):sZ (tabI (tabE pr la ri el.length))=0:=by
 have hp:=h.en.pos;unfold sZ;rw[mG,if_neg (by omega),if_neg (by omega),if_pos];rw[List.all_eq_true];intro r hr;obtain⟨x,hx,rfl⟩:=List.getElem_of_mem hr;have h0:x<el.length:=by rw[mG]at hx;exact hx
 rw[<-zN (d:=[]) hx]
 have hl:((tabI (tabE pr la ri el.length)).getD x []).length=el.length:=by
  rw[lG,List.length_map,zN (by rw[wN];exact h0)];simp[tabE,tW]
 refine pX.2 ⟨hl,fun y hy=>?_⟩;rw[hl]at hy;have e:=kZ (tabE pr la ri el.length) x y;have h1:=(h.tab hg h0 hy).1;unfold Go.Proofs.Ytobakifdllameaa.ent at e;rw[e];omega
theorem Enm.assocV (h:Enm gs n el pr la ri el.length)(hg:∀g∈gs,IsT n g):qLJ (tabI (tabE pr la ri el.length)):=by
 intro g h0 x y hx hy;rw[mG]at h0 hx hy;obtain⟨a1,a2⟩:=h.entV hg hx h0;obtain⟨b1,b2⟩:=h.entV hg h0 hy;obtain⟨c1,c2⟩:=h.entV hg hx b1;refine oC (d:=[]) h.en.nodup (h.entV hg a1 hy).1 c1 ?_;rw[(h.entV hg a1 hy).2,c2,b2,a2,eJ (h.en.it _ (uV hx)) (h.en.it _ (uV h0))]
end
theorem nW.tab {d:DfaV}{S:SynV}(h:nW d S):Shape (tabI S.tab)/\rX (tabI S.tab)=0:=by
 obtain⟨n,k,m,M,hd,rfl,hM,hm,el,pr,la,ri,mm,hf,hl,e1,e2,_⟩:=h;have hs:=hf.shapeV (mQ hM) hl;rw[e2];exact⟨qEQ hs,iV hs (hf.assocV (mQ hM))⟩
theorem pF.tab {I:SynI}(h:pF I):Shape I.tab/\rX I.tab=0:=by
 obtain⟨_,S,h1,e⟩:=h;rw[<-e];exact h1.tab
open Go.Maps Go.RowKit
def valC (t:List (List Int))(im Ls:List Nat):Nat->Nat->Nat->Nat
 | 0,_,v=>v
 | a+1,r,v=>valC t im Ls a (r / Ls.getD a 0) (entN t v (powN t (im.getD a 0) (r % Ls.getD a 0)))
def imI (I:SynI):List Nat:=I.images.map Int.toNat
structure PowsR (I:SynI)(Ls js:List Nat)(a:Nat):Prop where
 l1:Ls.length=a
 l2:js.length=a
 pow:∀b,b<a->PowR I.tab ((imI I).getD b 0) (Ls.getD b 0) (js.getD b 0)
def perL (Ls js:List Nat):List Nat:=(List.range Ls.length).map fun b=>Ls.getD b 0-js.getD b 0
def qLI (I:SynI)(c:CntV):Prop:=∃Ls js,PowsR I Ls js I.images.length/\c.idx=vX js/\c.per=vX (perL Ls js)/\uJ c.idx c.per I.images.length=some c.acc.length/\c.acc=(List.range c.acc.length).map fun i=>I.accept.getD (valC I.tab (imI I) Ls I.images.length i 0) false
def qRE (I:SynI):Prop:=∃Ls js,PowsR I Ls js I.images.length/\uJ (vX js) (vX (perL Ls js)) I.images.length=none
def qPN (I:SynI)(w:World)(e:Ending)(w':World):Prop :=
 ((∃z:Int,e=.returned (.tuple #[.agg #[.slice none 0 0,.slice none 0 0,.slice none 0 0],.int .i64 z])/\((z=8/\¬pF I)\/(z=20/\pF I/\gP I.tab=false)\/(z=3/\pF I/\gP I.tab=true/\qRE I))) \/
 ∃c v,e=.returned (.tuple #[v,.int .i64 0])/\pF I/\gP I.tab=true/\qLI I c/\qH w'.heap.size w' v c)/\w.grownBy w' none
theorem rP (Ls js:List Nat):(perL Ls js).length=Ls.length:=by simp[perL]
theorem sJ (l:List Nat):(vX l).length=l.length:=by simp[vX]
theorem lU (l:List Nat):ints (vX l)=nats l:=by simp[ints,vX,nats]
theorem qBM {l:List Nat}{i:Nat}(h:i<l.length):(vX l).getD i 0=((l.getD i 0:Nat):Int):=by
 rw[vX,xW (x:=0) h]
theorem qMF {Ls js:List Nat}{b:Nat}(h:b<Ls.length):(perL Ls js).getD b 0=Ls.getD b 0-js.getD b 0:=by
 rw[zN (by rw[rP];exact h)];simp[perL]
theorem qIZ {Ls js:List Nat}(L j:Nat)(h:js.length=Ls.length):perL (Ls++[L]) (js++[j])=perL Ls js++[L-j]:=by
 refine List.ext_getElem (by simp[perL]) fun i h1 h2=>?_;rw[rP,List.length_append,List.length_singleton]at h1;rcases Nat.lt_or_ge i Ls.length with h3|h3
 ·rw[List.getElem_append_left (by rw[rP];exact h3)]
  simp only[perL,List.getElem_map,List.getElem_range];rw[List.getD_eq_getElem?_getD,List.getD_eq_getElem?_getD,List.getElem?_append_left h3,List.getElem?_append_left (by omega),<-List.getD_eq_getElem?_getD,<-List.getD_eq_getElem?_getD]
 have e:i=Ls.length:=by omega
 subst e;rw[List.getElem_append_right (by rw[rP];exact Nat.le_refl _)];simp[perL,List.getD_eq_getElem?_getD,<-h]
theorem PowsR.add {I:SynI}{Ls js:List Nat}{a L j:Nat}(h:PowsR I Ls js a)(hp:PowR I.tab ((imI I).getD a 0) L j):PowsR I (Ls++[L]) (js++[j]) (a+1) where
 l1:=by simp[h.l1]
 l2:=by simp[h.l2]
 pow:=fun b hb=>by
  rcases Nat.lt_or_ge b a with h1|h1
  ·rw[List.getD_eq_getElem?_getD (l:=Ls++[L]),List.getD_eq_getElem?_getD (l:=js++[j]),List.getElem?_append_left (by rw[h.l1];exact h1),List.getElem?_append_left (by rw[h.l2];exact h1),<-List.getD_eq_getElem?_getD,<-List.getD_eq_getElem?_getD]
   exact h.pow b h1
  ·have e:b=a:=by omega
   subst e
   rw[List.getD_eq_getElem?_getD (l:=Ls++[L]),List.getD_eq_getElem?_getD (l:=js++[j]),List.getElem?_append_right (by rw[h.l1];exact Nat.le_refl _),List.getElem?_append_right (by rw[h.l2];exact Nat.le_refl _),h.l1,h.l2,Nat.sub_self]
   exact hp
theorem PowsR.posC {I:SynI}{Ls js:List Nat}{a:Nat}(h:PowsR I Ls js a):PosC (vX js) (vX (perL Ls js)):=fun b hb=>by
 rw[sJ,h.l2]at hb
 have h1:=(h.pow b hb).2.1
 rw[qBM (by rw[h.l2];exact hb),qBM (by rw[rP,h.l1];exact hb),qMF (by rw[h.l1];exact hb)]
 omega
def jH (I:SynI)(Ls:List Nat)(k c i:Nat):List Bool:=((List.range i).map fun j=>I.accept.getD (valC I.tab (imI I) Ls k j 0) false)++List.replicate (c-i) false
theorem qGN (I:SynI)(Ls:List Nat)(k c:Nat):jH I Ls k c 0=List.replicate c false:=by simp[jH]
theorem qJX {I:SynI}{Ls:List Nat}{k c i:Nat}(h:i<c):(jH I Ls k c i).set i (I.accept.getD (valC I.tab (imI I) Ls k i 0) false)=jH I Ls k c (i+1):=by
 unfold jH;rw[List.set_append_right _ _ (by simp),List.range_succ,List.map_append];simp only[List.length_map,List.length_range,Nat.sub_self];rw[show c-i=(c-(i+1))+1 by omega,List.replicate_succ];simp
theorem qJY (I:SynI)(Ls:List Nat)(k c:Nat):jH I Ls k c c=(List.range c).map fun j=>I.accept.getD (valC I.tab (imI I) Ls k j 0) false:=by simp[jH]
def fW (I:SynI)(Ls:List Nat):List (List Nat):=(List.range Ls.length).map fun b=>uE I.tab ((imI I).getD b 0) (Ls.getD b 0)
theorem tG (I:SynI)(Ls:List Nat):(fW I Ls).length=Ls.length:=by simp[fW]
theorem qGD (I:SynI)(Ls:List Nat)(L:Nat):fW I (Ls++[L])=fW I Ls++[uE I.tab ((imI I).getD Ls.length 0) L]:=by
 refine List.ext_getElem (by simp[fW]) fun i h1 h2=>?_;rw[tG,List.length_append,List.length_singleton]at h1;rcases Nat.lt_or_ge i Ls.length with h3|h3
 ·rw[List.getElem_append_left (by rw[tG];exact h3)]
  simp only[fW,List.getElem_map,List.getElem_range];rw[List.getD_eq_getElem?_getD (l:=Ls++[L]),List.getElem?_append_left h3,<-List.getD_eq_getElem?_getD]
 have e:i=Ls.length:=by omega
 subst e;rw[List.getElem_append_right (by rw[tG];exact Nat.le_refl _)];simp[fW,List.getD_eq_getElem?_getD]
theorem qIX {I:SynI}{Ls:List Nat}{b:Nat}(h:b<Ls.length):(fW I Ls).getD b []=uE I.tab ((imI I).getD b 0) (Ls.getD b 0):=by
 rw[zN (by rw[tG];exact h)];simp[fW]
inductive CoS (I:SynI)(w6:World)(o k pg:Nat)(hsP:List Value)(Ls js:List Nat)(sI:Option Addr)(cI:Nat)(sP:Option Addr)(cP:Nat)(va:Value)(tl:List RowS)(w:World):Prop
 | mk (X:Nat->Prop) (hB:BoxS w6.heap.size X o 28 w6 w (⟨w6.heap.size,22,.slice (some ⟨pg,0,none⟩) k k,k,hsP,1⟩::⟨w6.heap.size,3,.slice sI Ls.length cI,Ls.length,nats js,1⟩::⟨w6.heap.size,3,.slice sP Ls.length cP,Ls.length,nats (perL Ls js),1⟩::tl) #[.slice sI Ls.length cI,.slice sP Ls.length cP,va] w)
  (hT:xU X 3 nats w (hsP.take Ls.length) (fW I Ls))
section
variable {I:SynI} {w6 w w':World} {o k pg:Nat} {hsP:List Value} {Ls js:List Nat} {sI:Option Addr} {cI:Nat} {sP:Option Addr} {cP:Nat} {va:Value} {tl:List RowS}
theorem CoS.grow (h:CoS I w6 o k pg hsP Ls js sI cI sP cP va tl w)(hg:w.grownBy w' none):CoS I w6 o k pg hsP Ls js sI cI sP cP va tl w':=by
 obtain⟨X,hB,hT⟩:=h;exact⟨X,(hB.grow hg).rebase,hT.kept (hB.mem.keep hg) hg.size⟩
theorem CoS.g (h:CoS I w6 o k pg hsP Ls js sI cI sP cP va tl w):w6.grownBy w none:=by
 obtain⟨X,hB,hT⟩:=h;exact hB.grown
theorem CoS.cells (h:CoS I w6 o k pg hsP Ls js sI cI sP cP va tl w):w.heap[o]?=some (.cells #[.slice sI Ls.length cI,.slice sP Ls.length cP,va] 28 (0,0))/\Arr w pg 22 hsP/\hsP.length=k/\w.ownsRow w6.heap.size 3 1 (.slice sI Ls.length cI) Ls.length (nats js)/\w.ownsRow w6.heap.size 3 1 (.slice sP Ls.length cP) Ls.length (nats (perL Ls js)):=by
 obtain⟨X,hB,hT⟩:=h;have h1:=hB.own (r:=⟨w6.heap.size,22,.slice (some ⟨pg,0,none⟩) k k,k,hsP,1⟩) (by simp);exact⟨hB.box,Arr.of_owns h1,by have:=h1.1;simpa using this,hB.own (r:=⟨w6.heap.size,3,.slice sI Ls.length cI,Ls.length,nats js,1⟩) (by simp),hB.own (r:=⟨w6.heap.size,3,.slice sP Ls.length cP,Ls.length,nats (perL Ls js),1⟩) (by simp)⟩
theorem CoS.row (h:CoS I w6 o k pg hsP Ls js sI cI sP cP va tl w){b:Nat}(hb:b<Ls.length)(h0:0<Ls.getD b 0)(hk:Ls.length<=k):∃rb ro rc,w.cell? ⟨pg,b,none⟩=some (.slice (some ⟨rb,ro,none⟩) (Ls.getD b 0) rc)/\Ls.getD b 0<=rc/\rc<=maxLen/\∀i,i<Ls.getD b 0->w.cell? ⟨rb,ro+i,none⟩=some (.int .i64 ((powN I.tab ((imI I).getD b 0) i:Nat):Int)):=by
 obtain⟨_,hA,hl,_,_⟩:=h.cells;obtain⟨X,hB,hT⟩:=h;have h1:=hT.1;have h2:b<(hsP.take Ls.length).length:=by rw[List.length_take];omega
 have h3:=(hT.2 b h2 (by rw[tG];exact hb)).1.row;have e:(fW I Ls)[b]'(by rw[tG];exact hb)=uE I.tab ((imI I).getD b 0) (Ls.getD b 0):=by rw[<-zN (d:=[]) (by rw[tG];exact hb),qIX hb]
 rw[e]at h3;have hc:=hA.cell b (by omega);rw[show hsP[b]'(by omega)=(hsP.take Ls.length)[b]'h2 by simp]at hc;obtain⟨rb,ro,rc,ev,_,r1,r2,r3⟩:=h3.some_ (by rw[zR,vS];exact h0);rw[zR,vS]at ev r1;rw[ev]at hc;exact⟨rb,ro,rc,hc,r1,r2,fun i hi=>by rw[<-qAW hi];exact r3.nat i (by rw[vS];exact hi)⟩
end
section
variable {I:SynI} {w6 w:World} {o k pg:Nat} {hsP:List Value} {Ls js:List Nat} {sI:Option Addr} {cI:Nat} {sP:Option Addr} {cP:Nat} {ag c:Nat} {xs:List Bool}
theorem CoS.begin {w':World}(h:CoS I w6 o k pg hsP Ls js sI cI sP cP (.slice none 0 0) [] w)(hg:w.grownBy w' none)(ho:w'.ownsRow w.heap.size 4 1 (.slice (some ⟨ag,0,none⟩) c c) c (bls xs)):CoS I w6 o k pg hsP Ls js sI cI sP cP (.slice (some ⟨ag,0,none⟩) c c) [⟨w6.heap.size,4,.slice (some ⟨ag,0,none⟩) c c,c,bls xs,1⟩] (w'.setCell ⟨o,2,none⟩ (.slice (some ⟨ag,0,none⟩) c c)):=by
 obtain⟨X,hB,hT⟩:=h;have hA:=hB.add hg (e:=4) (sz:=1) (n:=c) (v:=.slice (some ⟨ag,0,none⟩) c c) (xs:=bls xs) ho (by decide);have hS:=hA.set 2 (.slice (some ⟨ag,0,none⟩) c c);exact⟨X,hS.rebase,hT.kept hS.kept hS.wk⟩
theorem CoS.putM (h:CoS I w6 o k pg hsP Ls js sI cI sP cP (.slice (some ⟨ag,0,none⟩) c c) [⟨w6.heap.size,4,.slice (some ⟨ag,0,none⟩) c c,c,bls xs,1⟩] w){i:Nat}(hi:i<c)(u:Bool):CoS I w6 o k pg hsP Ls js sI cI sP cP (.slice (some ⟨ag,0,none⟩) c c) [⟨w6.heap.size,4,.slice (some ⟨ag,0,none⟩) c c,c,bls (xs.set i u),1⟩] (w.setCell ⟨ag,i,none⟩ (.bool u)):=by
 obtain⟨X,hB,hT⟩:=h;have hP:=hB.put (j:=3) rfl hi (.bool u);rw[show (bls xs).set i (.bool u)=bls (xs.set i u) by simp[bls,List.map_set]]at hP;exact⟨X,hP.rebase,hT.kept hP.kept hP.wk⟩
theorem CoS.arrM (h:CoS I w6 o k pg hsP Ls js sI cI sP cP (.slice (some ⟨ag,0,none⟩) c c) [⟨w6.heap.size,4,.slice (some ⟨ag,0,none⟩) c c,c,bls xs,1⟩] w):Arr w ag 4 (bls xs)/\xs.length=c:=by
 obtain⟨X,hB,hT⟩:=h;have h1:=hB.own (r:=⟨w6.heap.size,4,.slice (some ⟨ag,0,none⟩) c c,c,bls xs,1⟩) (by simp);exact⟨Arr.of_owns h1,by have:=h1.1;simpa [bls] using this⟩
theorem CoS.cntT (h:CoS I w6 o k pg hsP Ls js sI cI sP cP (.slice (some ⟨ag,0,none⟩) c c) [⟨w6.heap.size,4,.slice (some ⟨ag,0,none⟩) c c,c,bls xs,1⟩] w):RowT w.heap.size 3 w (.slice sI Ls.length cI) (nats js)/\RowT w.heap.size 3 w (.slice sP Ls.length cP) (nats (perL Ls js))/\RowT w.heap.size 4 w (.slice (some ⟨ag,0,none⟩) c c) (bls xs):=by
 obtain⟨_,_,_,h2,h3⟩:=h.cells;obtain⟨X,hB,hT⟩:=h;have h1:=hB.own (r:=⟨w6.heap.size,4,.slice (some ⟨ag,0,none⟩) c c,c,bls xs,1⟩) (by simp);exact⟨RowT.of_owns h2,RowT.of_owns h3,RowT.of_owns h1⟩
end
theorem gF (I:SynI)(Ls:List Nat)(k c:Nat):(jH I Ls k c c).length=c:=by simp[jH]
theorem qLI.make {I:SynI}{Ls js:List Nat}{k c:Nat}(hk:k=I.images.length)(h:PowsR I Ls js k)(hc:uJ (vX js) (vX (perL Ls js)) k=some c):qLI I ⟨vX js,vX (perL Ls js),jH I Ls k c c⟩:=by
 subst hk;exact⟨Ls,js,h,rfl,rfl,by rw[hc,gF],by simp only[gF];exact qJY _ _ _ _⟩
theorem qQR {Q:Exit->Act->World->Prop}{v0 v2 v3 v4 v6 v7 v8 v9 n7 n8 n9 m0 m1 m2 m3 m4 m5 m6 m7 m8 m9 l0 l1 l2 l3 l4 l5 l6 l7 l8 l9 k0 k1 k2 k3 k4 k5 k6 k7 k8 k9 j0 j1 j2 j3 j4 j5 j6 j7 j8 j9 i0 i1 i2 i3 i4 i5 i6 i7 i8 i9 g0 g1 g2 g3 g4 g5 g6 g7 g8 g9 f0 f1 f2 f3 f4 f5 f6 f7 f8 e0 e1 e2 e3 e4 e5 e6 e7 e8 e9 d0 d1 d2 d3 d4 d5 c9 b0 b1 b2 b3 b4 b5 b6 b7 b8 b9 a0 a1 a2 a3 a4 a5 a6 a7 d7 d8 d9 c2 c3 c4 c5 c6 c7 a8 a9:Value}{I:SynI}{w6 w:World}{o k pg:Nat}{n6:List Value}{Ls js:List Nat}{sI:Option Addr}{cI:Nat}{sP:Option Addr}{cP:Nat}{ag c:Nat}{xs:List Bool}{P i v ab ao an aC:Nat}{b:Bool}(h:CoS I w6 o k pg n6 Ls js sI cI sP cP (.slice (some ⟨ag,0,none⟩) c c) [⟨w6.heap.size,4,.slice (some ⟨ag,0,none⟩) c c,c,bls xs,1⟩] w)(hi:i<c)(n5:c<=2000)(hv:v<an)(n4:an<=400)(d6:an<=aC/\aC<=maxLen)(c0:w.cell? ⟨P,4,none⟩=some (.slice (some ⟨ab,ao,none⟩) an aC))(c1:w.cell? ⟨ab,ao+v,none⟩=some (.bool b))(c8:∀(z119 z120 z121 z122 z123 z124 z125 z126 z127:Value) (w':World),CoS I w6 o k pg n6 Ls js sI cI sP cP (.slice (some ⟨ag,0,none⟩) c c) [⟨w6.heap.size,4,.slice (some ⟨ag,0,none⟩) c c,c,bls (xs.set i b),1⟩] w'->Q .normal ⟨(v0::(Value.pointer (some ⟨P,0,none⟩))::v2::v3::v4::(Value.pointer (some ⟨o,0,none⟩))::v6::v7::v8::v9::n7::n8::n9::(Value.int .i64 (i:Int))::m0::(Value.int .i64 (v:Int))::m1::m2::m3::m4::m5::m6::m7::m8::m9::l0::l1::l2::l3::l4::l5::l6::l7::l8::l9::k0::k1::k2::k3::k4::k5::k6::k7::k8::k9::j0::j1::j2::j3::j4::j5::j6::j7::j8::j9::i0::i1::i2::i3::i4::i5::i6::i7::i8::i9::g0::g1::g2::g3::g4::g5::g6::g7::g8::g9::f0::f1::f2::f3::f4::f5::f6::f7::f8::e0::e1::e2::e3::e4::e5::e6::e7::e8::e9::d0::d1::d2::d3::d4::d5::c9::b0::b1::b2::b3::b4::b5::b6::b7::b8::b9::a0::a1::a2::a3::a4::a5::a6::a7::z119::z120::z121::z122::z123::z124::z125::z126::z127::a8::a9::[]).toArray,[]⟩ w'):Code.wp Try.prog (reg Try.f16 29) Q ⟨(v0::(Value.pointer (some ⟨P,0,none⟩))::v2::v3::v4::(Value.pointer (some ⟨o,0,none⟩))::v6::v7::v8::v9::n7::n8::n9::(Value.int .i64 (i:Int))::m0::(Value.int .i64 (v:Int))::m1::m2::m3::m4::m5::m6::m7::m8::m9::l0::l1::l2::l3::l4::l5::l6::l7::l8::l9::k0::k1::k2::k3::k4::k5::k6::k7::k8::k9::j0::j1::j2::j3::j4::j5::j6::j7::j8::j9::i0::i1::i2::i3::i4::i5::i6::i7::i8::i9::g0::g1::g2::g3::g4::g5::g6::g7::g8::g9::f0::f1::f2::f3::f4::f5::f6::f7::f8::e0::e1::e2::e3::e4::e5::e6::e7::e8::e9::d0::d1::d2::d3::d4::d5::c9::b0::b1::b2::b3::b4::b5::b6::b7::b8::b9::a0::a1::a2::a3::a4::a5::a6::a7::d7::d8::d9::c2::c3::c4::c5::c6::c7::a8::a9::[]).toArray,[]⟩ w:=by
 obtain⟨h8,_,_,_,_⟩:=h.cells;obtain⟨h4,h5⟩:=h.arrM
 have h0:∀W:World,w.grownBy W none->W.cell? ⟨o,2,none⟩=some (.slice (some ⟨ag,0,none⟩) c c)/\W.cell? ⟨P,4,none⟩=some (.slice (some ⟨ab,ao,none⟩) an aC)/\W.cell? ⟨ab,ao+v,none⟩=some (.bool b):=fun W hg=>by
  have q2:=zG (zB h8 hg) 2;simp only[List.getElem_toArray,List.getElem_cons_zero,List.getElem_cons_succ]at q2;exact⟨q2,zJ c0 hg,zJ c1 hg⟩
 have h1:∀W:World,w.grownBy W none->∃u,W.cell? ⟨ag,i,none⟩=some u:=fun W hg=>⟨_,(h4.kept hg (by simp)).cell i (by rw[zX,h5];exact hi)⟩;have h7:∀W:World,w.grownBy W none->W.frozen? ⟨ag,i,none⟩=false:=fun W hg=>(h4.kept hg (by simp)).frozen i;obtain⟨H,H3,H2⟩:=K3 h h1 h7;have H6:(i:Int)<c:=by omega
 have H5:(v:Int)<an:=by omega
 have H0:=d6.1;have h9:aC<=9223372036854775807:=by have:=d6.2;unfold maxLen at this;omega
 clear h h8 h4 h1 h7 c0 c1 d6 h5;have H4:Hid (∀W:World,w.grownBy W none->W.cell? ⟨o,2,none⟩=some (.slice (some ⟨ag,0,none⟩) c c)/\W.cell? ⟨P,4,none⟩=some (.slice (some ⟨ab,ao,none⟩) an aC)/\W.cell? ⟨ab,ao+v,none⟩=some (.bool b)):=Kh (fun W hg=>h0 W hg);clear h0
 conv=>arg 2;whnf
 obtain⟨w7,h3⟩:=Nm w.drew;have h6:w.grownBy w7 none:=by rw[h3];exact zW w none
 have H1:=Kh h3;have h2:=Kh h6;clear h3 h6;refine wp_region_noPanic ?_;refine yQ (G:=wH 9 (fun _=>True) (fun W=>W.cell? ⟨o,2,none⟩=some (.slice (some ⟨ag,0,none⟩) c c)/\W.cell? ⟨P,4,none⟩=some (.slice (some ⟨ab,ao,none⟩) an aC)/\W.cell? ⟨ab,ao+v,none⟩=some (.bool b))) (by kernel_rfl) ?_;rw[<-H1.out];have C:=Kh (H4.out w7 h2.out);refine zO 0 ⟨trivial,fun _=>C.out⟩ ?_;refine xG 1 ⟨trivial,fun _=>C.out⟩ ?_;refine zO 2 ⟨trivial,fun _=>C.out⟩ ?_;refine zO 3 ⟨trivial,fun _=>C.out⟩ ?_;refine xG 4 ⟨trivial,fun _=>C.out⟩ ?_;refine zO 5 ⟨trivial,fun _=>C.out⟩ ?_;refine zO 6 ⟨trivial,fun _=>C.out⟩ ?_;refine xG 7 ⟨trivial,fun _=>C.out⟩ ?_;refine zO 8 ⟨trivial,fun _=>C.out⟩ ?_;obtain⟨u9,q9⟩:=H3.out w7 h2.out;have f9:=H2.out w7 h2.out;refine oneG (i:=9) (by kernel_rfl) rfl (fun K hK=>?_);go_simp;refine hK.out _ _ ⟨trivial,fun h=>by simp at h⟩ ?_;clear hK K q9 f9
 try simp only[Act.put,sPd,sPe,sPf,sPa,sPb,sPc]
 refine tZ (by kernel_rfl) ?_ _;refine NoPanic.normal ?_;exact c8 _ _ _ _ _ _ _ _ _  _ ((H.out.grow h2.out).putM hi _)
theorem qOG {q d s e vv n:Nat}(a9:d*s<=q)(hx:vv=q-d*s+e*s)(a8:vv<n)(hq:q<n)(hn:n<=2000):∃yy:Int,wrap64 (((e:Int)-(d:Int))*(s:Int))=yy/\wrap64 ((q:Int)+yy)=(vv:Int):=by
 have h1:((e:Int)-(d:Int))*(s:Int)=((e*s:Nat):Int)-((d*s:Nat):Int):=by rw[Int.sub_mul];simp
 generalize e*s=E at hx h1
 generalize d*s=D at a9 hx h1
 refine⟨(E:Int)-(D:Int),by rw[h1];exact IntWalk.wrap64_in _ (by omega),?_⟩;have h2:(q:Int)+((E:Int)-(D:Int))=(vv:Int):=by omega
 rw[h2];exact IntWalk.wrap64_in _ (by omega)
theorem qRX {c:CntV}(h:CntOk c){n k b q s r i:Nat}(hk:k=c.idx.length)(hn:n=c.acc.length)(hq:q<n)(hb:b<k)(a7:k<=6)(a8:n<=2000)(hs:s=uR (radN c) (b+1) k)(hr:r=radN c b)(hi:i=iN c b)(a6:i<=2000)(a9:1<=r):∃(t d e x vv X Y:Nat) (yy:Int),Hid ((q:Int).tdiv (s:Int)=(t:Int)/\(t:Int).tmod (r:Int)=(d:Int))/\Hid (wrap64 (t:Int)=(t:Int)/\wrap64 (d:Int)=(d:Int)/\wrap64 (e:Int)=(e:Int))/\(t<=2000/\d<=2000/\e<=2001)/\Hid (e=d+1)/\Hid (x=if e=r then i else e)/\Hid (IntKind.i64.wrap ((q:Int)*(k:Int))=(X:Int)/\wrap64 ((q:Int)*(k:Int))=(X:Int)/\IntKind.i64.wrap ((X:Int)+(b:Int))=(Y:Int)/\wrap64 ((X:Int)+(b:Int))=(Y:Int))/\Y<n*k/\vv<n/\Hid (Y=q*k+b)/\Hid (vv=qL c q b)/\Hid (wrap64 ((x:Int)-(d:Int))=(x:Int)-(d:Int)/\wrap64 (((x:Int)-(d:Int))*(s:Int))=yy/\wrap64 ((q:Int)+yy)=(vv:Int)):=by
 have h2:stN c b=s:=by unfold stN;rw[<-hk,<-hs]
 have h0:digN c q b=q / s % r:=by unfold digN;rw[h2,<-hr]
 have h6:q / s % r<r:=Nat.mod_lt _ a9;have h5:q / s<=q:=Nat.div_le_self _ _;have h4:q / s % r<=q / s:=Nat.mod_le _ _
 have h3:q / s % r*s<=q:=calc q / s % r*s<=q / s*s:=Nat.mul_le_mul_right _ h4
  _<=q:=Nat.div_mul_le_self _ _
 have h1:qL c q b<n:=by rw[hn];exact qJO h (by rw[<-hn];exact hq) (by rw[<-hk];exact hb)
 have hx:qL c q b=q-q / s % r*s+(if q / s % r+1=r then i else q / s % r+1)*s:=by
  unfold qL nxtE;rw[h0,h2,<-hr,<-hi]
 obtain⟨yy,y1,y2⟩:=qOG h3 hx h1 hq a8;obtain⟨I1,I2,I3,I4,I5⟩:=qDQ hq hb a7 (show n<=4000 by omega);refine⟨q / s,q / s % r,q / s % r+1,_,qL c q b,q*k,q*k+b,yy,Kh ⟨Int.ofNat_tdiv q s,Int.ofNat_tmod (q / s) r⟩,Kh ⟨IntWalk.wrap64_in _ (by omega),IntWalk.wrap64_in _ (by omega),IntWalk.wrap64_in _ (by omega)⟩,⟨by omega,by omega,by omega⟩,Kh rfl,Kh rfl,Kh ⟨I1,I2,I3,I4⟩,I5,h1,Kh rfl,Kh rfl,Kh ⟨?_,y1,y2⟩⟩;clear y1 y2 hx h0 h3;refine IntWalk.wrap64_in _ ?_
 split<;>omega
theorem qOF (B:Nat)(w:World)(v:Value)(c:CntV)(a6:B<=w.heap.size)(h:qH B w v c):Calls Try.prog 13 #[v] w (qOX c w):=by
 obtain⟨vi,vp,va,rfl,hi,hp,ha⟩:=id h;obtain⟨iA,iC,rfl⟩:=hi.shape;obtain⟨pA,pC,rfl⟩:=hp.shape;obtain⟨aA,aC,rfl⟩:=ha.shape;obtain⟨k,hk⟩:=Nm c.idx.length;obtain⟨pn,b1⟩:=Nm c.per.length;obtain⟨n,hn⟩:=Nm c.acc.length;rw[zK,zK,zX,<-hk,<-b1,<-hn]at h⊢;rw[zK,<-hk]at hi;rw[zK,<-b1]at hp;rw[zX,<-hn]at ha;obtain⟨w1,H9⟩:=Nm (w.alloc (.cells #[.slice iA k iC,.slice pA pn pC,.slice aA n aC] 28));have g1:w.grownBy w1 none:=by rw[H9];exact Ga w _ none
 have n1:=heap_alloc_new w (.cells #[.slice iA k iC,.slice pA pn pC,.slice aA n aC] 28);have a5:w1.heap.size=w.heap.size+1:=by rw[H9];simp
 rw[<-H9]at n1;obtain⟨w2,b0⟩:=Nm (w1.alloc (.cells #[.int .i64 0,.int .i64 0,.slice none 0 0,.slice none 0 0] 37));have g2:w1.grownBy w2 none:=by rw[b0];exact Ga w1 _ none
 have n2:=heap_alloc_new w1 (.cells #[.int .i64 0,.int .i64 0,.slice none 0 0,.slice none 0 0] 37);rw[<-b0,a5]at n2;obtain⟨P,d5⟩:=Nm w.heap.size;rw[<-d5]at n1 n2;have c7:=zC g1 g2;have HB:Hid (∀W:World,w2.grownBy W none->(W.heap[P]?=some (.cells #[.slice iA k iC,.slice pA pn pC,.slice aA n aC] 28 (0,0))/\W.heap[P+1]?=some (.cells #[.int .i64 0,.int .i64 0,.slice none 0 0,.slice none 0 0] 37 (0,0)))/\w.grownBy W none):=Kh (fun W hg=>⟨⟨zB (zB n1 g2) hg,zB n2 hg⟩,zC c7 hg⟩);have HI:Hid (∀W:World,w.grownBy W none->Row B W (.slice iA k iC) (ints c.idx)):=Kh (fun W hg=>hi.kept hg (by simp));have HP:Hid (∀W:World,w.grownBy W none->Row B W (.slice pA pn pC) (ints c.per)):=Kh (fun W hg=>hp.kept hg (by simp));have HA:Hid (∀W:World,w.grownBy W none->Row B W (.slice aA n aC) (bls c.acc)):=Kh (fun W hg=>ha.kept hg (by simp));have HV:=Kh (iP B w2 _ c (h.kept c7));obtain⟨l0,k9,b3,HK,i1,HN⟩:=K6 H9 b0 d5 hk b1 hn;obtain⟨E,hE⟩:=Nm (cntE c);rw[<-hE]at HV;have e0:=Kh hE;clear h hi hp ha hk b1 hn g1 n1 a5 g2 n2 c7 H9 b0 d5 hE;go_enter Try.func13,Try.ntmps13;go_upto_region 1 with fail;rw[<-l0.out,<-b3.out,<-k9.out];obtain⟨q0,q1,q2⟩:=uK (HB.out _ (zT w2 none)).1.1;go_wp2_with fail;refine HV.out.mono ?_;rintro e w3 ⟨rfl,h7⟩;have i6:=Kh h7;clear q0 q1 q2;by_cases h0:E=0
 ·subst h0
  have h5:=Kh (gH.1 e0.out.symm);have f6:1<=k:=by rw[HK.out];exact h5.out.k1
  have c6:k<=6:=by rw[HK.out];exact h5.out.k6
  have j7:k=pn:=by rw[i1.out,HK.out];exact h5.out.pl.symm
  subst j7;have c4:n<=2000:=by rw[HN.out];exact nQ h5.out.size
  obtain⟨q0,q1,q2⟩:=uK (HB.out _ h7).1.1;clear h7;go_upto_region 5 with fail;refine qQT q2 c4 c6 ?_;intro z24 z25 z26 z27 z28 z29 z30 z31 z32 z33 z34 w5 M ng h8 c3 g6 g5 a0 g3;have H5:=zC i6.out g3;obtain⟨N,b2⟩:=Nm (n*k);rw[<-b2]at h8;have b4:=Kh b2;have k5:N<=12000:=by rw[b2];exact Nat.mul_le_mul c4 c6
  clear b2;obtain⟨fb,fo,fc,ef,_,fc1,fc2,fr⟩:=(HA.out _ (HB.out _ (zT w2 none)).2).some_ (by rw[zX];have:=(nO h5.out).n1;omega);obtain⟨ib,io,ic,ei,_,ic1,ic2,ir⟩:=(HI.out _ (HB.out _ (zT w2 none)).2).some_ (by rw[zK,<-HK.out];exact f6);obtain⟨pb,po,pc,ep,_,pc1,pc2,pr⟩:=(HP.out _ (HB.out _ (zT w2 none)).2).some_ (by rw[zK,h5.out.pl,<-HK.out];exact f6);simp only[Value.slice.injEq]at ef ei ep;obtain⟨rfl,a5,rfl⟩:=ef;obtain⟨rfl,j1,rfl⟩:=ei;obtain⟨rfl,j0,rfl⟩:=ep;rw[zX,<-HN.out]at fc1;rw[zK,<-HK.out]at ic1;rw[zK,<-i1.out]at pc1;unfold maxLen at fc2 ic2 pc2;obtain⟨m5,i4,l6⟩:=K3 fr ir pr;have i3:Hid (w5.heap.size<=w5.heap.size/\w3.heap.size<=M/\w3.heap.size<=ng/\M≠ng):=Kh ⟨Nat.le_refl _,g5,a0,g6⟩;rw[<-qGK c n k (by omega),<-qGL c n k (by omega)]at c3;obtain⟨i2,i9,a4⟩:=K3 h8 c3 H5;obtain⟨q0,q1,q2⟩:=uK (HB.out _ H5).1.1;have n0:Hid (uR (radN c) k k=1):=Kh (oY (Nat.le_refl _))
  have l4:Hid (∀b,b<k->∃i p r:Nat,c.idx.getD b 0=(i:Int)/\c.per.getD b 0=(p:Int)/\i<=2000/\p<=2000/\1<=p/\r=i+p/\r=radN c b/\i=iN c b):=Kh (fun b hb=>by
   obtain⟨i,p,e1,e2,e3,e4,e5⟩:=qMH h5.out (a:=b) (by rw[<-HK.out];exact hb)
   exact⟨i,p,i+p,e1,e2,e3,e5,e4,rfl,by unfold radN iN pN;rw[e1,e2];simp,by unfold iN;rw[e1];simp⟩)
  have g9:Hid (∀b,b<=k->1<=uR (radN c) b k/\uR (radN c) b k<=n):=Kh (fun b hb=>by
   have hp:∀x,x<k->0<radN c x:=fun x hx=>(oX h5.out.pos (by rw[<-HK.out];exact hx)).1;refine⟨fV hp,?_⟩;have h1:=bY h5.out;rw[<-HK.out,<-HN.out]at h1
   have h2:∀d,b+d<=k->uR (radN c) (b+d) k<=uR (radN c) b k:=by
    intro d
    induction d with
    | zero=>intro _;exact Nat.le_refl _
    | succ d ih =>
     intro hd;refine Nat.le_trans ?_ (ih (by omega));rw[sD (a:=b+d) (b:=k) (by omega)];exact Nat.le_mul_of_pos_left _ (hp _ (by omega))
   have h3:∀d,d<=k->uR (radN c) d k<=uR (radN c) 0 k:=by
    intro d
    induction d with
    | zero=>intro _;exact Nat.le_refl _
    | succ d ih =>
     intro hd;refine Nat.le_trans ?_ (ih (by omega));rw[sD (a:=d) (b:=k) (by omega)];exact Nat.le_mul_of_pos_left _ (hp _ (by omega))
   rw[<-h1];exact h3 b hb)
  clear h8 c3 g6 g5 a0 g3 H5 a5 j1 j0 fr ir pr;go_wp2
  go_loopg [7,8,9,10,11,12,55] k (fun gh a7 a8 a9 a10 a11 a12 a55 wr=>∃(b s:Nat) (z:Int),gh=b/\a7=.int .i64 (s:Int)/\a8=.int .i64 z/\z=(b:Int)-1/\b<=k/\s=uR (radN c) b k/\wr.heap[M]?=some (.cells #[.int .i64 (k:Int),.slice (some ⟨ng,0,none⟩) N N,.slice (some ⟨fb,fo,none⟩) n aC] 59 (0,0))/\Arr wr ng 3 (ints (mtab c n k b n))/\w2.grownBy wr none)
  case atStart=>exact⟨k,1,(k:Int)-1,rfl,rfl,by go_num,rfl,Nat.le_refl _,n0.out.symm,i2.out,i9.out,a4.out⟩
  clear i2 i9 a4 q0 q1 q2;obtain⟨b,s,z,g0,rfl,rfl,hz,k2,hs,h8,h9,H4⟩:=hrel;obtain⟨m4,HS,HM,H6,h6⟩:=K5 g0 hs h8 h9 H4;obtain⟨q0,q1,q2⟩:=uK (HB.out _ H4).1.1;clear g0 hs h8 h9 H4;rcases b with _|b
  ·obtain rfl:z = -1:=by omega
   have c9:=m5.out.kept h6.out (by simp)
   have g7:MachAt wr M k n (dfaC c) ng 0 N fb fo aC []:=by
    refine⟨by have h:=HM.out;rw[b4.out]at h⊢;exact h,fun x a hx ha=>?_,fun x hx=>c9.boolQ x (by rw[<-HN.out];exact hx),H6.out.lt,c9.1,⟨by rw[<-b4.out];exact Nat.le_refl _,by unfold maxLen;omega⟩,⟨fc1,by unfold maxLen;omega⟩⟩
    have hl:x*k+a<n*k:=by
     have:(x+1)*k<=n*k:=Nat.mul_le_mul_right k hx;rw[Nat.add_mul,Nat.one_mul]at this;omega
    have h1:=H6.out.int (x*k+a) (by rw[nH];exact hl);rw[qMT hx ha]at h1
    have h2:nx (dfaC c) x a=qL c x a:=by
     unfold nx entN;rw[fB (by rw[<-HN.out];exact hx) (by rw[<-HK.out];exact ha),Int.toNat_natCast]
    rw[Nat.zero_add,h2];exact h1
   have b5:=nO h5.out;rw[<-HN.out,<-HK.out]at b5
   have l7:=Kh (qBN wr M k n (dfaC c) ng 0 N fb fo aC [] b5 (by omega) rfl (fun q hq=>by
    obtain⟨u,hu,hr⟩:=qGZ h5.out (q:=q) (by rw[<-HN.out];exact hq)
    exact⟨u,by rw[HK.out];exact hu,hr⟩) g7)
   clear c9 g7 b5 q0 q1 q2 hz;go_wp2_with fail;refine l7.out.mono ?_;rintro e wm ⟨v,bb,rfl,f9,k3⟩;have i5:=Kh (zC h6.out f9);clear f9;rcases k3 with ⟨rfl,hmn,f,nx,rfl,hdt⟩|⟨rfl,hmn,rfl⟩
   ·obtain⟨sa,n1,c1,sb,n2,c2,rfl,rfl⟩:=hdt.shapes
    have m7:=Kh hdt;have a3:=Kh hmn;clear hdt hmn;go_upto_region 22 with fail;obtain⟨D,hD⟩:=Nm wm.heap.size;obtain⟨wd,H1⟩:=Nm (wm.alloc (.cells #[.int .i64 (k:Int),.int .i64 0,.slice sa n1 c1,.slice sb n2 c2] 37));have gd:=Ga wm (.cells #[.int .i64 (k:Int),.int .i64 0,.slice sa n1 c1,.slice sb n2 c2] 37) none;have bd:=heap_alloc_new wm (.cells #[.int .i64 (k:Int),.int .i64 0,.slice sa n1 c1,.slice sb n2 c2] 37);rw[<-H1,<-hD]at bd;rw[<-H1]at gd;rw[<-H1,<-hD];have m8:=Kh (m7.out.grow gd);have a1:=zC i5.out gd;have h4:=HB.out _ a1;obtain⟨d0,d1,d2,d3⟩:=zL bd;obtain⟨r0,r1,r2,r3⟩:=zL h4.1.2;have f0:=zA h4.1.2 0;have f1:=zA h4.1.2 1;have f2:=zA h4.1.2 2;have f3:=zA h4.1.2 3;have H8:=Kh h4;clear H1 hD gd bd a1 h4;go_wp2;refine bodyPost_ret (v:=.tuple #[.agg #[.int .i64 (k:Int),.int .i64 0,.slice sa n1 c1,.slice sb n2 c2],.int .i64 0]) (by simp[results,Try.results13,go_sem,r0,r1,r2,r3]) rfl ?_;obtain⟨e7,H7⟩:=uB H8.out.1.2 (.int .i64 (k:Int)) (.int .i64 0) (.slice sa n1 c1) (.slice sb n2 c2);have c0:∀e',e'≠37->yZ wd e' (P+1):=fun e' he=>⟨_,_,_,H8.out.1.2,fun e1=>he e1.symm⟩
    have k7:=m8.out.kept H7 (fun j e=>by
     have e:=Oj e;subst e
     exact⟨c0 4 (by decide),c0 22 (by decide),c0 3 (by decide)⟩)
    exact⟨.inr ⟨_,_,by rw[<-HK.out],h5.out,by rw[<-HK.out];exact a3.out,by rw[<-HK.out];exact k7⟩,zC H8.out.2 H7 (fun j e=>by have e:P+1=j:=Oj e;have:=b3.out;omega)⟩
   have a3:=Kh hmn;clear hmn;go_upto_region 22 with fail;obtain⟨D,hD⟩:=Nm wm.heap.size;obtain⟨wd,H1⟩:=Nm (wm.alloc (.cells #[.int .i64 0,.int .i64 0,.slice none 0 0,.slice none 0 0] 37));have gd:=Ga wm (.cells #[.int .i64 0,.int .i64 0,.slice none 0 0,.slice none 0 0] 37) none;rw[<-H1]at gd;rw[<-H1,<-hD];have a1:=zC i5.out gd;have h4:=HB.out _ a1;obtain⟨r0,r1,r2,r3⟩:=zL h4.1.2;have f0:=zA h4.1.2 0;have f1:=zA h4.1.2 1;have f2:=zA h4.1.2 2;have f3:=zA h4.1.2 3;have H8:=Kh h4;clear H1 hD gd a1 h4;go_wp2;refine bodyPost_ret (v:=.tuple #[.agg #[.int .i64 0,.int .i64 0,.slice none 0 0,.slice none 0 0],.int .i64 3]) (by simp[results,Try.results13,go_sem,r0,r1,r2,r3]) rfl ?_;obtain⟨e7,H7⟩:=uB H8.out.1.2 (.int .i64 0) (.int .i64 0) (.slice none 0 0) (.slice none 0 0);exact⟨.inl ⟨3,rfl,.inr ⟨rfl,h5.out,by rw[<-HK.out];exact a3.out⟩⟩,zC H8.out.2 H7 (fun j e=>by have e:P+1=j:=Oj e;have:=b3.out;omega)⟩
  obtain rfl:z=(b:Int):=by omega
  have H2:b<k:=(by omega);obtain⟨i,p,r,ei,ep,j9,j8,n6,hr,b9,f7⟩:=l4.out b H2;have ci:=(i4.out.kept h6.out (by simp)).int b (by rw[<-HK.out];exact H2);have cp:=(l6.out.kept h6.out (by simp)).int b (by rw[h5.out.pl,<-HK.out];exact H2);rw[ei]at ci;rw[ep]at cp;have er:IntKind.i64.wrap ((i:Int)+(p:Int))=(r:Int):=by rw[hr];exact xR (by omega)
  have n7:(b:Int)<k:=(by omega);have n8:(0:Int)<=b:=by omega
  have b7:=g9.out (b+1) k2;rw[<-HS.out]at b7;obtain⟨b7,n4⟩:=b7;have b8:=(g9.out b (by omega)).2;rw[sD H2,<-HS.out,<-b9]at b8;obtain⟨l3,i0,l8,n9⟩:=K4 b8 b9 f7 hr;have j5:1<=r:=by omega
  have n5:r<=4000:=by omega
  have d6:=H6.out;rw[qGM]at d6;have e6:=Kh d6;have m6:=Kh ei;clear b8 b9 f7 hr d6 ei ep hz j8;go_wp2
  go_quiet (fail)
  clear er;go_wp2
  go_loopg [10,11,12,55] n (fun gh a10 a11 a12 a55 wx=>∃q:Nat,gh+q=n/\a55=.int .i64 q/\wx.heap[M]?=some (.cells #[.int .i64 (k:Int),.slice (some ⟨ng,0,none⟩) N N,.slice (some ⟨fb,fo,none⟩) n aC] 59 (0,0))/\Arr wx ng 3 (ints (mtab c n k b q))/\w2.grownBy wx none)
  case atStart =>
   first
   | exact⟨0,rfl,rfl,HM.out,e6.out,h6.out⟩
   | exact⟨0,rfl,rfl,zB HM.out (zS _ _ none),e6.out.kept (zS _ _ none) (by simp),zC h6.out (zS _ _ none)⟩
  clear HM H6 e6 h6 ci cp q0 q1 q2;obtain⟨q,f8,rfl,h8,h9,H4⟩:=hrel;obtain⟨d9,HM,H6,h6⟩:=K4 f8 h8 h9 H4;obtain⟨q0,q1,q2⟩:=uK (HB.out _ H4).1.1;obtain⟨m0,m1,m2⟩:=uK h8;clear f8 h8 h9 H4;by_cases hq:q<n
  ·have e9:(q:Int)<n:=by omega
   obtain⟨t,d,e,x,vv,X,Y,yy,HF,i7,n3,HE,g8,l9,g4,j2,k8,l1,m9⟩:=qRX h5.out HK.out HN.out hq H2 c6 c4 HS.out i0.out l8.out j9 j5;rw[<-b4.out]at g4;have j4:¬(s:Int)=0:=by omega
   have j6:¬(r:Int)=0:=by omega
   have k0:(d:Int)+1=(e:Int):=by have:=HE.out;omega
   have ci:=(i4.out.kept h6.out (by simp)).int b (by rw[<-HK.out];exact H2);rw[m6.out]at ci;obtain⟨f1,f2⟩:=HF.out;obtain⟨f3,f4,f5⟩:=i7.out
   go_upto_if 67 with fail
   clear f1 f2 f3 f4 f5 k0 j4 j6;go_cut [12] (fun v12 wx=>v12=.int .i64 (x:Int)/\wr=wx)
   case first =>
    by_cases heq:e=r
    ·have a2:((e:Int) == (r:Int))=true:=by rw[beq_iff_eq];omega
     rw[a2];have d7:Hid (x=i):=Kh (by rw[g8.out,if_pos heq]);clear heq a2;go_wp2
     go_meet
     exact⟨by rw[d7.out],rfl⟩
    have a2:((e:Int) == (r:Int))=false:=by rw[beq_eq_false_iff_ne];omega
    rw[a2];have d7:Hid (x=e):=Kh (by rw[g8.out,if_neg heq]);clear heq a2;go_wp2
    go_meet
    exact⟨by rw[d7.out,i7.out.2.2],rfl⟩
   obtain⟨rfl,rfl⟩:=hcut;clear ci q0 q1 q2;have h9:=H6.out;have d4:Y<(mtab c n k b q).length:=(by rw[nH,<-b4.out];exact g4);obtain⟨u,hu⟩:=Nm ((mtab c n k b q).getD Y 0);have cy:=h9.int Y d4;rw[<-hu]at cy;have fy:=h9.frozen Y;have H3:=h9.int_set Y d4 (vv:Int);have c5:=qMS (c:=c) H2 hq;rw[<-k8.out,<-l1.out]at c5;rw[c5]at H3;have d8:=Kh H3;have c8:=zF wr ⟨ng,Y,none⟩ (.int .i64 (vv:Int));have m3:=Kh (zC h6.out c8 (fun j e=>by have e:ng=j:=Oj e;subst e;exact Nat.le_trans i6.out.size i3.out.2.2.1));have a3:=Kh (zB HM.out c8 (fun e=>i3.out.2.2.2 (Oj e).symm));have k4:(Y:Int)<N:=(by omega);obtain⟨I1,I2,I3,I4⟩:=l9.out;obtain⟨y0,y1,y2⟩:=m9.out;clear h9 d4 hu H3 c5 c8 j2;go_wp2;clear m0 m1 m2 I1 I2 I3 I4 y0 y1 y2 cy fy e9;go_roundg (n-(q+1))
   case measure=>have:=d9.out;omega
   exact⟨q+1,by have:=d9.out;omega,by go_num,a3.out,d8.out,m3.out⟩
  have e8:q=n:=by have:=d9.out;omega
  have e9:¬(q:Int)<n:=(by omega);have l5:=Kh e8
  have j3:wrap64 ((s:Int)*(r:Int))=((uR (radN c) b k:Nat):Int):=by
   rw[sD H2,<-HS.out,<-i0.out];have e1:(s:Int)*(r:Int)=((r*s:Nat):Int):=by rw[Nat.mul_comm];simp
   rw[e1];have:=l3.out;exact IntWalk.wrap64_in _ (by omega)
  obtain⟨s2,b6⟩:=Nm (uR (radN c) b k);rw[<-b6]at j3;have l2:=Kh b6;clear b6 e8;go_wp2;go_roundg b
  case measure=>have:=m4.out;omega
  exact⟨b,s2,(b:Int)-1,rfl,rfl,by go_num,rfl,by omega,l2.out,HM.out,by have:=H6.out;rw[l5.out]at this;exact this,h6.out⟩
 have hb:(E != 0)=true:=by rw[bne_iff_ne];exact h0
 obtain⟨r0,r1,r2,r3⟩:=zL (HB.out _ h7).1.2;have f0:=zA (HB.out _ h7).1.2 0;have f1:=zA (HB.out _ h7).1.2 1;have f2:=zA (HB.out _ h7).1.2 2;have f3:=zA (HB.out _ h7).1.2 3;have i8:=Kh (HB.out _ h7);have H0:=Kh h0;clear h7 h0;go_wp2;refine bodyPost_ret (v:=.tuple #[.agg #[.int .i64 0,.int .i64 0,.slice none 0 0,.slice none 0 0],.int .i64 E]) (by simp[results,Try.results13,go_sem,r0,r1,r2,r3]) rfl ?_;obtain⟨e7,H7⟩:=uB i8.out.1.2 (.int .i64 0) (.int .i64 0) (.slice none 0 0) (.slice none 0 0);exact⟨.inl ⟨E,rfl,.inl ⟨e0.out,fun h=>H0.out (e0.out.trans h)⟩⟩,zC i8.out.2 H7 (fun j e=>by have e:P+1=j:=Oj e;have:=b3.out;omega)⟩
end Go.Proofs.Ytobakifdllameaa
namespace Go.Proofs.Ytobakifdllameaa
open Go.RowKit
section
variable {base o:Nat} {W W':World} {L S:Int} {fs:List Bool} {t:List (List Int)} {hs:List Value} {sf sn:Option Addr} {cf cn:Nat}
theorem Built.pushR {m:Nat}{b:Bool}{row:List Int}{rv:Value}{a9 a7:Option Addr}{a8 a6:Nat}{ls:List (Nat×Obj)}{ps:List (Nat×TypeId×List Value)}(h:Built base W o L S fs t hs sf cf sn cn)(hm:t.length=m)(hM:Many W (FB sf sn) W' [⟨base,22,.slice a7 (m+1) a6,m+1,hs++[rv],1⟩,⟨base,4,.slice a9 (m+1) a8,m+1,bls fs++[.bool b],1⟩] ls ps)(a5:RowT W.heap.size 3 W rv (ints row)){W2:World}(a4:W2=(W'.setCell ⟨o,2,none⟩ (.slice a9 (m+1) a8)).setCell ⟨o,3,none⟩ (.slice a7 (m+1) a6)):Built base W2 o L S (fs++[b]) (t++[row]) (hs++[rv]) a9 a8 a7 a6/\∀w0:World,w0.grownBy W (some o)->w0.heap.size<=base->w0.grownBy W2 (some o):=by
 have h2:fs.length=m:=h.len.trans hm;have hN:=hM.own 0 _ rfl;have hF:=hM.own 1 _ rfl;simp only[]at hN hF;have h0:=hM.but.heap h.box h.notbox;have h1:=(h.rows.snoc a5).keptF hM.but (fun k hk=>.inr (h.other k hk));have s1:=heap_setCell_same W' o 2 _ _ (.slice a9 (m+1) a8) h0;have s2:=heap_setCell_same _ o 3 _ _ (.slice a7 (m+1) a6) s1;have g1:W'.grownBy W2 (some o):=by rw[a4];exact zH (zF W' ⟨o,2,none⟩ _) (zF (W'.setCell ⟨o,2,none⟩ (.slice a9 (m+1) a8)) ⟨o,3,none⟩ _)
 have h3:yZ W' 3 o:=⟨_,_,_,h0,by decide⟩;refine⟨⟨?_,?_,?_,?_,by simp[h.len]⟩,fun w0 hw0 hb=>?_⟩
 ·rw[a4,s2]
  simp[h2,hm]
 ·have:=hF.kept g1 (.inr (zV hF h0 (by decide)))
  rw[List.length_append,h2];simpa [bls] using this
 ·have:=hN.kept g1 (.inr (zV hN h0 (by decide)))
  rw[List.length_append,hm];exact this
 ·exact(h1.kept g1 (fun k hk=>.inr (by have:=Oj hk;subst this;exact h3))).mono (Nat.le_trans hM.but.size g1.size)
 exact zH (hM.but.grown hw0 (fun k hk=>.inr (Nat.le_trans hb (h.ge k hk)))) g1
end
theorem qIR {Q:Exit->Act->World->Prop}{v0 v2 v3 v4 v5 v8 v9 k9 j0 j1 j2 j3 j4 j5 j6 j7 j8 j9 i0 i1 i2 i3 i4 i5 i6 i7 i8 i9 g0 g1 g2 g5 g6 g7 g8 g9 f0 f1 f2 f3 f4 f5 f6 f7 f8 f9 e0 e1 e4 e5 e6 e7 e8 e9 d0 d1 d2 d3 d4 d5 d6 d7 d8 d9 c0 c3 c4 c5 c6 c7 c8 c9 b0 b1 b2 b3 b4 b5 b6 b7 l3 l4 l5 l6 l7 l8 l9 k0 k1 k2 k3 k4 k5 k6 k7 k8 b9 a0 a1 a2 a3 a4 a5 a6 a7:Value}{dd:_}{w:World}{base P D q n m fb fo fc cr cf cn:Nat}{k:Nat}{sr sf sn:Option Addr}{L S:Int}{fs:List Bool}{t:List (List Int)}{hs:List Value}{b:Bool}{row:List Int}(h:Built base w D L S fs t hs sf cf sn cn)(hm:t.length=m)(l2:m<=4000)(b8:RowT w.heap.size 3 w (.slice sr k cr) (ints row))(hq:q<n)(hn:n<=fc/\fc<=9223372036854775807)(a8:base<=w.heap.size)(hP:P<base)(l1:fb<base)(c1:w.cell? ⟨P,2,none⟩=some (.slice (some ⟨fb,fo,none⟩) n fc))(c2:w.cell? ⟨fb,fo+q,none⟩=some (.bool b))(a9:∀(z84 z85 z86 z87 z88 z89 z90 z91 z92 z93 z94 z95 z96 z97 z98 z99:Value) (w':World) (sf':Option Addr) (cf':Nat) (sn':Option Addr) (cn':Nat),Built base w' D L S (fs++[b]) (t++[row]) (hs++[.slice sr k cr]) sf' cf' sn' cn'->(∀w0:World,w0.grownBy w (some D)->w0.heap.size<=base->w0.grownBy w' (some D))->Q .normal ⟨(v0::(Value.pointer (some ⟨P,0,none⟩))::v2::v3::v4::v5::(Value.pointer (some ⟨D,0,none⟩))::(Value.int .i64 (q:Int))::v8::v9::k9::j0::(Value.slice sr k cr)::j1::j2::j3::j4::j5::j6::j7::j8::j9::i0::i1::i2::i3::i4::i5::i6::i7::i8::i9::g0::g1::g2::g5::g6::g7::g8::g9::f0::f1::f2::f3::f4::f5::f6::f7::f8::f9::e0::e1::e4::e5::e6::e7::e8::e9::d0::d1::d2::d3::d4::d5::d6::d7::d8::d9::c0::c3::c4::c5::c6::c7::c8::c9::b0::b1::b2::b3::b4::b5::b6::b7::z84::z85::z86::z87::z88::z89::z90::z91::z92::z93::z94::z95::z96::z97::z98::z99::b9::a0::a1::a2::a3::a4::a5::a6::a7::[]).toArray,dd⟩ w'):Code.wp Try.prog (reg Try.f22 22) Q ⟨(v0::(Value.pointer (some ⟨P,0,none⟩))::v2::v3::v4::v5::(Value.pointer (some ⟨D,0,none⟩))::(Value.int .i64 (q:Int))::v8::v9::k9::j0::(Value.slice sr k cr)::j1::j2::j3::j4::j5::j6::j7::j8::j9::i0::i1::i2::i3::i4::i5::i6::i7::i8::i9::g0::g1::g2::g5::g6::g7::g8::g9::f0::f1::f2::f3::f4::f5::f6::f7::f8::f9::e0::e1::e4::e5::e6::e7::e8::e9::d0::d1::d2::d3::d4::d5::d6::d7::d8::d9::c0::c3::c4::c5::c6::c7::c8::c9::b0::b1::b2::b3::b4::b5::b6::b7::l3::l4::l5::l6::l7::l8::l9::k0::k1::k2::k3::k4::k5::k6::k7::k8::b9::a0::a1::a2::a3::a4::a5::a6::a7::[]).toArray,dd⟩ w:=by
 obtain⟨w7,H7⟩:=Nm w.drew;have h8:w.grownBy w7 none:=by rw[H7];exact zW w none
 have m1:=Kh H7;have H9:=Kh h8;have h9:=Kh (h.grow h8);have HM:=Kh hm;have HE:=Kh a9;have H1:=Kh ((b8.kept h8 (by simp)).mono h8.size);have H8:fs.length=m:=h.len.trans hm
 have hM:Many w7 (FB sf sn) w7 [⟨base,22,.slice sn m cn,m,hs,1⟩,⟨base,4,.slice sf m cf,m,bls fs,1⟩] [] []:=by
  have h1:=h9.out.many;simp only[rN,rF,H8,hm]at h1;exact h1
 have H0:=h9.out.box;rw[H8,hm]at H0;have H6:=Kh H0;have H5:=Kh h9.out.notbox;have H2:base<=w7.heap.size:=Nat.le_trans a8 h8.size;have m0:=zJ c1 h8;have l0:=zJ c2 h8
 have h4:Hid (∀W rs ls,Many w7 (FB sf sn) W rs ls []->W.cell? ⟨P,2,none⟩=some (.slice (some ⟨fb,fo,none⟩) n fc)/\W.cell? ⟨fb,fo+q,none⟩=some (.bool b)/\W.cell? ⟨D,2,none⟩=some (.slice sf m cf)/\W.cell? ⟨D,3,none⟩=some (.slice sn m cn)):=Kh (fun W rs ls h=>by
  obtain⟨_,_,e2,e3⟩:=zL (h.but.heap H6.out H5.out)
  exact⟨h.but.cell m0 (fun hf=>by have:=h9.out.ge _ hf;simp only at this;omega),h.but.cell l0 (fun hf=>by have:=h9.out.ge _ hf;simp only at this;omega),e2,e3⟩)
 have m2:(q:Int)<n:=by omega
 have C:=Kh (h4.out _ _ _ hM);clear H7 h8 h hm a9 b8 H8 H0 c1 c2 m0 l0 a8
 conv=>arg 2;whnf
 refine wp_region_noPanic ?_;refine yQ (G:=wH 15 (fun _=>True) (fun W=>W.cell? ⟨P,2,none⟩=some (.slice (some ⟨fb,fo,none⟩) n fc)/\W.cell? ⟨fb,fo+q,none⟩=some (.bool b)/\W.cell? ⟨D,2,none⟩=some (.slice sf m cf)/\W.cell? ⟨D,3,none⟩=some (.slice sn m cn))) (by kernel_rfl) ?_;rw[<-m1.out];refine zO 0 ⟨trivial,fun _=>C.out⟩ ?_;refine xG 1 ⟨trivial,fun _=>C.out⟩ ?_;refine zO 2 ⟨trivial,fun _=>C.out⟩ ?_;refine xG 3 ⟨trivial,fun _=>C.out⟩ ?_;refine zO 4 ⟨trivial,fun _=>C.out⟩ ?_;refine xG 5 ⟨trivial,fun _=>C.out⟩ ?_;refine xG 6 ⟨trivial,fun _=>C.out⟩ ?_;refine zO 9 ⟨trivial,fun _=>C.out⟩ ?_;refine xG 10 ⟨trivial,fun _=>C.out⟩ ?_;refine zO 11 ⟨trivial,fun _=>C.out⟩ ?_;refine twoG (i:=7) (j:=12) (by kernel_rfl) rfl rfl (fun K hK=>?_) (fun K hK=>?_)
 ·go_simp
  refine hK.out _ _ ⟨trivial,fun _=>h4.out _ _ _ (hM.alloc _)⟩ ?_;clear hK K
  try simp only[Act.put,sPd,sPe,sPf,sPa,sPb,sPc]
  refine twoG (i:=8) (j:=12) (by kernel_rfl) rfl rfl (fun K hK=>?_) (fun K hK=>?_)
  ·refine wJ rfl (.tmp 85) (.tmp 91) 26 rfl wF 1 _ _ rfl ⟨_,_,_,_,_,(hM.alloc _),_,rfl,rfl,rfl,rfl,?g3,?g4,H2,_,_,_,List.Mem.head _,(by first|rfl|simp),rfl,?_⟩
   case g3=>(simp only[];unfold maxLen;omega)
   case g4=>(simp only[];omega)
   intro sa1 sc1 w1x h0;have h6:=h0.litcell (List.Mem.head _)
   try simp only[zU]at h6
   try(have h5:=h0.litcell (List.Mem.tail _ (List.Mem.head _));try simp only[zU]at h5)
   refine hK.out _ _ ⟨trivial,fun _=>h4.out _ _ _ (h0)⟩ ?_;clear hK K
   try simp only[Act.put,sPd,sPe,sPf,sPa,sPb,sPc]
   refine zO 14 ⟨trivial,fun _=>h4.out _ _ _ h0⟩ ?_;refine oneG (i:=12) (by kernel_rfl) rfl (fun K hK=>?_);go_simp;refine hK.out _ _ ⟨trivial,fun _=>h4.out _ _ _ (h0.alloc _)⟩ ?_;clear hK K
   try simp only[Act.put,sPd,sPe,sPf,sPa,sPb,sPc]
   refine oneG (i:=13) (by kernel_rfl) rfl (fun K hK=>?_);refine wJ rfl (.tmp 94) (.tmp 96) 35 rfl xY 0 _ _ rfl ⟨_,_,_,_,_,(h0.alloc _),_,rfl,rfl,rfl,rfl,?g3,?g4,H2,_,_,_,List.Mem.head _,(by first|rfl|simp),rfl,?_⟩
   case g3=>(simp only[];unfold maxLen;omega)
   case g4=>(simp only[];omega)
   intro sa2 sc2 w2x h3;have h6:=h3.litcell (List.Mem.head _)
   try simp only[zU]at h6
   try(have h5:=h3.litcell (List.Mem.tail _ (List.Mem.head _));try simp only[zU]at h5)
   refine hK.out _ _ ⟨trivial,fun _=>h4.out _ _ _ (h3)⟩ ?_;clear hK K
   try simp only[Act.put,sPd,sPe,sPf,sPa,sPb,sPc]
   refine oneG (i:=15) (by kernel_rfl) rfl (fun K hK=>?_);have h7:=h3.but.heap H6.out H5.out;have cb2:=zG h7 2;have fb2:=zA h7 2;simp only[List.getElem_toArray,List.getElem_cons_zero,List.getElem_cons_succ]at cb2;go_simp;have h2:=heap_setCell_same _ D 2 _ _ (.slice sa1 (m+1) sc1) h7;have cb3:=zG h2 3;have fb3:=zA h2 3;simp at cb3;refine hK.out _ _ ⟨trivial,fun h=>by simp at h⟩ ?_;clear hK K
   try simp only[Act.put,sPd,sPe,sPf,sPa,sPb,sPc]
   refine zO 16 ⟨trivial,fun h=>by simp at h⟩ ?_;refine oneG (i:=17) (by kernel_rfl) rfl (fun K hK=>?_);go_simp;refine hK.out _ _ ⟨trivial,fun h=>by simp at h⟩ ?_;clear hK K
   try simp only[Act.put,sPd,sPe,sPf,sPa,sPb,sPc]
   refine tZ (by kernel_rfl) ?_ _;refine NoPanic.normal ?_;obtain⟨H4,H3⟩:=h9.out.pushR (b:=b) (row:=row) HM.out h3 H1.out rfl;exact HE.out _ _ _ _ _ _ _ _ _ _ _ _ _ _ _ _  _ _ _ _ _ H4 (fun w0 hw0 hb0=>H3 w0 (zC hw0 H9.out) hb0)
  go_simp;refine hK.out _ _ ⟨trivial,fun _=>h4.out _ _ _ ((hM.alloc _).alloc _)⟩ ?_;clear hK K
  try simp only[Act.put,sPd,sPe,sPf,sPa,sPb,sPc]
  refine oneG (i:=8) (by kernel_rfl) rfl (fun K hK=>?_);refine wJ rfl (.tmp 85) (.tmp 91) 26 rfl wF 1 _ _ rfl ⟨_,_,_,_,_,((hM.alloc _).alloc _),_,rfl,rfl,rfl,rfl,?g3,?g4,H2,_,_,_,List.Mem.tail _ (List.Mem.head _),(by first|rfl|simp),rfl,?_⟩
  case g3=>(simp only[];unfold maxLen;omega)
  case g4=>(simp only[];omega)
  intro sa1 sc1 w1x h0;have h6:=h0.litcell (List.Mem.head _)
  try simp only[zU]at h6
  try(have h5:=h0.litcell (List.Mem.tail _ (List.Mem.head _));try simp only[zU]at h5)
  refine hK.out _ _ ⟨trivial,fun _=>h4.out _ _ _ (h0)⟩ ?_;clear hK K
  try simp only[Act.put,sPd,sPe,sPf,sPa,sPb,sPc]
  refine zO 14 ⟨trivial,fun _=>h4.out _ _ _ h0⟩ ?_;refine oneG (i:=13) (by kernel_rfl) rfl (fun K hK=>?_);refine wJ rfl (.tmp 94) (.tmp 96) 35 rfl xY 0 _ _ rfl ⟨_,_,_,_,_,(h0),_,rfl,rfl,rfl,rfl,?g3,?g4,H2,_,_,_,List.Mem.head _,(by first|rfl|simp),rfl,?_⟩
  case g3=>(simp only[];unfold maxLen;omega)
  case g4=>(simp only[];omega)
  intro sa2 sc2 w2x h3;have h6:=h3.litcell (List.Mem.head _)
  try simp only[zU]at h6
  try(have h5:=h3.litcell (List.Mem.tail _ (List.Mem.head _));try simp only[zU]at h5)
  refine hK.out _ _ ⟨trivial,fun _=>h4.out _ _ _ (h3)⟩ ?_;clear hK K
  try simp only[Act.put,sPd,sPe,sPf,sPa,sPb,sPc]
  refine oneG (i:=15) (by kernel_rfl) rfl (fun K hK=>?_);have h7:=h3.but.heap H6.out H5.out;have cb2:=zG h7 2;have fb2:=zA h7 2;simp only[List.getElem_toArray,List.getElem_cons_zero,List.getElem_cons_succ]at cb2;go_simp;have h2:=heap_setCell_same _ D 2 _ _ (.slice sa1 (m+1) sc1) h7;have cb3:=zG h2 3;have fb3:=zA h2 3;simp at cb3;refine hK.out _ _ ⟨trivial,fun h=>by simp at h⟩ ?_;clear hK K
  try simp only[Act.put,sPd,sPe,sPf,sPa,sPb,sPc]
  refine zO 16 ⟨trivial,fun h=>by simp at h⟩ ?_;refine oneG (i:=17) (by kernel_rfl) rfl (fun K hK=>?_);go_simp;refine hK.out _ _ ⟨trivial,fun h=>by simp at h⟩ ?_;clear hK K
  try simp only[Act.put,sPd,sPe,sPf,sPa,sPb,sPc]
  refine tZ (by kernel_rfl) ?_ _;refine NoPanic.normal ?_;obtain⟨H4,H3⟩:=h9.out.pushR (b:=b) (row:=row) HM.out h3 H1.out rfl;exact HE.out _ _ _ _ _ _ _ _ _ _ _ _ _ _ _ _  _ _ _ _ _ H4 (fun w0 hw0 hb0=>H3 w0 (zC hw0 H9.out) hb0)
 go_simp;refine hK.out _ _ ⟨trivial,fun _=>h4.out _ _ _ (hM.alloc _)⟩ ?_;clear hK K
 try simp only[Act.put,sPd,sPe,sPf,sPa,sPb,sPc]
 refine oneG (i:=7) (by kernel_rfl) rfl (fun K hK=>?_);go_simp;refine hK.out _ _ ⟨trivial,fun _=>h4.out _ _ _ ((hM.alloc _).alloc _)⟩ ?_;clear hK K
 try simp only[Act.put,sPd,sPe,sPf,sPa,sPb,sPc]
 refine oneG (i:=8) (by kernel_rfl) rfl (fun K hK=>?_);refine wJ rfl (.tmp 85) (.tmp 91) 26 rfl wF 1 _ _ rfl ⟨_,_,_,_,_,((hM.alloc _).alloc _),_,rfl,rfl,rfl,rfl,?g3,?g4,H2,_,_,_,List.Mem.head _,(by first|rfl|simp),rfl,?_⟩
 case g3=>(simp only[];unfold maxLen;omega)
 case g4=>(simp only[];omega)
 intro sa1 sc1 w1x h0;have h6:=h0.litcell (List.Mem.head _)
 try simp only[zU]at h6
 try(have h5:=h0.litcell (List.Mem.tail _ (List.Mem.head _));try simp only[zU]at h5)
 refine hK.out _ _ ⟨trivial,fun _=>h4.out _ _ _ (h0)⟩ ?_;clear hK K
 try simp only[Act.put,sPd,sPe,sPf,sPa,sPb,sPc]
 refine zO 14 ⟨trivial,fun _=>h4.out _ _ _ h0⟩ ?_;refine oneG (i:=13) (by kernel_rfl) rfl (fun K hK=>?_);refine wJ rfl (.tmp 94) (.tmp 96) 35 rfl xY 0 _ _ rfl ⟨_,_,_,_,_,(h0),_,rfl,rfl,rfl,rfl,?g3,?g4,H2,_,_,_,List.Mem.tail _ (List.Mem.head _),(by first|rfl|simp),rfl,?_⟩
 case g3=>(simp only[];unfold maxLen;omega)
 case g4=>(simp only[];omega)
 intro sa2 sc2 w2x h3;have h6:=h3.litcell (List.Mem.head _)
 try simp only[zU]at h6
 try(have h5:=h3.litcell (List.Mem.tail _ (List.Mem.head _));try simp only[zU]at h5)
 refine hK.out _ _ ⟨trivial,fun _=>h4.out _ _ _ (h3)⟩ ?_;clear hK K
 try simp only[Act.put,sPd,sPe,sPf,sPa,sPb,sPc]
 refine oneG (i:=15) (by kernel_rfl) rfl (fun K hK=>?_);have h7:=h3.but.heap H6.out H5.out;have cb2:=zG h7 2;have fb2:=zA h7 2;simp only[List.getElem_toArray,List.getElem_cons_zero,List.getElem_cons_succ]at cb2;go_simp;have h2:=heap_setCell_same _ D 2 _ _ (.slice sa1 (m+1) sc1) h7;have cb3:=zG h2 3;have fb3:=zA h2 3;simp at cb3;refine hK.out _ _ ⟨trivial,fun h=>by simp at h⟩ ?_;clear hK K
 try simp only[Act.put,sPd,sPe,sPf,sPa,sPb,sPc]
 refine zO 16 ⟨trivial,fun h=>by simp at h⟩ ?_;refine oneG (i:=17) (by kernel_rfl) rfl (fun K hK=>?_);go_simp;refine hK.out _ _ ⟨trivial,fun h=>by simp at h⟩ ?_;clear hK K
 try simp only[Act.put,sPd,sPe,sPf,sPa,sPb,sPc]
 refine tZ (by kernel_rfl) ?_ _;refine NoPanic.normal ?_;obtain⟨H4,H3⟩:=h9.out.pushR (b:=b) (row:=row) HM.out h3 H1.out rfl;exact HE.out _ _ _ _ _ _ _ _ _ _ _ _ _ _ _ _  _ _ _ _ _ H4 (fun w0 hw0 hb0=>H3 w0 (zC hw0 H9.out) hb0)
end Go.Proofs.Ytobakifdllameaa
