/- Part 18 of the proof. -/
import Derived.Test.YtiknckajkdlppaaGreatQb17
set_option linter.unusedVariables false
set_option linter.unusedSimpArgs false
set_option maxRecDepth 100000
set_option maxHeartbeats 16000000
namespace Go.Proofs.YtiknckajkdlppaaGreat
open Go.Maps Go.RowKit
variable{n:Nat}{S:SynV}{I:SynI}{w w':World}
theorem SynE.lens {gs:List (List Nat)}{st:Nat}{fin:List Bool}(h:SynE gs n st fin S):S.k=gs.length/\1<=S.tab.length/\S.tab.length<=400/\(∀r∈S.tab,r.length=S.tab.length)/\S.words.length=S.tab.length/\S.images.length=gs.length/\S.accept.length=S.tab.length/\S.plus.length=S.tab.length:=by
 obtain⟨el,pr,la,ri,mm,hf,hl,e1,e2,e3,e4,e5,hG,hC,e6⟩:=h;have ht:S.tab.length=el.length:=by rw[e2,wW]
 rw[ht];refine⟨e1,hf.en.pos,hl,fun r hr=>?_,by rw[e3,oK],by rw[e4,kL],by rw[e5,kV],by rw[e6,iZ]⟩;rw[e2]at hr;obtain⟨x,_,rfl⟩:=List.mem_map.1 hr;exact sO _ _ _ _ _
def sD (I:SynI):Prop:=uP I=true/\∃S,nK (autI I) S/\S.I=I
def rJ (I:SynI)(w:World)(e:Ending)(w':World):Prop:=(∃z:Int,e=.returned (.int .i64 z)/\((z=0/\sD I)\/(z=8/\¬sD I)))/\w.grownBy w' none
theorem rJ.no (h:¬sD I)(hg:w.grownBy w' none):rJ I w (.returned (.int .i64 8)) w':=⟨⟨8,rfl,.inr ⟨rfl,h⟩⟩,hg⟩
theorem rJ.yes (h:sD I)(hg:w.grownBy w' none):rJ I w (.returned (.int .i64 0)) w':=⟨⟨0,rfl,.inl ⟨rfl,h⟩⟩,hg⟩
theorem nK.valid {d:DfaV}(h:nK d S)(h5:d.final.length<=512):uR d=0:=by
 obtain⟨n,k,m,M,hd,_⟩:=h;exact kW hd (by rw[<-hd.hn];exact h5)
theorem nK.lens (h:nK (autI I) S):(S.k:Int)=I.k/\1<=S.tab.length/\S.tab.length<=400/\(∀r∈S.tab,r.length=S.tab.length)/\S.words.length=S.tab.length/\1<=S.images.length/\S.accept.length=S.tab.length/\S.plus.length=S.tab.length:=by
 obtain⟨n,k,m,M,hd,e,hM,hm,hS⟩:=h;obtain⟨h1,h2,h3,h4,h5,h6,h7,h8⟩:=hS.lens;rw[uH]at h1 h6;have:=hd.hk;have:=hd.k1;exact⟨by rw[h1];exact(hd.hk).symm,h2,h3,h4,h5,yo,h7,h8⟩
theorem qEP (h:nK (autI I) S)(a9:S.I≠I):¬sD I:=fun⟨_,S',h',e'⟩=>a9 (by rw[h.eq h'];exact e')
theorem Mat.rows_ {B:Nat}{v:Value}{t:List (List Int)}(h:Mat B w v t)(hn:n=t.length)(h1:1<=n):∃b off cap,v=.slice (some ⟨b,off,none⟩) n cap/\n<=cap/\cap<=9223372036854775807/\∀x,x<n->∃a c,w.cell? ⟨b,off+x,none⟩=some (.slice a (t.getD x []).length c)/\Row B w (.slice a (t.getD x []).length c) (ints (t.getD x [])):=by
 obtain⟨b,off,cap,A,C,rfl,h2,h3,h0⟩:=h.some_ yo;exact⟨b,off,cap,by rw[hn],yo,by unfold maxLen at h3;omega,fun x hx=>⟨_,_,h0.hd x yo,h0.row x yo⟩⟩
def qUE (s t:List (List Int))(x:Nat):Prop:=∀y,y<x->s.getD y []=t.getD y []
theorem qGA (B:Nat)(w:World)(v:Value)(I:SynI)(a9:B<=w.heap.size)(h:pX B w v I):Calls Tryz.prog 25 #[v] w (rJ I w):=by
 obtain⟨vT,vW,vI,vA,vP,rfl,hT,hW,hI,hA,hP⟩:=id h;obtain⟨tA,tC,rfl⟩:=hT.shape;obtain⟨wA,wC,rfl⟩:=hW.shape;obtain⟨iA,iC,rfl⟩:=hI.shape;obtain⟨aA,aC,rfl⟩:=hA.shape;obtain⟨pA,pC,rfl⟩:=hP.shape;obtain⟨n,hn⟩:=Nm I.tab.length;obtain⟨wn,c9⟩:=Nm ((uZ I.words).length);obtain⟨iN,e5⟩:=Nm ((ints I.images).length);obtain⟨an,f6⟩:=Nm ((bls I.accept).length);obtain⟨pn,e4⟩:=Nm ((bls I.plus).length);obtain⟨k,hk⟩:=Nm I.k;rw[<-hn,<-c9,<-e5,<-f6,<-e4,<-hk]at h⊢;rw[<-hn]at hT;rw[<-c9]at hW;rw[<-e5]at hI;rw[<-f6]at hA;rw[<-e4]at hP;obtain⟨w1,b7⟩:=Nm (w.alloc (.cells #[.int .i64 k,.slice tA n tC,.slice wA wn wC,.slice iA iN iC,.slice aA an aC,.slice pA pn pC] 39));have e9:w.grownBy w1 none:=by rw[b7];exact Ga w _ none
 have c0:=heap_alloc_new w (.cells #[.int .i64 k,.slice tA n tC,.slice wA wn wC,.slice iA iN iC,.slice aA an aC,.slice pA pn pC] 39);obtain⟨P,f7⟩:=Nm w.heap.size;rw[<-b7,<-f7]at c0;obtain⟨q0,q1,q2,q3,q4,q5⟩:=zU c0;have f9:=Kh (qGD B w1 _ I (h.kept e9));have m1:Hid (∀W:World,w.grownBy W none->pX B W (.agg #[.int .i64 k,.slice tA n tC,.slice wA wn wC,.slice iA iN iC,.slice aA an aC,.slice pA pn pC]) I):=Kh (fun W hW=>h.kept hW);have HT:Hid (∀W:World,w.grownBy W none->Mat B W (.slice tA n tC) I.tab):=Kh (fun W hg=>hT.kept hg yq);have HW:Hid (∀W:World,w.grownBy W none->Row B W (.slice wA wn wC) (uZ I.words)):=Kh (fun W hg=>hW.kept hg yq);have HI:Hid (∀W:World,w.grownBy W none->Row B W (.slice iA iN iC) (ints I.images)):=Kh (fun W hg=>hI.kept hg yq);have HA:Hid (∀W:World,w.grownBy W none->Row B W (.slice aA an aC) (bls I.accept)):=Kh (fun W hg=>hA.kept hg yq);have HP:Hid (∀W:World,w.grownBy W none->Row B W (.slice pA pn pC) (bls I.plus)):=Kh (fun W hg=>hP.kept hg yq);obtain⟨m4,k5,k8,n1,HN,HK⟩:=Kf e9 b7 f7 c0 hn hk;obtain⟨sb,d8⟩:=Nm (uP I);rw[<-d8]at f9;have g0:=Kh d8;clear h hT hW hI hA hP hn c9 e5 f6 e4 e9 c0 b7 f7 hk d8;go_enter Tryz.func25,Tryz.ntmps25;go_upto_region 1 with fail;rw[<-k5.out,<-k8.out];go_wp2_with fail;refine f9.out.mono ?_;rintro e w2 ⟨rfl,e8⟩;have c8:=Kh (zE m4.out e8);have b9:=zD n1.out e8;have n0:=Kh b9;clear e8 q0 q1 q2 q3 q4 q5 f9;cases sb with
 | false =>
  clear b9;go_wp2;go_ret;exact rJ.no (fun h=>by have:=g0.out;rw[h.1]at this;exact absurd this jd) c8.out
 | true =>
  have d7:uP I=true:=g0.out.symm;have H5:=Kh (sZ d7);have k1:=Kh (aV B w2 _ I (Nat.le_trans a9 c8.out.size) (m1.out _ c8.out) d7);obtain⟨q0,q1,q2,q3,q4,q5⟩:=zU b9;clear d7 b9;go_wp2_with fail;refine k1.out.mono ?_;rintro e w3 ⟨v3,rfl,i1,e7⟩;have g1:=Kh (qIO w3.heap.size w3 v3 (autI I) (Nat.le_refl _) i1);have i8:=Kh (zE c8.out e7);have m9:=Kh (zD n0.out e7);clear e7 i1 q0 q1 q2 q3 q4 q5 k1;go_wp2_with fail;refine g1.out.mono ?_;rintro e w4 (⟨c,rfl,i3,k3,i2,a0⟩|⟨S,v4,rfl,c7,i5,a0⟩)
  ·have H4:Hid (¬sD I):=Kh (fun⟨_,S,h1,_⟩=>by
    have hv:=h1.valid (by have:=H5.out.2.1.2.1;have:=H5.out.1.2.2.2;simp only[autI];omega)
    exact(i2 hv).2 S h1)
   have n2:(c != 0)=true:=by rw[bne_iff_ne];exact i3
   have m3:=Kh (zE i8.out a0);clear k3 i2 i3 a0 g1;go_wp2;go_ret;exact rJ.no H4.out (zE m3.out (Ga _ _ none))
  obtain⟨l1,l2,l3,l4,l5,l6,l7,l8⟩:=c7.lens;obtain⟨jT,jW,jI,jA,jP,rfl,f8,a8,b1,b2,b0⟩:=i5.toI;obtain⟨J,hJ⟩:=Nm S.I;have j1:J.tab.length=S.tab.length:=by rw[hJ];exact xS _
  have j2:J.words.length=S.tab.length:=by rw[hJ];simp[SynV.I,l5]
  have j3:1<=J.images.length:=by rw[hJ];simpa [SynV.I] using l6
  have j4:J.accept.length=S.tab.length:=by rw[hJ];exact l7
  have j5:J.plus.length=S.tab.length:=by rw[hJ];exact l8
  have j6:J.k=I.k:=by rw[hJ];exact l1
  have j7:∀x,x<S.tab.length->(J.tab.getD x []).length=S.tab.length:=fun x hx=>by
   rw[hJ];show ((tabI S.tab).getD x []).length=_;rw[lB,List.length_map];exact l4 _ (wT hx)
  rw[<-hJ]at f8 a8 b1 b2 b0⊢;obtain⟨N,hN⟩:=Nm S.tab.length;rw[<-hN]at j1 j2 j4 j5 j7 l2 l3;have H4:Hid (J≠I->¬sD I):=Kh (fun hne=>qEP c7 (by rw[<-hJ];exact hne));have HV:Hid (J=I->sD I):=Kh (fun e=>⟨g0.out.symm,S,c7,by rw[<-hJ];exact e⟩);obtain⟨jb,jo,jC,rfl,jc1,jc2,jrow⟩:=f8.rows_ (n:=N) j1.symm l2;obtain⟨uA,uC,rfl⟩:=a8.shape;obtain⟨vA2,vC2,rfl⟩:=b1.shape;obtain⟨xA,xC,rfl⟩:=b2.shape;obtain⟨yA,yC,rfl⟩:=b0.shape;have e1:(uZ J.words).length=N:=by simp[uZ,j2]
  have e2:(bls J.accept).length=N:=by rw[yB,j4]
  have e3:(bls J.plus).length=N:=by rw[yB,j5]
  rw[e1]at a8⊢;rw[e2]at b2⊢;rw[e3]at b0⊢;obtain⟨ik,g8⟩:=Nm ((ints J.images).length);rw[<-g8]at b1⊢;obtain⟨jk,g7⟩:=Nm J.k;rw[<-g7];obtain⟨w5,b6⟩:=Nm (w4.alloc (.cells #[.int .i64 jk,.slice (some ⟨jb,jo,none⟩) N jC,.slice uA N uC,.slice vA2 ik vC2,.slice xA N xC,.slice yA N yC] 39));have H3:w4.grownBy w5 none:=(by rw[b6];exact Ga w4 _ none);have b8:=heap_alloc_new w4 (.cells #[.int .i64 jk,.slice (some ⟨jb,jo,none⟩) N jC,.slice uA N uC,.slice vA2 ik vC2,.slice xA N xC,.slice yA N yC] 39);obtain⟨b5,f0⟩:=Nm w4.heap.size;rw[<-b6,<-f0]at b8;have g9:=zE (zE i8.out a0) H3;obtain⟨b4,h0,k4,m8⟩:=Kd b8 g9 b6 f0;have a7:=Kh (zD (zD m9.out a0) H3)
  have HR:Hid (∀W:World,w5.grownBy W none->∀x,x<N->∃a c,W.cell? ⟨jb,jo+x,none⟩=some (.slice a (J.tab.getD x []).length c)/\Row w4.heap.size W (.slice a (J.tab.getD x []).length c) (ints (J.tab.getD x []))):=Kh (fun W hW x hx=>by
   obtain⟨a,c,h1,h2⟩:=jrow x hx;have hg:=zE H3 hW
   exact⟨a,c,zN h1 hg,h2.kept hg yq⟩)
  have k9:=Kh (fun W (hW:w5.grownBy W none)=>a8.kept (zE H3 hW) yq);have l9:=Kh (fun W (hW:w5.grownBy W none)=>b1.kept (zE H3 hW) yq);have m0:=Kh (fun W (hW:w5.grownBy W none)=>b2.kept (zE H3 hW) yq);have l0:=Kh (fun W (hW:w5.grownBy W none)=>b0.kept (zE H3 hW) yq);obtain⟨J1,J2,J3,J4,J5,J6⟩:=Kf j1 j2 j3 j4 j5 j6;have J7:=Kh j7;obtain⟨d0,d1,d2,d3,d4,d5⟩:=zU b8;obtain⟨q0,q1,q2,q3,q4,q5⟩:=zU a7.out;clear l1 l4 l5 l6 l7 l8 c7 i5 f8 a8 b1 b2 b0 hJ j1 j2 j3 j4 j5 j6 j7 hN jrow e1 e2 e3 g8 g7 b6 H3 b8 f0 g9 a0 g1;go_upto_region 4 with fail;rw[<-k4.out,<-m8.out];by_cases hNn:N=n
  case neg =>
   have e1:((N:Int) != (n:Int))=true:=by rw[bne_iff_ne];omega
   go_wp2;go_ret;exact rJ.no (H4.out (fun e=>hNn (by rw[<-J1.out,e,HN.out]))) h0.out
  subst hNn;have hl:=HT.out _ h0.out;obtain⟨tb,tf,tcap,et,t1,t2,_⟩:=hl.rows_ (n:=N) HN.out l2;simp only[Value.slice.injEq,true_and]at et;obtain⟨rfl,rfl⟩:=et
  have k6:Hid (∀W:World,w5.grownBy W none->∀x,x<N->∃a c,W.cell? ⟨tb,tf+x,none⟩=some (.slice a (I.tab.getD x []).length c)/\Row B W (.slice a (I.tab.getD x []).length c) (ints (I.tab.getD x []))):=Kh (fun W hW x hx=>by
   obtain⟨b,o,c,e,_,_,h3⟩:=(HT.out W (zE h0.out hW)).rows_ (n:=N) HN.out l2;simp only[Value.slice.injEq,Option.some.injEq,Addr.mk.injEq,and_true,true_and]at e;obtain⟨⟨rfl,rfl⟩,_⟩:=e
   exact h3 x hx)
  clear hl;go_wp2
  go_loopg [5,6,30] N (fun gh a5 a6 a30 wr=>∃x:Nat,gh+x=N/\a30=.int .i64 x/\qUE J.tab I.tab x/\w5.grownBy wr none)
  case atStart=>exact⟨0,rfl,rfl,fun y hy=>by omega,zX _ _⟩
  clear d0 d1 d2 d3 d4 d5 q0 q1 q2 q3 q4 q5;obtain⟨x,e6,rfl,d6,H1⟩:=hrel;obtain⟨g3,i6,m2⟩:=Kc e6 d6 H1;obtain⟨d0,d1,d2,d3,d4,d5⟩:=zU (zD b4.out H1);obtain⟨q0,q1,q2,q3,q4,q5⟩:=zU (zD a7.out H1);by_cases hx:x<N
  ·have k2:(x:Int)<N:=yo
   obtain⟨a,c,hc,hr⟩:=HR.out _ H1 x hx;obtain⟨a',c',i4,g6⟩:=k6.out _ H1 x hx;have g4:=Kh (cV w4.heap.size B wr _ _ _ _ hr g6 (by rw[J7.out x hx];exact l2));obtain⟨bq,f2⟩:=Nm (decide (J.tab.getD x []=I.tab.getD x []));obtain⟨r1,e0⟩:=Nm ((J.tab.getD x []).length);obtain⟨r2,d9⟩:=Nm ((I.tab.getD x []).length);rw[<-f2,<-e0,<-d9]at g4;rw[<-e0]at hc;rw[<-d9]at i4;have j8:=Kh f2;clear e6 d6 H1 hr g6 f2 e0 d9 d0 d2 d3 d4 d5 q0 q2 q3 q4 q5;go_wp2_with fail;refine g4.out.mono ?_;rintro e w6 ⟨rfl,i0⟩;have i7:=Kh (zE m2.out i0);clear i0 g4 hc i4 d1 q1;cases bq with
   | false =>
    go_wp2;go_ret
    exact rJ.no (H4.out (fun e=>by
     have h1:=j8.out.symm;rw[e]at h1
     exact absurd rfl (of_decide_eq_false h1))) (zE h0.out i7.out)
   | true =>
    go_wp2;go_roundg (N-(x+1))
    case measure=>have:=g3.out;omega
    refine⟨x+1,by have:=g3.out;omega,by go_num,fun y hy=>?_,i7.out⟩;rcases Nat.lt_or_ge y x with h|h
    ·exact i6.out y h
    have:y=x:=yo
    subst this;exact of_decide_eq_true j8.out.symm
  have g5:x=N:=by have:=g3.out;omega
  have k2:¬(x:Int)<N:=yo
  have k7:Hid (J.tab=I.tab):=Kh (by
   refine List.ext_getElem (by rw[J1.out,HN.out]) fun i h1 h2=>?_;have:=i6.out i (by rw[g5,<-J1.out];exact h1)
   rwa [zQ h1,zQ h2]at this)
  have h7:=H5.out.2.1;have i9:=Kh (qHI w4.heap.size B wr _ _ _ _ (k9.out _ H1) (HW.out _ (zE h0.out H1)) (by rw[J2.out];exact l2));have m6:Hid (∀W:World,w5.grownBy W none->_):=Kh (fun W hW=>cV w4.heap.size B W _ _ _ _ (l9.out _ hW) (HI.out _ (zE h0.out hW)) J3.out);have m7:Hid (∀W:World,w5.grownBy W none->_):=Kh (fun W hW=>eL w4.heap.size B W _ _ _ _ (m0.out _ hW) (HA.out _ (zE h0.out hW)) (by rw[J4.out];exact l2) (by rw[h7.2.1,<-HN.out];exact l2));have m5:Hid (∀W:World,w5.grownBy W none->_):=Kh (fun W hW=>eL w4.heap.size B W _ _ _ _ (l0.out _ hW) (HP.out _ (zE h0.out hW)) (by rw[J5.out];exact l2) (by rw[h7.2.2.1,<-HN.out];exact l2));have g2:=Kh H1;clear e6 d6 H1 g5 h7;have H6:=i9;clear i9;obtain⟨bw,f1⟩:=Nm (decide (J.words=I.words));rw[<-f1]at H6;have j0:=Kh f1;clear f1;go_wp2_with fail;refine H6.out.mono ?_;rintro e w6 ⟨rfl,hg⟩;have H0:=Kh (zE g2.out hg);clear hg H6 d0 d1 d2 d3 d4 d5 q0 q1 q2 q3 q4 q5;obtain⟨d0,d1,d2,d3,d4,d5⟩:=zU (zD b4.out H0.out);obtain⟨q0,q1,q2,q3,q4,q5⟩:=zU (zD a7.out H0.out);cases bw with
  | false =>
   go_wp2;go_ret
   exact rJ.no (H4.out (fun e=>by
    have h1:=j0.out.symm;rw[e]at h1
    exact absurd rfl (of_decide_eq_false h1))) (zE h0.out H0.out)
  | true =>
   have H8:=Kh (m6.out _ H0.out);obtain⟨bi,f4⟩:=Nm (decide (J.images=I.images));rw[<-f4]at H8;have j9:=Kh f4;clear f4;go_wp2_with fail;refine H8.out.mono ?_;rintro e w7 ⟨rfl,hg⟩;have h9:=Kh (zE H0.out hg);clear hg H8 d0 d1 d2 d3 d4 d5 q0 q1 q2 q3 q4 q5;obtain⟨d0,d1,d2,d3,d4,d5⟩:=zU (zD b4.out h9.out);obtain⟨q0,q1,q2,q3,q4,q5⟩:=zU (zD a7.out h9.out);cases bi with
   | false =>
    go_wp2;go_ret
    exact rJ.no (H4.out (fun e=>by
     have h1:=j9.out.symm;rw[e]at h1
     exact absurd rfl (of_decide_eq_false h1))) (zE h0.out h9.out)
   | true =>
    have H9:=Kh (m7.out _ h9.out);obtain⟨ba,f5⟩:=Nm (decide (J.accept=I.accept));rw[<-f5]at H9;have k0:=Kh f5;clear f5;go_wp2_with fail;refine H9.out.mono ?_;rintro e w8 ⟨rfl,hg⟩;have h8:=Kh (zE h9.out hg);clear hg H9 d0 d1 d2 d3 d4 d5 q0 q1 q2 q3 q4 q5;obtain⟨d0,d1,d2,d3,d4,d5⟩:=zU (zD b4.out h8.out);obtain⟨q0,q1,q2,q3,q4,q5⟩:=zU (zD a7.out h8.out);cases ba with
    | false =>
     go_wp2;go_ret
     exact rJ.no (H4.out (fun e=>by
      have h1:=k0.out.symm;rw[e]at h1
      exact absurd rfl (of_decide_eq_false h1))) (zE h0.out h8.out)
    | true =>
     have H7:=Kh (m5.out _ h8.out);obtain⟨bp,f3⟩:=Nm (decide (J.plus=I.plus));rw[<-f3]at H7;have b3:=Kh f3;clear f3;go_wp2_with fail;refine H7.out.mono ?_;rintro e w9 ⟨rfl,hg⟩;have H2:=Kh (zE h8.out hg);clear hg H7 d0 d1 d2 d3 d4 d5 q0 q1 q2 q3 q4 q5;obtain⟨d0,d1,d2,d3,d4,d5⟩:=zU (zD b4.out H2.out);obtain⟨q0,q1,q2,q3,q4,q5⟩:=zU (zD a7.out H2.out);cases bp with
     | false =>
      go_wp2;go_ret
      exact rJ.no (H4.out (fun e=>by
       have h1:=b3.out.symm;rw[e]at h1
       exact absurd rfl (of_decide_eq_false h1))) (zE h0.out H2.out)
     | true =>
      go_wp2;go_ret
      exact rJ.yes (HV.out (by
       have h1:=k7.out;have h2:=of_decide_eq_true j0.out.symm;have h3:=of_decide_eq_true j9.out.symm;have h4:=of_decide_eq_true k0.out.symm;have h5:=of_decide_eq_true b3.out.symm;have h6:=J6.out;obtain⟨a1,a2,a3,a4,a5,a6⟩:=J;obtain⟨c1,c2,c3,c4,c5,c6⟩:=I;simp only at h1 h2 h3 h4 h5 h6
       rw[h1,h2,h3,h4,h5,h6])) (zE h0.out H2.out)
end Go.Proofs.YtiknckajkdlppaaGreat
namespace Go.Proofs.YtiknckajkdlppaaGreat
variable{i b a:Nat}
section
variable {gs:List (List Nat)} {n:Nat} {el:List (List Nat)} {pr la:List Int} {ri:List (List Nat)}
theorem nZ:(tabI (tabE pr la ri el.length)).length=el.length:=by rw[xS,wW]
theorem Enm.entV (h:Enm gs n el pr la ri el.length)(hg:∀g∈gs,IsT n g){x y:Nat}(hx:x<el.length)(hy:y<el.length):entN (tabI (tabE pr la ri el.length)) x y<el.length/\el.getD (entN (tabI (tabE pr la ri el.length)) x y) []=vH (el.getD x []) (el.getD y []):=by
 rw[qIN];exact h.tab hg hx hy
theorem Enm.shapeV (h:Enm gs n el pr la ri el.length)(hg:∀g∈gs,IsT n g)(h4:el.length<=400):tJ (tabI (tabE pr la ri el.length))=0:=by
 have hp:=h.en.pos;unfold tJ;rw[nZ,if_neg yo,if_neg yo,if_pos];rw[List.all_eq_true];intro r hr;obtain⟨x,hx,rfl⟩:=List.getElem_of_mem hr;have h0:x<el.length:=by rw[nZ]at hx;exact hx
 rw[<-zQ (d:=[]) hx]
 have hl:((tabI (tabE pr la ri el.length)).getD x []).length=el.length:=by
  rw[lB,List.length_map,zQ (by rw[wW];exact h0)];simp[tabE,sO]
 refine pB.2 ⟨hl,fun y hy=>?_⟩;rw[hl]at hy;have e:=kZ (tabE pr la ri el.length) x y;have h1:=(h.tab hg h0 hy).1;unfold Go.Proofs.YtiknckajkdlppaaGreat.ent at e;rw[e];omega
theorem Enm.assocV (h:Enm gs n el pr la ri el.length)(hg:∀g∈gs,IsT n g):qMB (tabI (tabE pr la ri el.length)):=by
 intro g h0 x y hx hy;rw[nZ]at h0 hx hy;obtain⟨a1,a2⟩:=h.entV hg hx h0;obtain⟨b1,b2⟩:=h.entV hg h0 hy;obtain⟨c1,c2⟩:=h.entV hg hx b1;refine oH (d:=[]) h.en.nodup (h.entV hg a1 hy).1 c1 ?_;rw[(h.entV hg a1 hy).2,c2,b2,a2,eM (h.en.it _ (wT hx)) (h.en.it _ (wT h0))]
end
theorem nK.tab {d:DfaV}{S:SynV}(h:nK d S):Shape (tabI S.tab)/\qD (tabI S.tab)=0:=by
 obtain⟨n,k,m,M,hd,rfl,hM,hm,el,pr,la,ri,mm,hf,hl,e1,e2,_⟩:=h;have hs:=hf.shapeV (mL hM) hl;rw[e2];exact⟨qEU hs,iX hs (hf.assocV (mL hM))⟩
theorem sD.tab {I:SynI}(h:sD I):Shape I.tab/\qD I.tab=0:=by
 obtain⟨_,S,h1,e⟩:=h;rw[<-e];exact h1.tab
open Go.Maps Go.RowKit
def valC (t:List (List Int))(im Ls:List Nat):Nat->Nat->Nat->Nat
 | 0,_,v=>v
 | a+1,r,v=>valC t im Ls a (r / Ls.getD a 0) (entN t v (powN t (im.getD a 0) (r % Ls.getD a 0)))
def imI (I:SynI):List Nat:=I.images.map Int.toNat
structure PowsR (I:SynI)(Ls js:List Nat)(a:Nat):Prop where
 l1:Ls.length=a
 l2:js.length=a
 pow:∀b,b<a->PowR I.tab ((imI I).getD b 0) (Ls.getD b 0) (js.getD b 0)
def perL (Ls js:List Nat):List Nat:=(List.range Ls.length).map fun b=>Ls.getD b 0-js.getD b 0
def gT (I:SynI)(c:CntV):Prop:=∃Ls js,PowsR I Ls js I.images.length/\c.idx=vD js/\c.per=vD (perL Ls js)/\uD c.idx c.per I.images.length=some c.acc.length/\c.acc=(List.range c.acc.length).map fun i=>I.accept.getD (valC I.tab (imI I) Ls I.images.length i 0) false
def qIB (I:SynI):Prop:=∃Ls js,PowsR I Ls js I.images.length/\uD (vD js) (vD (perL Ls js)) I.images.length=none
def qCL (I:SynI)(w:World)(e:Ending)(w':World):Prop :=
 ((∃z:Int,e=.returned (.tuple #[.agg #[.slice none 0 0,.slice none 0 0,.slice none 0 0],.int .i64 z])/\((z=8/\¬sD I)\/(z=20/\sD I/\nH I.tab=false)\/(z=3/\sD I/\nH I.tab=true/\qIB I))) \/
 ∃c v,e=.returned (.tuple #[v,.int .i64 0])/\sD I/\nH I.tab=true/\gT I c/\pK w'.heap.size w' v c)/\w.grownBy w' none
theorem sX (Ls js:List Nat):(perL Ls js).length=Ls.length:=by simp[perL]
theorem vK (l:List Nat):(vD l).length=l.length:=by simp[vD]
theorem rG (l:List Nat):ints (vD l)=nats l:=by simp[ints,vD,nats]
theorem qBL {l:List Nat}(h:i<l.length):(vD l).getD i 0=((l.getD i 0:Nat):Int):=by
 rw[vD,xY (x:=0) h]
theorem qNF {Ls js:List Nat}(h:b<Ls.length):(perL Ls js).getD b 0=Ls.getD b 0-js.getD b 0:=by
 rw[zQ (by rw[sX];exact h)];simp[perL]
theorem qBB {Ls js:List Nat}(L j:Nat)(h:js.length=Ls.length):perL (Ls++[L]) (js++[j])=perL Ls js++[L-j]:=by
 refine List.ext_getElem (by simp[perL]) fun i h1 h2=>?_;rw[sX,List.length_append,List.length_singleton]at h1;rcases Nat.lt_or_ge i Ls.length with h3|h3
 ·rw[List.getElem_append_left (by rw[sX];exact h3)]
  simp only[perL,List.getElem_map,List.getElem_range];rw[List.getD_eq_getElem?_getD,List.getD_eq_getElem?_getD,List.getElem?_append_left h3,List.getElem?_append_left yo,<-List.getD_eq_getElem?_getD,<-List.getD_eq_getElem?_getD]
 have e:i=Ls.length:=yo
 subst e;rw[List.getElem_append_right (by rw[sX];exact Nat.le_refl _)];simp[perL,List.getD_eq_getElem?_getD,<-h]
theorem PowsR.add {I:SynI}{Ls js:List Nat}{L j:Nat}(h:PowsR I Ls js a)(hp:PowR I.tab ((imI I).getD a 0) L j):PowsR I (Ls++[L]) (js++[j]) (a+1) where
 l1:=by simp[h.l1]
 l2:=by simp[h.l2]
 pow:=fun b hb=>by
  rcases Nat.lt_or_ge b a with h1|h1
  ·rw[List.getD_eq_getElem?_getD (l:=Ls++[L]),List.getD_eq_getElem?_getD (l:=js++[j]),List.getElem?_append_left (by rw[h.l1];exact h1),List.getElem?_append_left (by rw[h.l2];exact h1),<-List.getD_eq_getElem?_getD,<-List.getD_eq_getElem?_getD]
   exact h.pow b h1
  ·have e:b=a:=yo
   subst e
   rw[List.getD_eq_getElem?_getD (l:=Ls++[L]),List.getD_eq_getElem?_getD (l:=js++[j]),List.getElem?_append_right (by rw[h.l1];exact Nat.le_refl _),List.getElem?_append_right (by rw[h.l2];exact Nat.le_refl _),h.l1,h.l2,Nat.sub_self]
   exact hp
theorem PowsR.posC {I:SynI}{Ls js:List Nat}(h:PowsR I Ls js a):PosC (vD js) (vD (perL Ls js)):=fun b hb=>by
 rw[vK,h.l2]at hb
 have h1:=(h.pow b hb).2.1
 rw[qBL (by rw[h.l2];exact hb),qBL (by rw[sX,h.l1];exact hb),qNF (by rw[h.l1];exact hb)]
 omega
def lT (I:SynI)(Ls:List Nat)(k c i:Nat):List Bool:=((List.range i).map fun j=>I.accept.getD (valC I.tab (imI I) Ls k j 0) false)++List.replicate (c-i) false
theorem qHA (I:SynI)(Ls:List Nat)(k c:Nat):lT I Ls k c 0=List.replicate c false:=by simp[lT]
theorem qKP {I:SynI}{Ls:List Nat}{k c:Nat}(h:i<c):(lT I Ls k c i).set i (I.accept.getD (valC I.tab (imI I) Ls k i 0) false)=lT I Ls k c (i+1):=by
 unfold lT;rw[List.set_append_right _ _ yq,List.range_succ,List.map_append];simp only[List.length_map,List.length_range,Nat.sub_self];rw[show c-i=(c-(i+1))+1 by omega,List.replicate_succ];simp
theorem qBM (I:SynI)(Ls:List Nat)(k c:Nat):lT I Ls k c c=(List.range c).map fun j=>I.accept.getD (valC I.tab (imI I) Ls k j 0) false:=by simp[lT]
def gM (I:SynI)(Ls:List Nat):List (List Nat):=(List.range Ls.length).map fun b=>vQ I.tab ((imI I).getD b 0) (Ls.getD b 0)
theorem tS (I:SynI)(Ls:List Nat):(gM I Ls).length=Ls.length:=by simp[gM]
theorem dT (I:SynI)(Ls:List Nat)(L:Nat):gM I (Ls++[L])=gM I Ls++[vQ I.tab ((imI I).getD Ls.length 0) L]:=by
 refine List.ext_getElem (by simp[gM]) fun i h1 h2=>?_;rw[tS,List.length_append,List.length_singleton]at h1;rcases Nat.lt_or_ge i Ls.length with h3|h3
 ·rw[List.getElem_append_left (by rw[tS];exact h3)]
  simp only[gM,List.getElem_map,List.getElem_range];rw[List.getD_eq_getElem?_getD (l:=Ls++[L]),List.getElem?_append_left h3,<-List.getD_eq_getElem?_getD]
 have e:i=Ls.length:=yo
 subst e;rw[List.getElem_append_right (by rw[tS];exact Nat.le_refl _)];simp[gM,List.getD_eq_getElem?_getD]
theorem qJL {I:SynI}{Ls:List Nat}(h:b<Ls.length):(gM I Ls).getD b []=vQ I.tab ((imI I).getD b 0) (Ls.getD b 0):=by
 rw[zQ (by rw[tS];exact h)];simp[gM]
inductive CoS (I:SynI)(w6:World)(o k pg:Nat)(hsP:List Value)(Ls js:List Nat)(sI:Option Addr)(cI:Nat)(sP:Option Addr)(cP:Nat)(va:Value)(tl:List RowS)(w:World):Prop
 | mk (X:Nat->Prop) (hB:BoxS w6.heap.size X o 35 w6 w (⟨w6.heap.size,22,.slice (some ⟨pg,0,none⟩) k k,k,hsP,1⟩::⟨w6.heap.size,3,.slice sI Ls.length cI,Ls.length,nats js,1⟩::⟨w6.heap.size,3,.slice sP Ls.length cP,Ls.length,nats (perL Ls js),1⟩::tl) #[.slice sI Ls.length cI,.slice sP Ls.length cP,va] w)
  (hT:xX X 3 nats w (hsP.take Ls.length) (gM I Ls))
section
variable {I:SynI} {w6 w w':World} {o k pg:Nat} {hsP:List Value} {Ls js:List Nat} {sI:Option Addr} {cI:Nat} {sP:Option Addr} {cP:Nat} {va:Value} {tl:List RowS}
theorem CoS.grow (h:CoS I w6 o k pg hsP Ls js sI cI sP cP va tl w)(hg:w.grownBy w' none):CoS I w6 o k pg hsP Ls js sI cI sP cP va tl w':=by
 obtain⟨X,hB,hT⟩:=h;exact⟨X,(hB.grow hg).rebase,hT.kept (hB.mem.keep hg) hg.size⟩
theorem CoS.g (h:CoS I w6 o k pg hsP Ls js sI cI sP cP va tl w):w6.grownBy w none:=by
 obtain⟨X,hB,hT⟩:=h;exact hB.grown
theorem CoS.cells (h:CoS I w6 o k pg hsP Ls js sI cI sP cP va tl w):w.heap[o]?=some (.cells #[.slice sI Ls.length cI,.slice sP Ls.length cP,va] 35 (0,0))/\Arr w pg 22 hsP/\hsP.length=k/\w.ownsRow w6.heap.size 3 1 (.slice sI Ls.length cI) Ls.length (nats js)/\w.ownsRow w6.heap.size 3 1 (.slice sP Ls.length cP) Ls.length (nats (perL Ls js)):=by
 obtain⟨X,hB,hT⟩:=h;have h1:=hB.own (r:=⟨w6.heap.size,22,.slice (some ⟨pg,0,none⟩) k k,k,hsP,1⟩) yq;exact⟨hB.box,Arr.of_owns h1,by have:=h1.1;simpa using this,hB.own (r:=⟨w6.heap.size,3,.slice sI Ls.length cI,Ls.length,nats js,1⟩) yq,hB.own (r:=⟨w6.heap.size,3,.slice sP Ls.length cP,Ls.length,nats (perL Ls js),1⟩) yq⟩
theorem CoS.row (h:CoS I w6 o k pg hsP Ls js sI cI sP cP va tl w)(hb:b<Ls.length)(h0:0<Ls.getD b 0)(hk:Ls.length<=k):∃rb ro rc,w.cell? ⟨pg,b,none⟩=some (.slice (some ⟨rb,ro,none⟩) (Ls.getD b 0) rc)/\Ls.getD b 0<=rc/\rc<=maxLen/\∀i,i<Ls.getD b 0->w.cell? ⟨rb,ro+i,none⟩=some (.int .i64 ((powN I.tab ((imI I).getD b 0) i:Nat):Int)):=by
 obtain⟨_,hA,hl,_,_⟩:=h.cells;obtain⟨X,hB,hT⟩:=h;have h1:=hT.1;have h2:b<(hsP.take Ls.length).length:=by rw[List.length_take];omega
 have h3:=(hT.2 b h2 (by rw[tS];exact hb)).1.row;have e:(gM I Ls)[b]'(by rw[tS];exact hb)=vQ I.tab ((imI I).getD b 0) (Ls.getD b 0):=by rw[<-zQ (d:=[]) (by rw[tS];exact hb),qJL hb]
 rw[e]at h3;have hc:=hA.cell b yo;rw[show hsP[b]'(yo)=(hsP.take Ls.length)[b]'h2 by simp]at hc;obtain⟨rb,ro,rc,ev,_,r1,r2,r3⟩:=h3.some_ (by rw[zV,vJ];exact h0);rw[zV,vJ]at ev r1;rw[ev]at hc;exact⟨rb,ro,rc,hc,r1,r2,fun i hi=>by rw[<-jG hi];exact r3.nat i (by rw[vJ];exact hi)⟩
end
section
variable {I:SynI} {w6 w:World} {o k pg:Nat} {hsP:List Value} {Ls js:List Nat} {sI:Option Addr} {cI:Nat} {sP:Option Addr} {cP:Nat} {ag c:Nat} {xs:List Bool}
theorem CoS.begin {w':World}(h:CoS I w6 o k pg hsP Ls js sI cI sP cP (.slice none 0 0) [] w)(hg:w.grownBy w' none)(ho:w'.ownsRow w.heap.size 4 1 (.slice (some ⟨ag,0,none⟩) c c) c (bls xs)):CoS I w6 o k pg hsP Ls js sI cI sP cP (.slice (some ⟨ag,0,none⟩) c c) [⟨w6.heap.size,4,.slice (some ⟨ag,0,none⟩) c c,c,bls xs,1⟩] (w'.setCell ⟨o,2,none⟩ (.slice (some ⟨ag,0,none⟩) c c)):=by
 obtain⟨X,hB,hT⟩:=h;have hA:=hB.add hg (e:=4) (sz:=1) (n:=c) (v:=.slice (some ⟨ag,0,none⟩) c c) (xs:=bls xs) ho jd;have hS:=hA.set 2 (.slice (some ⟨ag,0,none⟩) c c);exact⟨X,hS.rebase,hT.kept hS.kept hS.wk⟩
theorem CoS.putM (h:CoS I w6 o k pg hsP Ls js sI cI sP cP (.slice (some ⟨ag,0,none⟩) c c) [⟨w6.heap.size,4,.slice (some ⟨ag,0,none⟩) c c,c,bls xs,1⟩] w)(hi:i<c)(u:Bool):CoS I w6 o k pg hsP Ls js sI cI sP cP (.slice (some ⟨ag,0,none⟩) c c) [⟨w6.heap.size,4,.slice (some ⟨ag,0,none⟩) c c,c,bls (xs.set i u),1⟩] (w.setCell ⟨ag,i,none⟩ (.bool u)):=by
 obtain⟨X,hB,hT⟩:=h;have hP:=hB.put (j:=3) rfl hi (.bool u);rw[show (bls xs).set i (.bool u)=bls (xs.set i u) by simp[bls,List.map_set]]at hP;exact⟨X,hP.rebase,hT.kept hP.kept hP.wk⟩
theorem CoS.arrM (h:CoS I w6 o k pg hsP Ls js sI cI sP cP (.slice (some ⟨ag,0,none⟩) c c) [⟨w6.heap.size,4,.slice (some ⟨ag,0,none⟩) c c,c,bls xs,1⟩] w):Arr w ag 4 (bls xs)/\xs.length=c:=by
 obtain⟨X,hB,hT⟩:=h;have h1:=hB.own (r:=⟨w6.heap.size,4,.slice (some ⟨ag,0,none⟩) c c,c,bls xs,1⟩) yq;exact⟨Arr.of_owns h1,by have:=h1.1;simpa [bls] using this⟩
theorem CoS.cntT (h:CoS I w6 o k pg hsP Ls js sI cI sP cP (.slice (some ⟨ag,0,none⟩) c c) [⟨w6.heap.size,4,.slice (some ⟨ag,0,none⟩) c c,c,bls xs,1⟩] w):RowT w.heap.size 3 w (.slice sI Ls.length cI) (nats js)/\RowT w.heap.size 3 w (.slice sP Ls.length cP) (nats (perL Ls js))/\RowT w.heap.size 4 w (.slice (some ⟨ag,0,none⟩) c c) (bls xs):=by
 obtain⟨_,_,_,h2,h3⟩:=h.cells;obtain⟨X,hB,hT⟩:=h;have h1:=hB.own (r:=⟨w6.heap.size,4,.slice (some ⟨ag,0,none⟩) c c,c,bls xs,1⟩) yq;exact⟨RowT.of_owns h2,RowT.of_owns h3,RowT.of_owns h1⟩
end
theorem gG (I:SynI)(Ls:List Nat)(k c:Nat):(lT I Ls k c c).length=c:=by simp[lT]
theorem gT.make {I:SynI}{Ls js:List Nat}{k c:Nat}(hk:k=I.images.length)(h:PowsR I Ls js k)(hc:uD (vD js) (vD (perL Ls js)) k=some c):gT I ⟨vD js,vD (perL Ls js),lT I Ls k c c⟩:=by
 subst hk;exact⟨Ls,js,h,rfl,rfl,by rw[hc,gG],by simp only[gG];exact qBM _ _ _ _⟩
theorem qRR {Q:Exit->Act->World->Prop}{v0 v2 v3 v4 v6 v7 v8 v9 n7 n8 n9 m0 m1 m2 m3 m4 m5 m6 m7 m8 m9 l0 l1 l2 l3 l4 l5 l6 l7 l8 l9 k0 k1 k2 k3 k4 k5 k6 k7 k8 k9 j0 j1 j2 j3 j4 j5 j6 j7 j8 j9 i0 i1 i2 i3 i4 i5 i6 i7 i8 i9 g0 g1 g2 g3 g4 g5 g6 g7 g8 g9 f0 f1 f2 f3 f4 f5 f6 f7 f8 e0 e1 e2 e3 e4 e5 e6 e7 e8 e9 d0 d1 d2 d3 d4 d5 c9 b0 b1 b2 b3 b4 b5 b6 b7 b8 b9 a0 a1 a2 a3 a4 a5 a6 a7 d7 d8 d9 c2 c3 c4 c5 c6 c7 a8 a9:Value}{I:SynI}{w6 w:World}{o k pg:Nat}{n6:List Value}{Ls js:List Nat}{sI:Option Addr}{cI:Nat}{sP:Option Addr}{cP:Nat}{ag c:Nat}{xs:List Bool}{P v ab ao an aC:Nat}{b:Bool}(h:CoS I w6 o k pg n6 Ls js sI cI sP cP (.slice (some ⟨ag,0,none⟩) c c) [⟨w6.heap.size,4,.slice (some ⟨ag,0,none⟩) c c,c,bls xs,1⟩] w)(hi:i<c)(n5:c<=2000)(hv:v<an)(n4:an<=400)(d6:an<=aC/\aC<=maxLen)(c0:w.cell? ⟨P,4,none⟩=some (.slice (some ⟨ab,ao,none⟩) an aC))(c1:w.cell? ⟨ab,ao+v,none⟩=some (.bool b))(c8:∀(z119 z120 z121 z122 z123 z124 z125 z126 z127:Value) (w':World),CoS I w6 o k pg n6 Ls js sI cI sP cP (.slice (some ⟨ag,0,none⟩) c c) [⟨w6.heap.size,4,.slice (some ⟨ag,0,none⟩) c c,c,bls (xs.set i b),1⟩] w'->Q .normal ⟨(v0::(Value.pointer (some ⟨P,0,none⟩))::v2::v3::v4::(Value.pointer (some ⟨o,0,none⟩))::v6::v7::v8::v9::n7::n8::n9::(Value.int .i64 (i:Int))::m0::(Value.int .i64 (v:Int))::m1::m2::m3::m4::m5::m6::m7::m8::m9::l0::l1::l2::l3::l4::l5::l6::l7::l8::l9::k0::k1::k2::k3::k4::k5::k6::k7::k8::k9::j0::j1::j2::j3::j4::j5::j6::j7::j8::j9::i0::i1::i2::i3::i4::i5::i6::i7::i8::i9::g0::g1::g2::g3::g4::g5::g6::g7::g8::g9::f0::f1::f2::f3::f4::f5::f6::f7::f8::e0::e1::e2::e3::e4::e5::e6::e7::e8::e9::d0::d1::d2::d3::d4::d5::c9::b0::b1::b2::b3::b4::b5::b6::b7::b8::b9::a0::a1::a2::a3::a4::a5::a6::a7::z119::z120::z121::z122::z123::z124::z125::z126::z127::a8::a9::[]).toArray,[]⟩ w'):Code.wp Tryz.prog (reg Tryz.f11 29) Q ⟨(v0::(Value.pointer (some ⟨P,0,none⟩))::v2::v3::v4::(Value.pointer (some ⟨o,0,none⟩))::v6::v7::v8::v9::n7::n8::n9::(Value.int .i64 (i:Int))::m0::(Value.int .i64 (v:Int))::m1::m2::m3::m4::m5::m6::m7::m8::m9::l0::l1::l2::l3::l4::l5::l6::l7::l8::l9::k0::k1::k2::k3::k4::k5::k6::k7::k8::k9::j0::j1::j2::j3::j4::j5::j6::j7::j8::j9::i0::i1::i2::i3::i4::i5::i6::i7::i8::i9::g0::g1::g2::g3::g4::g5::g6::g7::g8::g9::f0::f1::f2::f3::f4::f5::f6::f7::f8::e0::e1::e2::e3::e4::e5::e6::e7::e8::e9::d0::d1::d2::d3::d4::d5::c9::b0::b1::b2::b3::b4::b5::b6::b7::b8::b9::a0::a1::a2::a3::a4::a5::a6::a7::d7::d8::d9::c2::c3::c4::c5::c6::c7::a8::a9::[]).toArray,[]⟩ w:=by
 obtain⟨h8,_,_,_,_⟩:=h.cells;obtain⟨h4,h5⟩:=h.arrM
 have h0:∀W:World,w.grownBy W none->W.cell? ⟨o,2,none⟩=some (.slice (some ⟨ag,0,none⟩) c c)/\W.cell? ⟨P,4,none⟩=some (.slice (some ⟨ab,ao,none⟩) an aC)/\W.cell? ⟨ab,ao+v,none⟩=some (.bool b):=fun W hg=>by
  have q2:=zJ (zD h8 hg) 2;simp only[sPd,sPe,sPf]at q2;exact⟨q2,zN c0 hg,zN c1 hg⟩
 have h1:∀W:World,w.grownBy W none->∃u,W.cell? ⟨ag,i,none⟩=some u:=fun W hg=>⟨_,(h4.kept hg yq).cell i (by rw[yB,h5];exact hi)⟩;have h7:∀W:World,w.grownBy W none->W.frozen? ⟨ag,i,none⟩=false:=fun W hg=>(h4.kept hg yq).frozen i;obtain⟨H,H3,H2⟩:=Kc h h1 h7;have H6:(i:Int)<c:=yo
 have H5:(v:Int)<an:=yo
 have H0:=d6.1;have h9:aC<=9223372036854775807:=by have:=d6.2;unfold maxLen at this;omega
 clear h h8 h4 h1 h7 c0 c1 d6 h5;have H4:Hid (∀W:World,w.grownBy W none->W.cell? ⟨o,2,none⟩=some (.slice (some ⟨ag,0,none⟩) c c)/\W.cell? ⟨P,4,none⟩=some (.slice (some ⟨ab,ao,none⟩) an aC)/\W.cell? ⟨ab,ao+v,none⟩=some (.bool b)):=Kh (fun W hg=>h0 W hg);clear h0
 conv=>arg 2;whnf
 obtain⟨w7,h3⟩:=Nm w.drew;have h6:w.grownBy w7 none:=by rw[h3];exact zY w none
 have H1:=Kh h3;have h2:=Kh h6;clear h3 h6;refine wp_region_noPanic ?_;refine yI (G:=xM 9 (fun _=>True) (fun W=>W.cell? ⟨o,2,none⟩=some (.slice (some ⟨ag,0,none⟩) c c)/\W.cell? ⟨P,4,none⟩=some (.slice (some ⟨ab,ao,none⟩) an aC)/\W.cell? ⟨ab,ao+v,none⟩=some (.bool b))) yk ?_;rw[<-H1.out];have C:=Kh (H4.out w7 h2.out);refine zP 0 ?_;refine xD 1 ?_;refine zP 2 ?_;refine zP 3 ?_;refine xD 4 ?_;refine zP 5 ?_;refine zP 6 ?_;refine xD 7 ?_;refine zP 8 ?_;obtain⟨u9,q9⟩:=H3.out w7 h2.out;have f9:=H2.out w7 h2.out;refine jg 9 fun K hK=>?_;go_simp;refine hK.out _ _ ⟨trivial,fun h=>by simp at h⟩ ?_;clear hK K q9 f9
 try simp only[Act.put,sPd,sPe,sPf,sPa,sPb,sPc]
 refine uY yk ?_ _;refine NoPanic.normal ?_;exact c8 _ _ _ _ _ _ _ _ _  _ ((H.out.grow h2.out).putM hi _)
end Go.Proofs.YtiknckajkdlppaaGreat
namespace Go.Proofs.YtiknckajkdlppaaGreat
open Go.RowKit
variable{I:SynI}{c c':CntV}{s:ByteArray}{i k:Nat}
theorem qFI {xs ys:List Nat}(hl:xs.length=ys.length)(h:∀b,b<xs.length->xs.getD b 0=ys.getD b 0):xs=ys:=by
 refine List.ext_getElem hl fun i h1 h2=>?_;have:=h i h1
 rwa [zQ h1,zQ h2]at this
theorem PowsR.eq {Ls js a8 a9:List Nat}{a:Nat}(h:PowsR I Ls js a)(h':PowsR I a8 a9 a):Ls=a8/\js=a9 :=
 ⟨qFI (by rw[h.l1,h'.l1]) fun b hb=>((h.pow b (by rw[<-h.l1];exact hb)).eq (h'.pow b (by rw[<-h.l1];exact hb))).1,qFI (by rw[h.l2,h'.l2]) fun b hb=>((h.pow b (by rw[<-h.l2];exact hb)).eq (h'.pow b (by rw[<-h.l2];exact hb))).2⟩
theorem gT.eq (h:gT I c)(h':gT I c'):c=c':=by
 obtain⟨Ls,js,h1,h2,h3,h4,h5⟩:=h;obtain⟨Ls',js',g1,g2,g3,g4,g5⟩:=h';obtain⟨rfl,rfl⟩:=h1.eq g1;obtain⟨i1,p1,a1⟩:=c;obtain⟨i2,p2,a2⟩:=c';simp only at h2 h3 h4 h5 g2 g3 g4 g5;subst h2 h3 g2 g3;have hl:a1.length=a2.length:=Oj (h4.symm.trans g4);rw[h5,g5,hl]
theorem gT.no (h:gT I c)(h':qIB I):False:=by
 obtain⟨Ls,js,h1,h2,h3,h4,h5⟩:=h;obtain⟨Ls',js',g1,g2⟩:=h';obtain⟨rfl,rfl⟩:=h1.eq g1;rw[h2,h3,g2]at h4;cases h4
def qPM (I:SynI)(z:Int)(c:CntV):Prop:=(c=⟨[],[],[]⟩/\((z=8/\¬sD I)\/(z=20/\sD I/\nH I.tab=false)\/(z=3/\sD I/\nH I.tab=true/\qIB I)))\/(z=0/\sD I/\nH I.tab=true/\gT I c)
theorem qPM.same {z z':Int}(h:qPM I z c)(h':qPM I z' c'):z=z'/\c=c':=by
 rcases h with ⟨rfl,⟨rfl,a⟩|⟨rfl,a,b⟩|⟨rfl,a,b,d⟩⟩|⟨rfl,a,b,d⟩<;>rcases h' with ⟨rfl,⟨rfl,a'⟩|⟨rfl,a',b'⟩|⟨rfl,a',b',d'⟩⟩|⟨rfl,a',b',d'⟩<;>first|exact⟨rfl,rfl⟩|exact absurd a a'|exact absurd a' a|(rw[b]at b';exact absurd b' jd)|exact(d.no d').elim|exact(d'.no d).elim|exact⟨rfl,d.eq d'⟩
theorem qCL.res {w w':World}{e:Ending}(h:qCL I w e w'):∃(z:Int) (v:Value) (c:CntV),e=.returned (.tuple #[v,.int .i64 z])/\pK w'.heap.size w' v c/\qPM I z c/\w.grownBy w' none:=by
 obtain⟨⟨z,rfl,h1⟩|⟨c,v,rfl,h1,h2,h3,h4⟩,hg⟩:=h
 ·exact⟨z,_,⟨[],[],[]⟩,rfl,⟨_,_,_,rfl,.inl ⟨none,0,rfl,rfl⟩,.inl ⟨none,0,rfl,rfl⟩,.inl ⟨none,0,rfl,rfl⟩⟩,.inl ⟨rfl,h1⟩,hg⟩
 exact⟨0,v,c,rfl,h4,.inr ⟨rfl,h1,h2,h3⟩,hg⟩
def qPK (idx per:List Int)(a:Nat):Prop:=∀x,x<a->0<=idx.getD x 0/\1<=per.getD x 0
theorem qPZ (h:c.idx.length<1\/6<c.idx.length):cntE c=1:=by rw[cntE,if_pos h]
theorem qPY (h:¬(c.idx.length<1\/6<c.idx.length))(h2:c.per.length≠c.idx.length):cntE c=22:=by rw[cntE,if_neg h,if_pos h2]
theorem qPX (h:¬(c.idx.length<1\/6<c.idx.length))(h2:c.per.length=c.idx.length)(h3:¬PosC c.idx c.per):cntE c=22:=by
 rw[cntE,if_neg h,if_neg yo,if_pos];rw[<-Bool.not_eq_true,fB];exact h3
theorem qPW (h:¬(c.idx.length<1\/6<c.idx.length))(h2:c.per.length=c.idx.length)(h3:PosC c.idx c.per):cntE c=if kR c.idx c.per=false then 3 else if (c.acc.length:Int)≠lU c.idx c.per then 22 else 0:=by
 rw[cntE,if_neg h,if_neg yo,if_neg (by rw[fB.2 h3];simp)]
theorem qHN (B:Nat)(w:World)(v:Value)(c:CntV)(h:pK B w v c):Calls Tryz.prog 56 #[v] w fun e w'=>e=.returned (.int .i64 (cntE c))/\w.grownBy w' none:=by
 obtain⟨vi,vp,va,rfl,hi,hp,ha⟩:=h;obtain⟨iA,iC,rfl⟩:=hi.shape;obtain⟨pA,pC,rfl⟩:=hp.shape;obtain⟨aA,aC,rfl⟩:=ha.shape;obtain⟨n,hn⟩:=Nm ((ints c.idx).length);obtain⟨pn,h0⟩:=Nm ((ints c.per).length);obtain⟨an,H0⟩:=Nm ((bls c.acc).length);rw[<-hn]at hi;rw[<-h0]at hp;rw[<-hn,<-h0,<-H0];rw[zL]at hn h0;rw[yB]at H0;obtain⟨w1,h7⟩:=Nm (w.alloc (.cells #[.slice iA n iC,.slice pA pn pC,.slice aA an aC] 35));have h8:w.grownBy w1 none:=by rw[h7];exact Ga w _ none
 have h9:=heap_alloc_new w (.cells #[.slice iA n iC,.slice pA pn pC,.slice aA an aC] 35);obtain⟨P,hP⟩:=Nm w.heap.size;rw[<-h7,<-hP]at h9;obtain⟨q0,q1,q2⟩:=xZ h9;obtain⟨E,hE⟩:=Nm (cntE c);rw[<-hE];have H7:Hid (n<1\/6<n->E=1):=Kh (fun h=>by rw[hE];exact qPZ (by rw[<-hn];exact h));have a9:Hid (¬(n<1\/6<n)->pn≠n->E=22):=Kh (fun h h2=>by rw[hE];exact qPY (by rw[<-hn];exact h) (by rw[<-hn,<-h0];exact h2));have a8:Hid (¬(n<1\/6<n)->pn=n->¬PosC c.idx c.per->E=22):=Kh (fun h h2 h3=>by rw[hE];exact qPX (by rw[<-hn];exact h) (by rw[<-hn,<-h0];exact h2) h3);have a7:Hid (¬(n<1\/6<n)->pn=n->PosC c.idx c.per->E=if kR c.idx c.per=false then 3 else if (an:Int)≠lU c.idx c.per then 22 else 0):=Kh (fun h h2 h3=>by rw[hE,H0];exact qPW (by rw[<-hn];exact h) (by rw[<-hn,<-h0];exact h2) h3);have HI:=Kh (hi.kept h8 yq);have HP:=Kh (hp.kept h8 yq);obtain⟨h4,b6,b4,b5,HN,H1⟩:=Kf h8 h9 h7 hP hn h0;clear hi hp ha hn h0 H0 h8 h9 h7 hP hE;go_enter Tryz.func56,Tryz.ntmps56;go_upto_region 1 with fail;rw[<-b4.out,<-b5.out];by_cases h1:(n:Int)<1
 ·go_wp2
  go_ret;exact⟨yX (H7.out yo).symm,h4.out⟩
 by_cases h2:6<(n:Int)
 ·go_wp2
  go_ret;exact⟨yX (H7.out yo).symm,h4.out⟩
 by_cases h3:pn=n
 case neg =>
  have e3:((pn:Int) != (n:Int))=true:=by rw[bne_iff_ne];omega
  go_wp2;go_ret;exact⟨yX (a9.out yo h3).symm,h4.out⟩
 have e3:((pn:Int) != (n:Int))=false:=by rw[bne_eq_false_iff_eq];omega
 have h6:=Kh (a8.out yo h3);have H6:=Kh (a7.out yo h3);clear H7 a9 a8 a7;subst h3;obtain⟨ib,io,ic,ei,_,i1,i2,ir⟩:=HI.out.some_ (by rw[zL];have:=HN.out;omega);obtain⟨pb,po,pc,ep,_,p1,p2,pr⟩:=HP.out.some_ (by rw[zL];have:=H1.out;omega);simp only[Value.slice.injEq]at ei ep;obtain⟨rfl,b1,rfl⟩:=ei;obtain⟨rfl,b0,rfl⟩:=ep;rw[zL,<-HN.out]at i1;rw[zL,<-H1.out]at p1;unfold maxLen at i2 p2;have IR:=Kh ir;have PR:=Kh pr;clear ir pr b1 b0;go_wp2
 go_loopg [3,26] pn (fun gh a3 a26 wr=>∃a:Nat,gh+a=pn/\a26=.int .i64 a/\qPK c.idx c.per a/\wr=w1)
 case atStart=>exact⟨0,rfl,rfl,fun x hx=>by omega,rfl⟩
 obtain⟨a,a2,rfl,a1,rfl⟩:=hrel;have H4:=Kh a2;have a4:=Kh a1;clear a2 a1;by_cases ha:a<pn
 ·have b2:(a:Int)<pn:=yo
  have c1:=IR.out.int a (by rw[<-HN.out];exact ha);have c2:=PR.out.int a (by rw[<-H1.out];exact ha);obtain⟨x,hx⟩:=Nm (c.idx.getD a 0);obtain⟨y,hy⟩:=Nm (c.per.getD a 0);rw[<-hx]at c1;rw[<-hy]at c2;have a6:Hid (x<0\/y<1->¬PosC c.idx c.per):=Kh (fun h hp=>by have:=hp a (by rw[<-HN.out];exact ha);omega)
  have b3:Hid (0<=x->1<=y->qPK c.idx c.per (a+1)):=Kh (fun h1 h2 z hz=>by
   rcases Nat.lt_or_ge z a with h|h
   ·exact a4.out z h
   have:z=a:=yo
   subst this;rw[<-hx,<-hy];exact⟨h1,h2⟩)
  clear hx hy;by_cases hx0:x<0
  ·go_wp2
   go_ret;exact⟨yX (h6.out (a6.out (.inl hx0))).symm,h4.out⟩
  by_cases hy1:y<1
  ·go_wp2
   go_ret;exact⟨yX (h6.out (a6.out (.inr hy1))).symm,h4.out⟩
  go_wp2;go_roundg (pn-(a+1))
  case measure=>have:=H4.out;omega
  exact⟨a+1,by have:=H4.out;omega,by go_num,b3.out yo yo,rfl⟩
 have b2:¬(a:Int)<pn:=yo
 have a5:Hid (PosC c.idx c.per):=Kh (fun z hz=>a4.out z (by have:=H4.out;have:=HN.out;omega));have H8:=Kh (qFN B wr _ _ (.slice aA an aC) c.idx c.per HI.out HP.out (by rw[<-HN.out,<-H1.out]) a5.out (by have:=HN.out;omega));have H2:=Kh (H6.out a5.out);obtain⟨rn,H9⟩:=Nm (lU c.idx c.per);obtain⟨rb,a0⟩:=Nm (kR c.idx c.per);rw[<-H9,<-a0]at H8 H2;clear H9 a0;go_wp2_with fail;refine H8.out.mono ?_;rintro e w2 ⟨rfl,H3⟩;obtain⟨q0,q1,q2⟩:=xZ (zD b6.out H3);have H5:=Kh (zE h4.out H3);clear H3 H8;cases rb with
 | false =>
  go_wp2;go_ret;exact⟨yX (by rw[H2.out];simp),H5.out⟩
 | true =>
  by_cases h5:(an:Int)=rn
  ·have e5:((an:Int) != rn)=false:=by rw[bne_eq_false_iff_eq];exact h5
   have HZ:Hid (E=0):=Kh (by rw[H2.out,if_neg yq,if_neg (by simpa using h5)]);clear h5;go_wp2;go_ret;exact⟨yX HZ.out.symm,H5.out⟩
  have e5:((an:Int) != rn)=true:=by rw[bne_iff_ne];exact h5
  have HZ:Hid (E=22):=Kh (by rw[H2.out,if_neg yq,if_pos h5]);clear h5;go_wp2;go_ret;exact⟨yX HZ.out.symm,H5.out⟩
def kE (letters:Int)(c:UInt8):Bool:=decide (97<=(c.toNat:Int)/\(c.toNat:Int)-97<letters)
def vY (s:ByteArray)(letters:Int):Bool:=decide (1<=letters/\letters<=6/\s.size<=2048) && s.data.toList.all (kE letters)
theorem iW (s:ByteArray)(letters:Int)(k:Nat)(hk:k<s.size)(h:(s[k].toNat:Int)<97\/letters<=((s[k].toNat:Int)-97) % 256):vY s letters=false:=by
 have hm:s[k]∈s.data.toList:=by
  have:s[k]=s.data[k]'(by simpa using hk):=rfl;rw[this];simp
 have h2:kE letters s[k]=false:=by
  have:=UInt8.toNat_lt s[k];simp[kE];omega
 unfold vY;rw[Bool.and_eq_false_iff];right;rw[List.all_eq_false];exact⟨_,hm,by simp[h2]⟩
theorem qPB (s:ByteArray)(letters:Int)(k:Nat)(hk:k<s.size)(h:(s.data.toList.take k).all (kE letters)=true)(h1:97<=(s[k].toNat:Int)/\((s[k].toNat:Int)-97) % 256<letters):(s.data.toList.take (k+1)).all (kE letters)=true:=by
 rw[List.take_succ_eq_append_getElem (by simpa using hk),List.all_append,h];have:s.data.toList[k]'(by simpa using hk)=s[k]:=rfl;have h3:=UInt8.toNat_lt s[k];simp[this,kE];omega
theorem bF (s:ByteArray)(letters:Int)(k:Nat)(hk:s.size<=k)(h:1<=letters/\letters<=6/\s.size<=2048)(ha:(s.data.toList.take k).all (kE letters)=true):vY s letters=true:=by
 rw[List.take_of_length_le (by simpa using hk)]at ha;simp[vY,ha,h]
theorem bG (s:ByteArray)(letters:Int)(w:World)(hs:s.size<=maxLen):Calls Tryz.prog 57 #[.string s,.int .i64 letters] w fun e w'=>e=.returned (.bool (vY s letters))/\w=w':=by
 unfold maxLen at hs;by_cases h1:letters<1
 ·go_enter Tryz.func57,Tryz.ntmps57
  go_wp2;go_ret;exact⟨yQ (by simp[vY];omega),rfl⟩
 by_cases h2:6<letters
 ·go_enter Tryz.func57,Tryz.ntmps57
  go_wp2;go_ret;exact⟨yQ (by simp[vY];omega),rfl⟩
 by_cases h3:2048<s.size
 ·go_enter Tryz.func57,Tryz.ntmps57
  go_wp2;go_ret;exact⟨yQ (by simp[vY];omega),rfl⟩
 go_enter Tryz.func57,Tryz.ntmps57;go_wp2
 go_loop [19] (fun i=>∃k:Nat,k<=s.size/\i=.int .i64 k/\(s.data.toList.take k).all (kE letters)=true) (fun i=>s.size-(intOf i).toNat)
 case atStart=>exact⟨0,Nat.zero_le _,rfl,rfl⟩
 obtain⟨k,hk,rfl,h0⟩:=hrel;have HA:=Kh h0;clear h0;by_cases hlt:k<s.size
 ·go_wp2
  ·go_ret
   exact⟨yQ (by rw[eq_comm];exact iW s letters k hlt yo),rfl⟩
  ·go_round
   case rel=>exact⟨k+1,yo,by go_num,qPB s letters k hlt HA.out yo⟩
   simp[intOf];omega
  go_ret;exact⟨yQ (by rw[eq_comm];exact iW s letters k hlt yo),rfl⟩
 go_wp2;go_ret;exact⟨yQ (by rw[eq_comm];exact bF s letters k yo yo HA.out),rfl⟩
def xH (s:ByteArray):List Nat:=s.data.toList.map fun c=>c.toNat-97
theorem sJ (s:ByteArray):(xH s).length=s.size:=by simp[xH]
theorem aM (h:i<s.size):(xH s).getD i 0=s[i].toNat-97:=by
 rw[zQ (by rw[sJ];exact h)];simp[xH];rfl
theorem dZ {c:UInt8}:kE (k:Int) c=true↔97<=c.toNat/\c.toNat-97<k:=by
 unfold kE;rw[decide_eq_true_eq];omega
theorem qAA (h:vY s (k:Int)=true):qY k (xH s)/\(∀i (hi:i<s.size),97<=s[i].toNat/\s[i].toNat-97<k)/\s.size<=2048:=by
 simp only[vY,Bool.and_eq_true,decide_eq_true_eq,List.all_eq_true]at h;refine⟨fun a ha=>?_,fun i hi=>?_,h.1.2.2⟩
 ·obtain⟨c,hc,rfl⟩:=List.mem_map.1 ha
  exact(dZ.1 (h.2 c hc)).2
 have hm:s[i]∈s.data.toList:=by
  have:s[i]=s.data.toList[i]'(by simpa using hi):=by simp;rfl
  rw[this];exact List.getElem_mem _
 exact dZ.1 (h.2 _ hm)
theorem qSJ {c:Nat}(h:97<=c)(h2:c<256):IntKind.u8.wrap ((c:Int)-97)=((c-97:Nat):Int):=by
 unfold IntKind.wrap;simp[IntKind.bits,IntKind.signed];omega
theorem qED {u:ByteArray}(h:∀i (hi:i<u.size),97<=u[i].toNat/\u[i].toNat-97<k)(hi:i<u.size):∃b a:Nat,(u[i].toNat:Int)=(b:Int)/\IntKind.u8.wrap ((b:Int)-97)=(a:Int)/\((b:Int)-97) % 256=(a:Int)/\a<k/\(xH u).getD i 0=a:=by
 have hb:=h i hi;have h0:u[i].toNat<256:=u[i].toNat_lt;exact⟨u[i].toNat,u[i].toNat-97,rfl,qSJ hb.1 h0,yo,hb.2,aM hi⟩
end Go.Proofs.YtiknckajkdlppaaGreat
namespace Go.Proofs.YtiknckajkdlppaaGreat
variable{k a n i p b q B tb:Nat}{u ns:List Nat}{s:ByteArray}{r:Nat->Nat}{w w':World}{sl:Value}{zs:List Int}
def asN (n i p:Nat):Nat:=if n<i then n else i+(n-i) % p
def iN (c:CntV)(a:Nat):Nat:=(c.idx.getD a 0).toNat
def pN (c:CntV)(a:Nat):Nat:=(c.per.getD a 0).toNat
def atTo (c:CntV)(ns:List Nat):Nat->Nat
 | 0=>0
 | a+1=>atTo c ns a*(iN c a+pN c a)+asN (ns.getD a 0) (iN c a) (pN c a)
def tD (k:Nat)(u:List Nat):List Nat:=(List.range k).map fun a=>u.count a
theorem qP (k:Nat)(u:List Nat):(tD k u).length=k:=by simp[tD]
theorem bB (h:a<k):(tD k u).getD a 0=u.count a:=by
 rw[zQ (by rw[qP];exact h)];simp[tD]
theorem qHO (k:Nat):tD k []=List.replicate k 0:=by
 refine List.ext_getElem (by simp[tD]) fun i h1 h2=>?_;simp[tD]
theorem qDZ :(tD k u).set a (u.count a+1)=tD k (u++[a]):=by
 refine List.ext_getElem (by simp[tD]) fun i h1 h2=>?_;rw[List.getElem_set];simp only[tD,List.getElem_map,List.getElem_range,List.count_append,List.count_singleton]
 split
 ·rename_i e;subst e;simp
 rename_i e;simp[e]
theorem qCH (hp:1<=p):asN n i p<i+p:=by
 unfold asN
 split
 ·omega
 have:=Nat.mod_lt (n-i) (show p > 0 by omega);omega
theorem qLS {c:CntV}(a9:PosC c.idx c.per)(ns:List Nat):∀(a m:Nat),a<=c.idx.length->uD c.idx c.per a=some m->atTo c ns a<m
 | 0,m,_,h=>by rw[uD]at h;have:=Oj h;subst this;simp[atTo]
 | a+1,m,ha,h=>by
  rw[uD]at h
  rcases hc:uD c.idx c.per a with _|x
  ·rw[hc]at h;cases h
  ·rw[hc]at h
   simp only at h
   have hp:=a9 a yo
   have ih:=qLS a9 ns a x yo hc
   split at h
   ·cases h
   ·have e:=Oj h
    have e2:(c.idx.getD a 0+c.per.getD a 0).toNat=iN c a+pN c a:=by unfold iN pN;omega
    rw[<-e,e2,atTo]
    have h1:=qCH (n:=ns.getD a 0) (i:=iN c a) (p:=pN c a) (by unfold pN;omega)
    calc atTo c ns a*(iN c a+pN c a)+asN (ns.getD a 0) (iN c a) (pN c a)<atTo c ns a*(iN c a+pN c a)+(iN c a+pN c a):=yo
     _=(atTo c ns a+1)*(iN c a+pN c a):=by rw[Nat.add_mul,Nat.one_mul]
     _<=x*(iN c a+pN c a):=Nat.mul_le_mul_right _ ih
theorem cZ {idx per:List Int}{m:Nat}(h:uD idx per n=some m):∀a,a<=n->∃x,uD idx per a=some x:=by
 intro a ha;rcases hc:uD idx per a with _|x
 ·have:=iU hc (n-a)
  rw[show a+(n-a)=n by omega,h]at this;cases this
 exact⟨x,rfl⟩
noncomputable def kF (c:CntV)(s:ByteArray):Bool:=decide (cntE c=0) && vY s c.idx.length && c.acc.getD (atTo c (tD c.idx.length (xH s)) c.idx.length) false
theorem qKO {c:CntV}(h:cntE c≠0):kF c s=false:=by rw[kF,decide_eq_false h];rfl
theorem qGZ {c:CntV}(h:vY s c.idx.length=false):kF c s=false:=by rw[kF,h];simp
theorem qKN {c:CntV}(h:cntE c=0)(h2:vY s c.idx.length=true):kF c s=c.acc.getD (atTo c (tD c.idx.length (xH s)) c.idx.length) false:=by rw[kF,h2,decide_eq_true h];rfl
theorem qLP {c:CntV}(hi:c.idx.getD a 0=(i:Int))(hp:c.per.getD a 0=(p:Int)):atTo c ns (a+1)=atTo c ns a*(i+p)+asN (ns.getD a 0) i p:=by
 rw[atTo,show iN c a=i by unfold iN;omega,show pN c a=p by unfold pN;omega]
theorem qRH {c:CntV}(h:CntOk c)(ha:a<c.idx.length):∃i p:Nat,c.idx.getD a 0=(i:Int)/\c.per.getD a 0=(p:Int)/\i<=2000/\1<=p/\p<=2000:=by
 have hp:=h.pos a ha;obtain⟨x,hx⟩:=cZ h.size (a+1) yo;rw[uD]at hx
 split at hx
 ·cases hx
 split at hx
 ·cases hx
 exact⟨(c.idx.getD a 0).toNat,(c.per.getD a 0).toNat,yo,yo,yo,yo,yo⟩
theorem qTC {c:CntV}(h:CntOk c)(ns:List Nat)(ha:a<=c.idx.length):atTo c ns a<=2000:=by
 obtain⟨x,hx⟩:=cZ h.size a ha;have h1:=qLS h.pos ns a x ha hx;have h2:=qO hx;omega
def radN (c:CntV)(a:Nat):Nat:=iN c a+pN c a
def rQ (r:Nat->Nat)(a:Nat):Nat->Nat
 | 0=>1
 | b+1=>if a<=b then rQ r a b*r b else 1
theorem lF :∀ {b:Nat},b<=a->rQ r a b=1
 | 0,_=>rfl
 | b+1,h=>by rw[rQ,if_neg yo]
theorem oD (h:a<=b):rQ r a (b+1)=rQ r a b*r b:=by rw[rQ,if_pos h]
theorem lG {r:Nat->Nat}{a:Nat}:∀ {b:Nat},a<b->rQ r a b=r a*rQ r (a+1) b
 | 0,h=>by omega
 | b+1,h=>by
  rcases Nat.lt_or_ge a b with h1|h1
  ·rw[oD yo,oD yo,lG h1,Nat.mul_assoc]
  ·have e:a=b:=yo
   subst e
   rw[oD (Nat.le_refl _),lF (Nat.le_refl _),lF (Nat.le_refl _),Nat.one_mul,Nat.mul_one]
theorem qAV {r:Nat->Nat}{a:Nat}:∀ {b:Nat},(∀x,x<b->0<r x)->0<rQ r a b
 | 0,_=>Nat.one_pos
 | b+1,h=>by
  rw[rQ];split
  ·exact Nat.mul_pos (qAV (fun x hx=>h x yo)) (h b yo)
  ·exact Nat.one_pos
def stN (c:CntV)(a:Nat):Nat:=rQ (radN c) (a+1) c.idx.length
def digN (c:CntV)(q a:Nat):Nat:=q / stN c a % radN c a
def nxtE (c:CntV)(d a:Nat):Nat:=if d+1=radN c a then iN c a else d+1
def jN (c:CntV)(q a:Nat):Nat:=q-digN c q a*stN c a+nxtE c (digN c q a) a*stN c a
section
variable {c:CntV}
theorem jF (h:PosC c.idx c.per)(ha:a<c.idx.length):0<radN c a/\1<=pN c a:=by
 have:=h a ha;unfold radN iN pN;omega
theorem qFS (h:PosC c.idx c.per)(ha:a<c.idx.length)(n:Nat):asN n (iN c a) (pN c a)<radN c a:=qCH (jF h ha).2
theorem qOZ (h:n<i+p):asN n i p=n:=by
 unfold asN
 split
 ·rfl
 rw[Nat.mod_eq_of_lt yo];omega
theorem qPA (hp:1<=p):asN (n+1) i p=if asN n i p+1=i+p then i else asN n i p+1:=by
 unfold asN;by_cases h1:n<i
 ·rw[if_pos h1]
  by_cases h2:n+1<i
  ·rw[if_pos h2,if_neg yo]
  have e:n+1=i:=yo
  rw[if_neg h2,e,Nat.sub_self,Nat.zero_mod]
  split
  ·rfl
  rfl
 rw[if_neg h1,if_neg yo];obtain⟨m,hm⟩:=Nm (n-i);rw[show n+1-i=m+1 by omega,<-hm];have h2:=Nat.mod_lt m (show p > 0 by omega);have h3:=Nat.add_mod m 1 p;by_cases h4:m % p+1=p
 ·rw[if_pos yo]
  have:(m+1) % p=0:=by
   rw[h3];rcases Nat.lt_or_ge 1 p with h5|h5
   ·rw[Nat.mod_eq_of_lt h5,h4,Nat.mod_self]
   have e:p=1:=yo
   subst e;rw[Nat.mod_one]
  omega
 rw[if_neg yo]
 have:(m+1) % p=m % p+1:=by
  rw[h3,Nat.mod_eq_of_lt (show 1<p by omega),Nat.mod_eq_of_lt yo]
 omega
theorem qTB (h:PosC c.idx c.per)(ns:List Nat)(hb:b<=c.idx.length):atTo c ns c.idx.length / rQ (radN c) b c.idx.length=atTo c ns b:=by
 obtain⟨m,hm⟩:=Nm (c.idx.length-b)
 induction m generalizing b with
 | zero =>
  have e:b=c.idx.length:=yo
  rw[e,lF (Nat.le_refl _),Nat.div_one]
 | succ m ih =>
  have h0:b<c.idx.length:=yo
  rw[lG h0,Nat.mul_comm,<-Nat.div_div_eq_div_mul,ih (b:=b+1) yo yo,atTo];have h1:=qFS h h0 (ns.getD b 0);show (atTo c ns b*radN c b+_) / radN c b=_;rw[Nat.mul_comm,Nat.mul_add_div (jF h h0).1,Nat.div_eq_of_lt h1,Nat.add_zero]
theorem qTD (h:PosC c.idx c.per)(ns:List Nat)(ha:a<c.idx.length):digN c (atTo c ns c.idx.length) a=asN (ns.getD a 0) (iN c a) (pN c a):=by
 unfold digN stN;rw[qTB h ns (b:=a+1) ha,atTo];show (atTo c ns a*radN c a+_) % radN c a=_;rw[Nat.mul_comm,Nat.mul_add_mod,Nat.mod_eq_of_lt (qFS h ha _)]
theorem qLT (ns ms:List Nat)(he:∀b,b≠a->ns.getD b 0=ms.getD b 0):∀b,a<b->(atTo c ms b:Int)=atTo c ns b+((asN (ms.getD a 0) (iN c a) (pN c a):Int)-(asN (ns.getD a 0) (iN c a) (pN c a):Int))*rQ (radN c) (a+1) b:=by
 have h0:∀b,b<=a->atTo c ms b=atTo c ns b:=by
  intro b
  induction b with
  | zero=>intro _;rfl
  | succ b ih=>intro hb;rw[atTo,atTo,ih yo,he b yo]
 intro b
 induction b with
 | zero=>intro hb;omega
 | succ b ih =>
  intro hb;rcases Nat.lt_or_ge a b with h1|h1
  ·rw[atTo,atTo,he b yo,oD yo]
   have:=ih h1;rw[show iN c b+pN c b=radN c b from rfl];simp only[Int.natCast_add,Int.natCast_mul];rw[this];rw[Int.add_mul,Int.mul_assoc];omega
  have e:b=a:=yo
  subst e;rw[atTo,atTo,h0 b (Nat.le_refl _),lF (Nat.le_refl _)];simp only[Int.natCast_add,Int.natCast_mul];omega
theorem qLR (h:PosC c.idx c.per){ms:List Nat}(ha:a<c.idx.length)(he:∀b,b≠a->ns.getD b 0=ms.getD b 0)(h1:ms.getD a 0=ns.getD a 0+1):atTo c ms c.idx.length=jN c (atTo c ns c.idx.length) a:=by
 have e:=qLT (c:=c) ns ms he c.idx.length ha;have hd:=qTD h ns ha;have hp:=jF h ha;unfold jN;rw[hd];rw[h1,qPA hp.2]at e;have hx:nxtE c (asN (ns.getD a 0) (iN c a) (pN c a)) a=if asN (ns.getD a 0) (iN c a) (pN c a)+1=iN c a+pN c a then iN c a else asN (ns.getD a 0) (iN c a) (pN c a)+1:=rfl
 rw[<-hx]at e
 have h0:asN (ns.getD a 0) (iN c a) (pN c a)*stN c a<=atTo c ns c.idx.length:=by
  rw[<-hd];unfold digN;have:=Nat.mod_le (atTo c ns c.idx.length / stN c a) (radN c a)
  calc _<=atTo c ns c.idx.length / stN c a*stN c a:=Nat.mul_le_mul_right _ this
   _<=_:=Nat.div_mul_le_self _ _
 generalize nxtE c (asN (ns.getD a 0) (iN c a) (pN c a)) a=x at e⊢
 generalize asN (ns.getD a 0) (iN c a) (pN c a)=d at e h0⊢
 have e2:(atTo c ms c.idx.length:Int)=atTo c ns c.idx.length+((x*stN c a:Nat):Int)-((d*stN c a:Nat):Int):=by
  rw[e,Int.sub_mul];simp only[Int.natCast_mul];show _=_+(x:Int)*(rQ (radN c) (a+1) c.idx.length:Int)-(d:Int)*(rQ (radN c) (a+1) c.idx.length:Int);omega
 omega
def dfaC (c:CntV):DfaV:=⟨c.idx.length,0,c.acc,(List.range c.acc.length).map fun q=>(List.range c.idx.length).map fun a=>(jN c q a:Int)⟩
theorem aS (hq:q<c.acc.length):(dfaC c).next.getD q []=(List.range c.idx.length).map fun a=>(jN c q a:Int):=by
 rw[zQ (by simpa [dfaC] using hq)];simp[dfaC]
theorem qFL (hq:q<c.acc.length)(ha:a<c.idx.length):ent (dfaC c).next q a=(jN c q a:Int):=by
 unfold ent;rw[aS hq,zQ (by simpa using ha)];simp
theorem qAU {idx per:List Int}(hp:PosC idx per):∀ {a m:Nat},a<=idx.length->uD idx per a=some m->rQ (fun b=>(idx.getD b 0).toNat+(per.getD b 0).toNat) 0 a=m
 | 0,m,_,h=>by rw[uD]at h;exact Oj h
 | a+1,m,ha,h=>by
  rw[uD]at h
  rcases hc:uD idx per a with _|x
  ·rw[hc]at h;cases h
  ·rw[hc]at h
   simp only at h
   split at h
   ·cases h
   ·rw[oD yo,qAU hp yo hc]
    have:=hp a yo
    rw[<-Oj h]
    congr 1
    omega
theorem qFB (h:CntOk c):rQ (radN c) 0 c.idx.length=c.acc.length:=qAU h.pos (Nat.le_refl _) h.size
theorem qLQ (h:CntOk c)(hq:q<c.acc.length):atTo c ((List.range c.idx.length).map (digN c q)) c.idx.length=q:=by
 have key:∀b,b<=c.idx.length->atTo c ((List.range c.idx.length).map (digN c q)) b=q / rQ (radN c) b c.idx.length:=by
  intro b
  induction b with
  | zero =>
   intro _;rw[qFB h,Nat.div_eq_of_lt hq];rfl
  | succ b ih =>
   intro hb;have hp:=jF h.pos (a:=b) yo;have hg:((List.range c.idx.length).map (digN c q)).getD b 0=digN c q b:=by rw[zQ (by simp;omega)];simp
   have h0:digN c q b<radN c b:=Nat.mod_lt _ hp.1;rw[atTo,ih yo,hg,qOZ h0,lG (show b<c.idx.length by omega),Nat.mul_comm (radN c b),<-Nat.div_div_eq_div_mul];show q / stN c b / radN c b*radN c b+q / stN c b % radN c b=_;have:=Nat.div_add_mod (q / stN c b) (radN c b);rw[Nat.mul_comm]at this;exact this
 rw[key _ (Nat.le_refl _),lF (Nat.le_refl _),Nat.div_one]
theorem qRJ (h:CntOk c)(hq:q<c.acc.length)(ha:a<c.idx.length):jN c q a<c.acc.length:=by
 obtain⟨ns,h0⟩:=Nm ((List.range c.idx.length).map (digN c q));have hl:ns.length=c.idx.length:=by rw[h0];simp
 have h1:=qLR h.pos (ns:=ns) (ms:=ns.set a (ns.getD a 0+1)) ha (fun b hb=>by rw[List.getD_eq_getElem?_getD,List.getD_eq_getElem?_getD,List.getElem?_set_ne (fun e=>hb e.symm)]) (by rw[List.getD_eq_getElem?_getD,List.getElem?_set_self yo];rfl);rw[h0,qLQ h hq,<-h0]at h1;rw[<-h1];exact qLS h.pos _ _ _ (Nat.le_refl _) h.size
theorem iS (h:CntOk c):VD (dfaC c) c.acc.length c.idx.length:=by
 have h0:0<c.acc.length:=by
  rw[<-qFB h];exact qAV (fun x hx=>(jF h.pos hx).1)
 have h2:=qO h.size;refine⟨rfl,h.k1,h.k6,rfl,yo,yo,by simp[dfaC],by simp[dfaC],by show (0:Int)<_;omega,fun q hq=>by rw[aS hq];simp,fun q a hq ha=>by rw[qFL hq ha];omega,fun q a hq ha=>by rw[qFL hq ha];have:=qRJ h hq ha;omega⟩
end
open Go.RowKit
def qSF (c:CntV)(w:World)(e:Ending)(w':World):Prop :=
 ((∃z:Int,e=.returned (.tuple #[.agg #[.int .i64 0,.int .i64 0,.slice none 0 0,.slice none 0 0],.int .i64 z])/\((z=cntE c/\cntE c≠0)\/(z=3/\CntOk c/\512<minN (dfaC c) c.idx.length))) \/
 ∃f nx,e=.returned (.tuple #[.agg #[.int .i64 (c.idx.length:Int),.int .i64 0,f,nx],.int .i64 0])/\CntOk c/\minN (dfaC c) c.idx.length<=512/\DfaT w' f nx (minD (dfaC c) c.idx.length))/\w.grownBy w' none
def qUK (c:CntV)(z:Int)(m:DfaV):Prop:=(m=qQG/\((z=cntE c/\cntE c≠0)\/(z=3/\CntOk c/\512<minN (dfaC c) c.idx.length)))\/(z=0/\m=minD (dfaC c) c.idx.length/\CntOk c/\minN (dfaC c) c.idx.length<=512)
theorem qSF.out {c:CntV}{e:Ending}(h:qSF c w e w'):∃z m,qSE w z m e w'/\qUK c z m:=by
 obtain⟨⟨z,rfl,h1⟩|⟨f,nx,rfl,h1,h2,h3⟩,hg⟩:=h
 ·exact⟨z,qQG,⟨_,_,rfl,DfaT.zero _,hg⟩,.inl ⟨rfl,h1⟩⟩
 have hv:=cJ (iS h1);have e1:(minD (dfaC c) c.idx.length).letters=(c.idx.length:Int):=hv.hk;have e2:(minD (dfaC c) c.idx.length).start=0:=rfl;exact⟨0,_,⟨f,nx,by rw[e1,e2],h3,hg⟩,.inr ⟨rfl,rfl,h1,h2⟩⟩
theorem bN (x n:Int)(hn:1<=n):-n<x.tmod n/\x.tmod n<n:=by
 constructor
 ·by_cases h:0<=x
  ·have:=Int.tmod_nonneg n h;omega
  have h1:=Int.tmod_lt_of_pos (-x) (show (0:Int)<n by omega);rw[Int.neg_tmod]at h1;omega
 exact Int.tmod_lt_of_pos x yo
def modI (x n:Int):Int:=if n<1 then 0 else if x.tmod n<0 then x.tmod n+n else x.tmod n
theorem qDL (x n:Int):0<=modI x n:=by
 unfold modI;split
 ·omega
 have:=bN x n yo;split<;>omega
theorem qRM (x n:Int)(h:1<=n):modI x n<n:=by
 have:=bN x n h;unfold modI;rw[if_neg yo];split<;>omega
theorem qKC (x n:Int)(h:n<1):modI x n=0:=by
 unfold modI;rw[if_pos h]
theorem aI (x n:Int)(w:World)(hn:n<=9223372036854775807):Calls Tryz.prog 10 #[.int .i64 x,.int .i64 n] w fun e w'=>e=.returned (.int .i64 (modI x n))/\w=w':=by
 by_cases h1:n<1
 ·go_enter Tryz.func10,Tryz.ntmps10
  go_wp2;go_ret;exact⟨yX (qKC x n yo).symm,rfl⟩
 have h2:=(bN x n yo).1;have h0:=(bN x n yo).2;go_enter Tryz.func10,Tryz.ntmps10;go_wp2
 all_goals (go_ret;exact⟨yX (by unfold modI;rw[if_neg yo];first|rw[if_pos yo]|rw[if_neg yo]),rfl⟩)
def wJ (B:Nat)(w:World)(tb:Nat):Prop :=
 ∃(sl:Value) (zs:List Int) (n:Nat),w.heap[tb]?=some (.cells #[sl,.int .i64 n] 49 (0,0))/\Row B w sl (zs.map (Value.int .i64))/\B<=tb/\n<=zs.length
theorem wJ.lt (h:wJ B w tb):tb<w.heap.size:=by
 obtain⟨_,_,_,h,_⟩:=h;exact(Array.getElem?_eq_some_iff.1 h).1
theorem wJ.ge (h:wJ B w tb):B<=tb:=by
 obtain⟨_,_,_,_,_,h,_⟩:=h;exact h
theorem wJ.kept {row:Option Nat}(h:wJ B w tb)(hg:w.grownBy w' row)(hr:∀k,row=some k->B<=k/\k≠tb):wJ B w' tb:=by
 have hl:=h.lt;obtain⟨sl,zs,n,h1,h2,h3,h4⟩:=h;exact⟨sl,zs,n,(hg.block tb hl (fun e=>(hr tb e.symm).2 rfl)).trans h1,h2.kept hg (fun k e=>(hr k e).1),h3,h4⟩
theorem wJ.of_heap (h:wJ B w tb)(e:w'.heap=w.heap):wJ B w' tb:=by
 obtain⟨sl,zs,n,h1,h2,h3,h4⟩:=h;exact⟨sl,zs,n,by rw[e];exact h1,h2.of_heap e,h3,h4⟩
theorem qIL (h1:w.heap[tb]?=some (.cells #[sl,.int .i64 n] 49 (0,0)))(h2:Row B w sl (zs.map (Value.int .i64)))(h3:B<=tb)(h4:n<zs.length):
  wJ B (w.setCell ⟨tb,1,none⟩ (.int .i64 ((n:Int)+1))) tb :=
 ⟨sl,zs,n+1,heap_setCell_same w tb 1 _ _ _ h1,h2.kept (zH w ⟨tb,1,none⟩ _) (by simp;omega),h3,h4⟩
def qUJ (B tb:Nat)(w:World)(n:Int)(e:Ending)(w':World):Prop :=
 ∃r:Int,e=.returned (.int .i64 r)/\0<=r/\(1<=n->r<n)/\wJ B w' tb/\w.grownBy w' (some tb)
theorem uS (B tb:Nat)(w:World)(n:Int)(hn:n<=9223372036854775807)(hT:wJ B w tb):Calls Tryz.prog 5 #[.pointer (some ⟨tb,0,none⟩),.int .i64 n] w (qUJ B tb w n):=by
 have HT:=Kh hT;obtain⟨sl,zs,at_,h0,h1,hB,h3⟩:=hT;have c0:w.cell? ⟨tb,0,none⟩=some sl:=by rw[cell_of_row w tb 0 _ _ _ h0];rfl
 have c1:w.cell? ⟨tb,1,none⟩=some (.int .i64 at_):=by rw[cell_of_row w tb 1 _ _ _ h0];rfl
 have f1:w.frozen? ⟨tb,1,none⟩=false:=frozen_of_row w tb 1 _ _ h0;rcases h1 with ⟨sa,sc,rfl,hz⟩|⟨b,off,cap,rfl,hbB,hlc,hcm,hra⟩
 ·have HR:=Kh hz;have:zs=[]:=by simpa using hz
  subst this;have:at_=0:=by simpa using h3
  subst this;clear h0 hz;go_enter Tryz.func5,Tryz.ntmps5;go_wp2
  go_quiet (fail)
  go_wp2;go_ret;exact⟨0,rfl,yo,yo,HT.out.kept (zT _ _ none) yq,zT _ _ _⟩
 rw[List.length_map]at hlc c0;by_cases hlt:at_<zs.length
 ·have hc:=hra.2 at_ (by simpa using hlt)
  have h4:b≠tb:=yo;have h2:zs.length<=9223372036854775807:=(by unfold maxLen at hcm;omega)
  simp only[List.getElem_map]at hc;have HB:=Kh h0;have HR:=Kh hra;clear h0 hra;go_enter Tryz.func5,Tryz.ntmps5;go_wp2
  go_quiet (fail)
  go_wp2;have e1:IntKind.i64.wrap (at_:Int)=at_:=IntWalk.i64_in _ yo;have e2:(at_:Int)<zs.length:=yo
  go_quiet ((go_at_call 10;first|exact dS (aI _ _ _ hn)|exact kD (aI _ _ _ hn)))
  go_wp2;go_ret;refine⟨modI zs[at_] n,rfl,qDL _ _,qRM _ _,?_,?_⟩
  ·exact wJ.of_heap (qIL HB.out (.inr ⟨b,off,cap,by rw[List.length_map],hbB,by simpa using hlc,hcm,HR.out⟩) hB hlt) rfl
  exact uG (zH w ⟨tb,1,none⟩ _) rfl rfl rfl rfl
 have h2:zs.length<=9223372036854775807:=(by unfold maxLen at hcm;omega)
 clear h0 hra;go_enter Tryz.func5,Tryz.ntmps5;go_wp2
 go_quiet (fail)
 go_wp2;go_ret;exact⟨0,rfl,yo,yo,HT.out.kept (zT _ _ none) yq,zT _ _ _⟩
def qMA (B:Nat)(w:World)(e:Ending)(w':World):Prop :=
 e=.returned (.pointer (some ⟨w.heap.size,0,none⟩))/\wJ B w' w.heap.size/\w.grownBy w' none
theorem aH (h:Row B w sl (zs.map (Value.int .i64)))(hB:B<=w.heap.size):
  qMA B w (.returned (.pointer (some ⟨w.heap.size,0,none⟩))) (w.alloc (.cells #[sl,.int .i64 0] 49)) :=
 ⟨rfl,⟨sl,zs,0,heap_alloc_new w _,h.kept (Ga w _ none) yq,hB,Nat.zero_le _⟩,Ga w _ none⟩
theorem Row.cut {off cap:Nat}{xs:List Value}(n:Nat)(hn:n<=xs.length)(hb:b<B)(hc:xs.length<=cap)(hm:cap<=maxLen)(h:uE w b off xs):
  Row B w (.slice (some ⟨b,off,none⟩) n cap) (xs.take n) :=
 .inr ⟨b,off,cap,by rw[List.length_take,Nat.min_eq_left hn],hb,by rw[List.length_take];omega,hm,h.1,fun i hi=>by
  rw[List.length_take]at hi
  rw[h.2 i yo,List.getElem_take]⟩
theorem qRK (B:Nat)(w:World)(sl:Value)(zs:List Int)(h:Row B w sl (zs.map (Value.int .i64)))(hB:B<=w.heap.size):Calls Tryz.prog 4 #[sl] w (qMA B w):=by
 have HH:=Kh h;rcases h with ⟨sa,sc,rfl,hz⟩|⟨b,off,cap,rfl,hbB,hlc,hcm,hra⟩
 ·have HZ:=Kh hz;clear hz
  go_enter Tryz.func4,Tryz.ntmps4;go_wp2;go_ret;exact aH HH.out hB
 rw[List.length_map]at *;have h0:cap<=9223372036854775807:=(by unfold maxLen at hcm;omega)
 by_cases h80:80<zs.length
 ·go_enter Tryz.func4,Tryz.ntmps4
  go_wp2;go_ret;refine aH (zs:=zs.take 80) ?_ hB;rw[List.map_take];exact Row.cut 80 (by simp;omega) hbB (by simpa using hlc) hcm hra
 go_enter Tryz.func4,Tryz.ntmps4;go_wp2;go_ret;exact aH HH.out hB
end Go.Proofs.YtiknckajkdlppaaGreat
