/- Part 22 of the proof. -/
import Derived.Test.YtobakifdllameaaGreatQd21
import Derived.Deep.Cut
set_option linter.unusedVariables false
set_option linter.unusedSimpArgs false
set_option maxRecDepth 100000
set_option maxHeartbeats 16000000
namespace Go.Proofs.YtobakifdllameaaGreat
open Go.Maps Go.RowKit
theorem qPH {q d s e vv n:Nat}(a9:d*s<=q)(hx:vv=q-d*s+e*s)(a8:vv<n)(hq:q<n)(hn:n<=2000):∃yy:Int,wrap64 (((e:Int)-(d:Int))*(s:Int))=yy/\wrap64 ((q:Int)+yy)=(vv:Int):=by
 have h1:((e:Int)-(d:Int))*(s:Int)=((e*s:Nat):Int)-((d*s:Nat):Int):=by rw[Int.sub_mul];simp
 generalize e*s=E at hx h1
 generalize d*s=D at a9 hx h1
 refine⟨(E:Int)-(D:Int),by rw[h1];exact IntWalk.wrap64_in _ (by omega),?_⟩;have h2:(q:Int)+((E:Int)-(D:Int))=(vv:Int):=by omega
 rw[h2];exact IntWalk.wrap64_in _ (by omega)
theorem qTB {c:CntV}(h:CntOk c){n k b q s r i:Nat}(hk:k=c.idx.length)(hn:n=c.acc.length)(hq:q<n)(hb:b<k)(a7:k<=6)(a8:n<=2000)(hs:s=uS (radN c) (b+1) k)(hr:r=radN c b)(hi:i=iN c b)(a6:i<=2000)(a9:1<=r):∃(t d e x vv X Y:Nat) (yy:Int),Hid ((q:Int).tdiv (s:Int)=(t:Int)/\(t:Int).tmod (r:Int)=(d:Int))/\Hid (wrap64 (t:Int)=(t:Int)/\wrap64 (d:Int)=(d:Int)/\wrap64 (e:Int)=(e:Int))/\(t<=2000/\d<=2000/\e<=2001)/\Hid (e=d+1)/\Hid (x=if e=r then i else e)/\Hid (IntKind.i64.wrap ((q:Int)*(k:Int))=(X:Int)/\wrap64 ((q:Int)*(k:Int))=(X:Int)/\IntKind.i64.wrap ((X:Int)+(b:Int))=(Y:Int)/\wrap64 ((X:Int)+(b:Int))=(Y:Int))/\Y<n*k/\vv<n/\Hid (Y=q*k+b)/\Hid (vv=qO c q b)/\Hid (wrap64 ((x:Int)-(d:Int))=(x:Int)-(d:Int)/\wrap64 (((x:Int)-(d:Int))*(s:Int))=yy/\wrap64 ((q:Int)+yy)=(vv:Int)):=by
 have h2:stN c b=s:=by unfold stN;rw[<-hk,<-hs]
 have h0:digN c q b=q / s % r:=by unfold digN;rw[h2,<-hr]
 have h6:q / s % r<r:=Nat.mod_lt _ a9;have h5:q / s<=q:=Nat.div_le_self _ _;have h4:q / s % r<=q / s:=Nat.mod_le _ _
 have h3:q / s % r*s<=q:=calc q / s % r*s<=q / s*s:=Nat.mul_le_mul_right _ h4
  _<=q:=Nat.div_mul_le_self _ _
 have h1:qO c q b<n:=by rw[hn];exact qKJ h (by rw[<-hn];exact hq) (by rw[<-hk];exact hb)
 have hx:qO c q b=q-q / s % r*s+(if q / s % r+1=r then i else q / s % r+1)*s:=by
  unfold qO nxtE;rw[h0,h2,<-hr,<-hi]
 obtain⟨yy,y1,y2⟩:=qPH h3 hx h1 hq a8;obtain⟨I1,I2,I3,I4,I5⟩:=qEL hq hb a7 (show n<=4000 by omega);refine⟨q / s,q / s % r,q / s % r+1,_,qO c q b,q*k,q*k+b,yy,Kh ⟨Int.ofNat_tdiv q s,Int.ofNat_tmod (q / s) r⟩,Kh ⟨IntWalk.wrap64_in _ (by omega),IntWalk.wrap64_in _ (by omega),IntWalk.wrap64_in _ (by omega)⟩,⟨by omega,by omega,by omega⟩,Kh rfl,Kh rfl,Kh ⟨I1,I2,I3,I4⟩,I5,h1,Kh rfl,Kh rfl,Kh ⟨?_,y1,y2⟩⟩;clear y1 y2 hx h0 h3;refine IntWalk.wrap64_in _ ?_
 split<;>omega
theorem qPG (B:Nat)(w:World)(v:Value)(c:CntV)(a6:B<=w.heap.size)(h:rV B w v c):Calls Tryz.prog 43 #[v] w (qPZ c w):=by
 obtain⟨vi,vp,va,rfl,hi,hp,ha⟩:=id h;obtain⟨iA,iC,rfl⟩:=hi.shape;obtain⟨pA,pC,rfl⟩:=hp.shape;obtain⟨aA,aC,rfl⟩:=ha.shape;obtain⟨k,hk⟩:=Nm c.idx.length;obtain⟨pn,b1⟩:=Nm c.per.length;obtain⟨n,hn⟩:=Nm c.acc.length;rw[zJ,zJ,zX,<-hk,<-b1,<-hn]at h⊢;rw[zJ,<-hk]at hi;rw[zJ,<-b1]at hp;rw[zX,<-hn]at ha;obtain⟨w1,H9⟩:=Nm (w.alloc (.cells #[.slice iA k iC,.slice pA pn pC,.slice aA n aC] 35));have g1:w.grownBy w1 none:=by rw[H9];exact Ga w _ none
 have n1:=heap_alloc_new w (.cells #[.slice iA k iC,.slice pA pn pC,.slice aA n aC] 35);have a5:w1.heap.size=w.heap.size+1:=by rw[H9];simp
 rw[<-H9]at n1;obtain⟨w2,b0⟩:=Nm (w1.alloc (.cells #[.int .i64 0,.int .i64 0,.slice none 0 0,.slice none 0 0] 29));have g2:w1.grownBy w2 none:=by rw[b0];exact Ga w1 _ none
 have n2:=heap_alloc_new w1 (.cells #[.int .i64 0,.int .i64 0,.slice none 0 0,.slice none 0 0] 29);rw[<-b0,a5]at n2;obtain⟨P,d5⟩:=Nm w.heap.size;rw[<-d5]at n1 n2;have c7:=zC g1 g2;have HB:Hid (∀W:World,w2.grownBy W none->(W.heap[P]?=some (.cells #[.slice iA k iC,.slice pA pn pC,.slice aA n aC] 35 (0,0))/\W.heap[P+1]?=some (.cells #[.int .i64 0,.int .i64 0,.slice none 0 0,.slice none 0 0] 29 (0,0)))/\w.grownBy W none):=Kh (fun W hg=>⟨⟨zB (zB n1 g2) hg,zB n2 hg⟩,zC c7 hg⟩);have HI:Hid (∀W:World,w.grownBy W none->Row B W (.slice iA k iC) (ints c.idx)):=Kh (fun W hg=>hi.kept hg (by simp));have HP:Hid (∀W:World,w.grownBy W none->Row B W (.slice pA pn pC) (ints c.per)):=Kh (fun W hg=>hp.kept hg (by simp));have HA:Hid (∀W:World,w.grownBy W none->Row B W (.slice aA n aC) (bls c.acc)):=Kh (fun W hg=>ha.kept hg (by simp));have HV:=Kh (kE B w2 _ c (h.kept c7));obtain⟨l0,k9,b3,HK,i1,HN⟩:=K6 H9 b0 d5 hk b1 hn;obtain⟨E,hE⟩:=Nm (cntE c);rw[<-hE]at HV;have e0:=Kh hE;clear h hi hp ha hk b1 hn g1 n1 a5 g2 n2 c7 H9 b0 d5 hE;go_enter Tryz.func43,Tryz.ntmps43;go_upto_region 1 with fail;rw[<-l0.out,<-b3.out,<-k9.out];obtain⟨q0,q1,q2⟩:=xW (HB.out _ (zU w2 none)).1.1;go_wp2_with fail;refine HV.out.mono ?_;rintro e w3 ⟨rfl,h7⟩;have i6:=Kh h7;clear q0 q1 q2;by_cases h0:E=0
 ·subst h0
  have h5:=Kh (gU.1 e0.out.symm);have f6:1<=k:=by rw[HK.out];exact h5.out.k1
  have c6:k<=6:=by rw[HK.out];exact h5.out.k6
  have j7:k=pn:=by rw[i1.out,HK.out];exact h5.out.pl.symm
  subst j7;have c4:n<=2000:=by rw[HN.out];exact qP h5.out.size
  obtain⟨q0,q1,q2⟩:=xW (HB.out _ h7).1.1;clear h7;go_upto_region 5 with fail;refine qRW q2 c4 c6 ?_;intro z24 z25 z26 z27 z28 z29 z30 z31 z32 z33 z34 w5 M ng h8 c3 g6 g5 a0 g3;have H5:=zC i6.out g3;obtain⟨N,b2⟩:=Nm (n*k);rw[<-b2]at h8;have b4:=Kh b2;have k5:N<=12000:=by rw[b2];exact Nat.mul_le_mul c4 c6
  clear b2;obtain⟨fb,fo,fc,ef,_,fc1,fc2,fr⟩:=(HA.out _ (HB.out _ (zU w2 none)).2).some_ (by rw[zX];have:=(pW h5.out).n1;omega);obtain⟨ib,io,ic,ei,_,ic1,ic2,ir⟩:=(HI.out _ (HB.out _ (zU w2 none)).2).some_ (by rw[zJ,<-HK.out];exact f6);obtain⟨pb,po,pc,ep,_,pc1,pc2,pr⟩:=(HP.out _ (HB.out _ (zU w2 none)).2).some_ (by rw[zJ,h5.out.pl,<-HK.out];exact f6);simp only[Value.slice.injEq]at ef ei ep;obtain⟨rfl,a5,rfl⟩:=ef;obtain⟨rfl,j1,rfl⟩:=ei;obtain⟨rfl,j0,rfl⟩:=ep;rw[zX,<-HN.out]at fc1;rw[zJ,<-HK.out]at ic1;rw[zJ,<-i1.out]at pc1;unfold maxLen at fc2 ic2 pc2;obtain⟨m5,i4,l6⟩:=K3 fr ir pr;have i3:Hid (w5.heap.size<=w5.heap.size/\w3.heap.size<=M/\w3.heap.size<=ng/\M≠ng):=Kh ⟨Nat.le_refl _,g5,a0,g6⟩;rw[<-qHF c n k (by omega),<-qHG c n k (by omega)]at c3;obtain⟨i2,i9,a4⟩:=K3 h8 c3 H5;obtain⟨q0,q1,q2⟩:=xW (HB.out _ H5).1.1;have n0:Hid (uS (radN c) k k=1):=Kh (nK (Nat.le_refl _))
  have l4:Hid (∀b,b<k->∃i p r:Nat,c.idx.getD b 0=(i:Int)/\c.per.getD b 0=(p:Int)/\i<=2000/\p<=2000/\1<=p/\r=i+p/\r=radN c b/\i=iN c b):=Kh (fun b hb=>by
   obtain⟨i,p,e1,e2,e3,e4,e5⟩:=qNG h5.out (a:=b) (by rw[<-HK.out];exact hb)
   exact⟨i,p,i+p,e1,e2,e3,e5,e4,rfl,by unfold radN iN pN;rw[e1,e2];simp,by unfold iN;rw[e1];simp⟩)
  have g9:Hid (∀b,b<=k->1<=uS (radN c) b k/\uS (radN c) b k<=n):=Kh (fun b hb=>by
   have hp:∀x,x<k->0<radN c x:=fun x hx=>(nJ h5.out.pos (by rw[<-HK.out];exact hx)).1;refine⟨eJ hp,?_⟩;have h1:=aU h5.out;rw[<-HK.out,<-HN.out]at h1
   have h2:∀d,b+d<=k->uS (radN c) (b+d) k<=uS (radN c) b k:=by
    intro d
    induction d with
    | zero=>intro _;exact Nat.le_refl _
    | succ d ih =>
     intro hd;refine Nat.le_trans ?_ (ih (by omega));rw[sH (a:=b+d) (b:=k) (by omega)];exact Nat.le_mul_of_pos_left _ (hp _ (by omega))
   have h3:∀d,d<=k->uS (radN c) d k<=uS (radN c) 0 k:=by
    intro d
    induction d with
    | zero=>intro _;exact Nat.le_refl _
    | succ d ih =>
     intro hd;refine Nat.le_trans ?_ (ih (by omega));rw[sH (a:=d) (b:=k) (by omega)];exact Nat.le_mul_of_pos_left _ (hp _ (by omega))
   rw[<-h1];exact h3 b hb)
  clear h8 c3 g6 g5 a0 g3 H5 a5 j1 j0 fr ir pr;go_wp2
  go_loopg [7,8,9,10,11,12,55] k (fun gh a7 a8 a9 a10 a11 a12 a55 wr=>∃(b s:Nat) (z:Int),gh=b/\a7=.int .i64 (s:Int)/\a8=.int .i64 z/\z=(b:Int)-1/\b<=k/\s=uS (radN c) b k/\wr.heap[M]?=some (.cells #[.int .i64 (k:Int),.slice (some ⟨ng,0,none⟩) N N,.slice (some ⟨fb,fo,none⟩) n aC] 123 (0,0))/\Arr wr ng 3 (ints (mtab c n k b n))/\w2.grownBy wr none)
  case atStart=>exact⟨k,1,(k:Int)-1,rfl,rfl,by go_num,rfl,Nat.le_refl _,n0.out.symm,i2.out,i9.out,a4.out⟩
  clear i2 i9 a4 q0 q1 q2;obtain⟨b,s,z,g0,rfl,rfl,hz,k2,hs,h8,h9,H4⟩:=hrel;obtain⟨m4,HS,HM,H6,h6⟩:=K5 g0 hs h8 h9 H4;obtain⟨q0,q1,q2⟩:=xW (HB.out _ H4).1.1;clear g0 hs h8 h9 H4;rcases b with _|b
  ·obtain rfl:z = -1:=by omega
   have c9:=m5.out.kept h6.out (by simp)
   have g7:MachAt wr M k n (dfaC c) ng 0 N fb fo aC []:=by
    refine⟨by have h:=HM.out;rw[b4.out]at h⊢;exact h,fun x a hx ha=>?_,fun x hx=>c9.boolQ x (by rw[<-HN.out];exact hx),H6.out.lt,c9.1,⟨by rw[<-b4.out];exact Nat.le_refl _,by unfold maxLen;omega⟩,⟨fc1,by unfold maxLen;omega⟩⟩
    have hl:x*k+a<n*k:=by
     have:(x+1)*k<=n*k:=Nat.mul_le_mul_right k hx;rw[Nat.add_mul,Nat.one_mul]at this;omega
    have h1:=H6.out.int (x*k+a) (by rw[nS];exact hl);rw[qNS hx ha]at h1
    have h2:nx (dfaC c) x a=qO c x a:=by
     unfold nx entN;rw[fP (by rw[<-HN.out];exact hx) (by rw[<-HK.out];exact ha),Int.toNat_natCast]
    rw[Nat.zero_add,h2];exact h1
   have b5:=pW h5.out;rw[<-HN.out,<-HK.out]at b5
   have l7:=Kh (qCH wr M k n (dfaC c) ng 0 N fb fo aC [] b5 (by omega) rfl (fun q hq=>by
    obtain⟨u,hu,hr⟩:=qHU h5.out (q:=q) (by rw[<-HN.out];exact hq)
    exact⟨u,by rw[HK.out];exact hu,hr⟩) g7)
   clear c9 g7 b5 q0 q1 q2 hz;go_wp2_with fail;refine l7.out.mono ?_;rintro e wm ⟨v,bb,rfl,f9,k3⟩;have i5:=Kh (zC h6.out f9);clear f9;rcases k3 with ⟨rfl,hmn,f,nx,rfl,hdt⟩|⟨rfl,hmn,rfl⟩
   ·obtain⟨sa,n1,c1,sb,n2,c2,rfl,rfl⟩:=hdt.shapes
    have m7:=Kh hdt;have a3:=Kh hmn;clear hdt hmn;go_upto_region 22 with fail;obtain⟨D,hD⟩:=Nm wm.heap.size;obtain⟨wd,H1⟩:=Nm (wm.alloc (.cells #[.int .i64 (k:Int),.int .i64 0,.slice sa n1 c1,.slice sb n2 c2] 29));have gd:=Ga wm (.cells #[.int .i64 (k:Int),.int .i64 0,.slice sa n1 c1,.slice sb n2 c2] 29) none;have bd:=heap_alloc_new wm (.cells #[.int .i64 (k:Int),.int .i64 0,.slice sa n1 c1,.slice sb n2 c2] 29);rw[<-H1,<-hD]at bd;rw[<-H1]at gd;rw[<-H1,<-hD];have m8:=Kh (m7.out.grow gd);have a1:=zC i5.out gd;have h4:=HB.out _ a1;obtain⟨d0,d1,d2,d3⟩:=zL bd;obtain⟨r0,r1,r2,r3⟩:=zL h4.1.2;have f0:=zA h4.1.2 0;have f1:=zA h4.1.2 1;have f2:=zA h4.1.2 2;have f3:=zA h4.1.2 3;have H8:=Kh h4;clear H1 hD gd bd a1 h4;go_wp2;refine bodyPost_ret (v:=.tuple #[.agg #[.int .i64 (k:Int),.int .i64 0,.slice sa n1 c1,.slice sb n2 c2],.int .i64 0]) (by simp[results,Tryz.results43,go_sem,r0,r1,r2,r3]) rfl ?_;obtain⟨e7,H7⟩:=uF H8.out.1.2 (.int .i64 (k:Int)) (.int .i64 0) (.slice sa n1 c1) (.slice sb n2 c2);have c0:∀e',e'≠29->xG wd e' (P+1):=fun e' he=>⟨_,_,_,H8.out.1.2,fun e1=>he e1.symm⟩
    have k7:=m8.out.kept H7 (fun j e=>by
     have e:=Oj e;subst e
     exact⟨c0 4 (by decide),c0 22 (by decide),c0 3 (by decide)⟩)
    exact⟨.inr ⟨_,_,by rw[<-HK.out],h5.out,by rw[<-HK.out];exact a3.out,by rw[<-HK.out];exact k7⟩,zC H8.out.2 H7 (fun j e=>by have e:P+1=j:=Oj e;have:=b3.out;omega)⟩
   have a3:=Kh hmn;clear hmn;go_upto_region 22 with fail;obtain⟨D,hD⟩:=Nm wm.heap.size;obtain⟨wd,H1⟩:=Nm (wm.alloc (.cells #[.int .i64 0,.int .i64 0,.slice none 0 0,.slice none 0 0] 29));have gd:=Ga wm (.cells #[.int .i64 0,.int .i64 0,.slice none 0 0,.slice none 0 0] 29) none;rw[<-H1]at gd;rw[<-H1,<-hD];have a1:=zC i5.out gd;have h4:=HB.out _ a1;obtain⟨r0,r1,r2,r3⟩:=zL h4.1.2;have f0:=zA h4.1.2 0;have f1:=zA h4.1.2 1;have f2:=zA h4.1.2 2;have f3:=zA h4.1.2 3;have H8:=Kh h4;clear H1 hD gd a1 h4;go_wp2;refine bodyPost_ret (v:=.tuple #[.agg #[.int .i64 0,.int .i64 0,.slice none 0 0,.slice none 0 0],.int .i64 3]) (by simp[results,Tryz.results43,go_sem,r0,r1,r2,r3]) rfl ?_;obtain⟨e7,H7⟩:=uF H8.out.1.2 (.int .i64 0) (.int .i64 0) (.slice none 0 0) (.slice none 0 0);exact⟨.inl ⟨3,rfl,.inr ⟨rfl,h5.out,by rw[<-HK.out];exact a3.out⟩⟩,zC H8.out.2 H7 (fun j e=>by have e:P+1=j:=Oj e;have:=b3.out;omega)⟩
  obtain rfl:z=(b:Int):=by omega
  have H2:b<k:=(by omega);obtain⟨i,p,r,ei,ep,j9,j8,n6,hr,b9,f7⟩:=l4.out b H2;have ci:=(i4.out.kept h6.out (by simp)).int b (by rw[<-HK.out];exact H2);have cp:=(l6.out.kept h6.out (by simp)).int b (by rw[h5.out.pl,<-HK.out];exact H2);rw[ei]at ci;rw[ep]at cp;have er:IntKind.i64.wrap ((i:Int)+(p:Int))=(r:Int):=by rw[hr];exact xJ (by omega)
  have n7:(b:Int)<k:=(by omega);have n8:(0:Int)<=b:=by omega
  have b7:=g9.out (b+1) k2;rw[<-HS.out]at b7;obtain⟨b7,n4⟩:=b7;have b8:=(g9.out b (by omega)).2;rw[sH H2,<-HS.out,<-b9]at b8;obtain⟨l3,i0,l8,n9⟩:=K4 b8 b9 f7 hr;have j5:1<=r:=by omega
  have n5:r<=4000:=by omega
  have d6:=H6.out;rw[qHH]at d6;have e6:=Kh d6;have m6:=Kh ei;clear b8 b9 f7 hr d6 ei ep hz j8;go_wp2
  go_quiet (fail)
  clear er;go_wp2
  go_loopg [10,11,12,55] n (fun gh a10 a11 a12 a55 wx=>∃q:Nat,gh+q=n/\a55=.int .i64 q/\wx.heap[M]?=some (.cells #[.int .i64 (k:Int),.slice (some ⟨ng,0,none⟩) N N,.slice (some ⟨fb,fo,none⟩) n aC] 123 (0,0))/\Arr wx ng 3 (ints (mtab c n k b q))/\w2.grownBy wx none)
  case atStart =>
   first
   | exact⟨0,rfl,rfl,HM.out,e6.out,h6.out⟩
   | exact⟨0,rfl,rfl,zB HM.out (zQ _ _ none),e6.out.kept (zQ _ _ none) (by simp),zC h6.out (zQ _ _ none)⟩
  clear HM H6 e6 h6 ci cp q0 q1 q2;obtain⟨q,f8,rfl,h8,h9,H4⟩:=hrel;obtain⟨d9,HM,H6,h6⟩:=K4 f8 h8 h9 H4;obtain⟨q0,q1,q2⟩:=xW (HB.out _ H4).1.1;obtain⟨m0,m1,m2⟩:=xW h8;clear f8 h8 h9 H4;by_cases hq:q<n
  ·have e9:(q:Int)<n:=by omega
   obtain⟨t,d,e,x,vv,X,Y,yy,HF,i7,n3,HE,g8,l9,g4,j2,k8,l1,m9⟩:=qTB h5.out HK.out HN.out hq H2 c6 c4 HS.out i0.out l8.out j9 j5;rw[<-b4.out]at g4;have j4:¬(s:Int)=0:=by omega
   have j6:¬(r:Int)=0:=by omega
   have k0:(d:Int)+1=(e:Int):=by have:=HE.out;omega
   have ci:=(i4.out.kept h6.out (by simp)).int b (by rw[<-HK.out];exact H2);rw[m6.out]at ci;obtain⟨f1,f2⟩:=HF.out;obtain⟨f3,f4,f5⟩:=i7.out
   go_upto_if 67 with fail
   clear f1 f2 f3 f4 f5 k0 j4 j6;go_cut [12] (fun v12 wx=>v12=.int .i64 (x:Int)/\wr=wx)
   case first =>
    by_cases heq:e=r
    ·have a2:((e:Int) == (r:Int))=true:=by rw[beq_iff_eq];omega
     rw[a2];have d7:Hid (x=i):=Kh (by rw[g8.out,if_pos heq]);clear heq a2;go_wp2
     go_meet
     exact⟨by rw[d7.out],rfl⟩
    have a2:((e:Int) == (r:Int))=false:=by rw[beq_eq_false_iff_ne];omega
    rw[a2];have d7:Hid (x=e):=Kh (by rw[g8.out,if_neg heq]);clear heq a2;go_wp2
    go_meet
    exact⟨by rw[d7.out,i7.out.2.2],rfl⟩
   obtain⟨rfl,rfl⟩:=hcut;clear ci q0 q1 q2;have h9:=H6.out;have d4:Y<(mtab c n k b q).length:=(by rw[nS,<-b4.out];exact g4);obtain⟨u,hu⟩:=Nm ((mtab c n k b q).getD Y 0);have cy:=h9.int Y d4;rw[<-hu]at cy;have fy:=h9.frozen Y;have H3:=h9.int_set Y d4 (vv:Int);have c5:=qNR (c:=c) H2 hq;rw[<-k8.out,<-l1.out]at c5;rw[c5]at H3;have d8:=Kh H3;have c8:=zF wr ⟨ng,Y,none⟩ (.int .i64 (vv:Int));have m3:=Kh (zC h6.out c8 (fun j e=>by have e:ng=j:=Oj e;subst e;exact Nat.le_trans i6.out.size i3.out.2.2.1));have a3:=Kh (zB HM.out c8 (fun e=>i3.out.2.2.2 (Oj e).symm));have k4:(Y:Int)<N:=(by omega);obtain⟨I1,I2,I3,I4⟩:=l9.out;obtain⟨y0,y1,y2⟩:=m9.out;clear h9 d4 hu H3 c5 c8 j2;go_wp2;clear m0 m1 m2 I1 I2 I3 I4 y0 y1 y2 cy fy e9;go_roundg (n-(q+1))
   case measure=>have:=d9.out;omega
   exact⟨q+1,by have:=d9.out;omega,by go_num,a3.out,d8.out,m3.out⟩
  have e8:q=n:=by have:=d9.out;omega
  have e9:¬(q:Int)<n:=(by omega);have l5:=Kh e8
  have j3:wrap64 ((s:Int)*(r:Int))=((uS (radN c) b k:Nat):Int):=by
   rw[sH H2,<-HS.out,<-i0.out];have e1:(s:Int)*(r:Int)=((r*s:Nat):Int):=by rw[Nat.mul_comm];simp
   rw[e1];have:=l3.out;exact IntWalk.wrap64_in _ (by omega)
  obtain⟨s2,b6⟩:=Nm (uS (radN c) b k);rw[<-b6]at j3;have l2:=Kh b6;clear b6 e8;go_wp2;go_roundg b
  case measure=>have:=m4.out;omega
  exact⟨b,s2,(b:Int)-1,rfl,rfl,by go_num,rfl,by omega,l2.out,HM.out,by have:=H6.out;rw[l5.out]at this;exact this,h6.out⟩
 have hb:(E != 0)=true:=by rw[bne_iff_ne];exact h0
 obtain⟨r0,r1,r2,r3⟩:=zL (HB.out _ h7).1.2;have f0:=zA (HB.out _ h7).1.2 0;have f1:=zA (HB.out _ h7).1.2 1;have f2:=zA (HB.out _ h7).1.2 2;have f3:=zA (HB.out _ h7).1.2 3;have i8:=Kh (HB.out _ h7);have H0:=Kh h0;clear h7 h0;go_wp2;refine bodyPost_ret (v:=.tuple #[.agg #[.int .i64 0,.int .i64 0,.slice none 0 0,.slice none 0 0],.int .i64 E]) (by simp[results,Tryz.results43,go_sem,r0,r1,r2,r3]) rfl ?_;obtain⟨e7,H7⟩:=uF i8.out.1.2 (.int .i64 0) (.int .i64 0) (.slice none 0 0) (.slice none 0 0);exact⟨.inl ⟨E,rfl,.inl ⟨e0.out,fun h=>H0.out (e0.out.trans h)⟩⟩,zC i8.out.2 H7 (fun j e=>by have e:P+1=j:=Oj e;have:=b3.out;omega)⟩
end Go.Proofs.YtobakifdllameaaGreat
namespace Go.Proofs.YtobakifdllameaaGreat
open Go.RowKit
section
variable {base o:Nat} {W W':World} {L S:Int} {fs:List Bool} {t:List (List Int)} {hs:List Value} {sf sn:Option Addr} {cf cn:Nat}
theorem Built.pushR {m:Nat}{b:Bool}{row:List Int}{rv:Value}{a9 a7:Option Addr}{a8 a6:Nat}{ls:List (Nat×Obj)}{ps:List (Nat×TypeId×List Value)}(h:Built base W o L S fs t hs sf cf sn cn)(hm:t.length=m)(hM:Many W (FB sf sn) W' [⟨base,22,.slice a7 (m+1) a6,m+1,hs++[rv],1⟩,⟨base,4,.slice a9 (m+1) a8,m+1,bls fs++[.bool b],1⟩] ls ps)(a5:RowT W.heap.size 3 W rv (ints row)){W2:World}(a4:W2=(W'.setCell ⟨o,2,none⟩ (.slice a9 (m+1) a8)).setCell ⟨o,3,none⟩ (.slice a7 (m+1) a6)):Built base W2 o L S (fs++[b]) (t++[row]) (hs++[rv]) a9 a8 a7 a6/\∀w0:World,w0.grownBy W (some o)->w0.heap.size<=base->w0.grownBy W2 (some o):=by
 have h2:fs.length=m:=h.len.trans hm;have hN:=hM.own 0 _ rfl;have hF:=hM.own 1 _ rfl;simp only[]at hN hF;have h0:=hM.but.heap h.box h.notbox;have h1:=(h.rows.snoc a5).keptF hM.but (fun k hk=>.inr (h.other k hk));have s1:=heap_setCell_same W' o 2 _ _ (.slice a9 (m+1) a8) h0;have s2:=heap_setCell_same _ o 3 _ _ (.slice a7 (m+1) a6) s1;have g1:W'.grownBy W2 (some o):=by rw[a4];exact zG (zF W' ⟨o,2,none⟩ _) (zF (W'.setCell ⟨o,2,none⟩ (.slice a9 (m+1) a8)) ⟨o,3,none⟩ _)
 have h3:xG W' 3 o:=⟨_,_,_,h0,by decide⟩;refine⟨⟨?_,?_,?_,?_,by simp[h.len]⟩,fun w0 hw0 hb=>?_⟩
 ·rw[a4,s2]
  simp[h2,hm]
 ·have:=hF.kept g1 (.inr (zV hF h0 (by decide)))
  rw[List.length_append,h2];simpa [bls] using this
 ·have:=hN.kept g1 (.inr (zV hN h0 (by decide)))
  rw[List.length_append,hm];exact this
 ·exact(h1.kept g1 (fun k hk=>.inr (by have:=Oj hk;subst this;exact h3))).mono (Nat.le_trans hM.but.size g1.size)
 exact zG (hM.but.grown hw0 (fun k hk=>.inr (Nat.le_trans hb (h.ge k hk)))) g1
end
theorem qJN {Q:Exit->Act->World->Prop}{v0 v2 v3 v4 v5 v8 v9 k8 k9 j0 j1 j2 j3 j4 j5 j6 j7 j8 j9 i0 i1 i2 i3 i4 i5 i6 i7 i8 i9 g0 g1 g2 g5 g6 g7 g8 g9 f0 f1 f2 f3 f4 f5 f6 f7 f8 e0 e1 e4 e5 e6 e7 e8 e9 d0 d1 d2 d3 d4 d5 d6 d7 d8 d9 c0 c3 c4 c5 c6 c7 c8 c9 b0 b1 b2 b3 b4 b5 b6 b7 l2 l3 l4 l5 l6 l7 l8 l9 k0 k1 k2 k3 k4 k5 k6 k7 b9 a0 a1 a2 a3 a4 a5 a6 a7:Value}{dd:_}{w:World}{base P D q n m fb fo fc cr cf cn:Nat}{k:Nat}{sr sf sn:Option Addr}{L S:Int}{fs:List Bool}{t:List (List Int)}{hs:List Value}{b:Bool}{row:List Int}(h:Built base w D L S fs t hs sf cf sn cn)(hm:t.length=m)(l1:m<=4000)(b8:RowT w.heap.size 3 w (.slice sr k cr) (ints row))(hq:q<n)(hn:n<=fc/\fc<=9223372036854775807)(a8:base<=w.heap.size)(hP:P<base)(l0:fb<base)(c1:w.cell? ⟨P,2,none⟩=some (.slice (some ⟨fb,fo,none⟩) n fc))(c2:w.cell? ⟨fb,fo+q,none⟩=some (.bool b))(a9:∀(z84 z85 z86 z87 z88 z89 z90 z91 z92 z93 z94 z95 z96 z97 z98 z99:Value) (w':World) (sf':Option Addr) (cf':Nat) (sn':Option Addr) (cn':Nat),Built base w' D L S (fs++[b]) (t++[row]) (hs++[.slice sr k cr]) sf' cf' sn' cn'->(∀w0:World,w0.grownBy w (some D)->w0.heap.size<=base->w0.grownBy w' (some D))->Q .normal ⟨(v0::(Value.pointer (some ⟨P,0,none⟩))::v2::v3::v4::v5::(Value.pointer (some ⟨D,0,none⟩))::(Value.int .i64 (q:Int))::v8::v9::k8::k9::(Value.slice sr k cr)::j0::j1::j2::j3::j4::j5::j6::j7::j8::j9::i0::i1::i2::i3::i4::i5::i6::i7::i8::i9::g0::g1::g2::g5::g6::g7::g8::g9::f0::f1::f2::f3::f4::f5::f6::f7::f8::e0::e1::e4::e5::e6::e7::e8::e9::d0::d1::d2::d3::d4::d5::d6::d7::d8::d9::c0::c3::c4::c5::c6::c7::c8::c9::b0::b1::b2::b3::b4::b5::b6::b7::z84::z85::z86::z87::z88::z89::z90::z91::z92::z93::z94::z95::z96::z97::z98::z99::b9::a0::a1::a2::a3::a4::a5::a6::a7::[]).toArray,dd⟩ w'):Code.wp Tryz.prog (reg Tryz.f9 22) Q ⟨(v0::(Value.pointer (some ⟨P,0,none⟩))::v2::v3::v4::v5::(Value.pointer (some ⟨D,0,none⟩))::(Value.int .i64 (q:Int))::v8::v9::k8::k9::(Value.slice sr k cr)::j0::j1::j2::j3::j4::j5::j6::j7::j8::j9::i0::i1::i2::i3::i4::i5::i6::i7::i8::i9::g0::g1::g2::g5::g6::g7::g8::g9::f0::f1::f2::f3::f4::f5::f6::f7::f8::e0::e1::e4::e5::e6::e7::e8::e9::d0::d1::d2::d3::d4::d5::d6::d7::d8::d9::c0::c3::c4::c5::c6::c7::c8::c9::b0::b1::b2::b3::b4::b5::b6::b7::l2::l3::l4::l5::l6::l7::l8::l9::k0::k1::k2::k3::k4::k5::k6::k7::b9::a0::a1::a2::a3::a4::a5::a6::a7::[]).toArray,dd⟩ w:=by
 obtain⟨w7,H7⟩:=Nm w.drew;have h8:w.grownBy w7 none:=by rw[H7];exact zS w none
 have m2:=Kh H7;have H9:=Kh h8;have h9:=Kh (h.grow h8);have HM:=Kh hm;have HE:=Kh a9;have H1:=Kh ((b8.kept h8 (by simp)).mono h8.size);have H8:fs.length=m:=h.len.trans hm
 have hM:Many w7 (FB sf sn) w7 [⟨base,22,.slice sn m cn,m,hs,1⟩,⟨base,4,.slice sf m cf,m,bls fs,1⟩] [] []:=by
  have h1:=h9.out.many;simp only[rN,rF,H8,hm]at h1;exact h1
 have H0:=h9.out.box;rw[H8,hm]at H0;have H6:=Kh H0;have H5:=Kh h9.out.notbox;have H2:base<=w7.heap.size:=Nat.le_trans a8 h8.size;have m1:=zK c1 h8;have m0:=zK c2 h8
 have h4:Hid (∀W rs ls,Many w7 (FB sf sn) W rs ls []->W.cell? ⟨P,2,none⟩=some (.slice (some ⟨fb,fo,none⟩) n fc)/\W.cell? ⟨fb,fo+q,none⟩=some (.bool b)/\W.cell? ⟨D,2,none⟩=some (.slice sf m cf)/\W.cell? ⟨D,3,none⟩=some (.slice sn m cn)):=Kh (fun W rs ls h=>by
  obtain⟨_,_,e2,e3⟩:=zL (h.but.heap H6.out H5.out)
  exact⟨h.but.cell m1 (fun hf=>by have:=h9.out.ge _ hf;simp only at this;omega),h.but.cell m0 (fun hf=>by have:=h9.out.ge _ hf;simp only at this;omega),e2,e3⟩)
 have m3:(q:Int)<n:=by omega
 have C:=Kh (h4.out _ _ _ hM);clear H7 h8 h hm a9 b8 H8 H0 c1 c2 m1 m0 a8
 conv=>arg 2;whnf
 refine wp_region_noPanic ?_;refine yM (G:=wH 15 (fun _=>True) (fun W=>W.cell? ⟨P,2,none⟩=some (.slice (some ⟨fb,fo,none⟩) n fc)/\W.cell? ⟨fb,fo+q,none⟩=some (.bool b)/\W.cell? ⟨D,2,none⟩=some (.slice sf m cf)/\W.cell? ⟨D,3,none⟩=some (.slice sn m cn))) (by kernel_rfl) ?_;rw[<-m2.out];refine zO 0 ⟨trivial,fun _=>C.out⟩ ?_;refine yY 1 ⟨trivial,fun _=>C.out⟩ ?_;refine zO 2 ⟨trivial,fun _=>C.out⟩ ?_;refine yY 3 ⟨trivial,fun _=>C.out⟩ ?_;refine zO 4 ⟨trivial,fun _=>C.out⟩ ?_;refine yY 5 ⟨trivial,fun _=>C.out⟩ ?_;refine yY 6 ⟨trivial,fun _=>C.out⟩ ?_;refine zO 9 ⟨trivial,fun _=>C.out⟩ ?_;refine yY 10 ⟨trivial,fun _=>C.out⟩ ?_;refine zO 11 ⟨trivial,fun _=>C.out⟩ ?_;refine twoG (i:=7) (j:=12) (by kernel_rfl) rfl rfl (fun K hK=>?_) (fun K hK=>?_)
 ·go_simp
  refine hK.out _ _ ⟨trivial,fun _=>h4.out _ _ _ (hM.alloc _)⟩ ?_;clear hK K
  try simp only[Act.put,sPd,sPe,sPf,sPa,sPb,sPc]
  refine twoG (i:=8) (j:=12) (by kernel_rfl) rfl rfl (fun K hK=>?_) (fun K hK=>?_)
  ·refine wO rfl (.tmp 85) (.tmp 91) 26 rfl wF 1 _ _ rfl ⟨_,_,_,_,_,(hM.alloc _),_,rfl,rfl,rfl,rfl,?g3,?g4,H2,_,_,_,List.Mem.head _,(by first|rfl|simp),rfl,?_⟩
   case g3=>(simp only[];unfold maxLen;omega)
   case g4=>(simp only[];omega)
   intro sa1 sc1 w1x h0;have h6:=h0.litcell (List.Mem.head _)
   try simp only[zW]at h6
   try(have h5:=h0.litcell (List.Mem.tail _ (List.Mem.head _));try simp only[zW]at h5)
   refine hK.out _ _ ⟨trivial,fun _=>h4.out _ _ _ (h0)⟩ ?_;clear hK K
   try simp only[Act.put,sPd,sPe,sPf,sPa,sPb,sPc]
   refine zO 14 ⟨trivial,fun _=>h4.out _ _ _ h0⟩ ?_;refine oneG (i:=12) (by kernel_rfl) rfl (fun K hK=>?_);go_simp;refine hK.out _ _ ⟨trivial,fun _=>h4.out _ _ _ (h0.alloc _)⟩ ?_;clear hK K
   try simp only[Act.put,sPd,sPe,sPf,sPa,sPb,sPc]
   refine oneG (i:=13) (by kernel_rfl) rfl (fun K hK=>?_);refine wO rfl (.tmp 94) (.tmp 96) 27 rfl wG 0 _ _ rfl ⟨_,_,_,_,_,(h0.alloc _),_,rfl,rfl,rfl,rfl,?g3,?g4,H2,_,_,_,List.Mem.head _,(by first|rfl|simp),rfl,?_⟩
   case g3=>(simp only[];unfold maxLen;omega)
   case g4=>(simp only[];omega)
   intro sa2 sc2 w2x h3;have h6:=h3.litcell (List.Mem.head _)
   try simp only[zW]at h6
   try(have h5:=h3.litcell (List.Mem.tail _ (List.Mem.head _));try simp only[zW]at h5)
   refine hK.out _ _ ⟨trivial,fun _=>h4.out _ _ _ (h3)⟩ ?_;clear hK K
   try simp only[Act.put,sPd,sPe,sPf,sPa,sPb,sPc]
   refine oneG (i:=15) (by kernel_rfl) rfl (fun K hK=>?_);have h7:=h3.but.heap H6.out H5.out;have cb2:=zH h7 2;have fb2:=zA h7 2;simp only[List.getElem_toArray,List.getElem_cons_zero,List.getElem_cons_succ]at cb2;go_simp;have h2:=heap_setCell_same _ D 2 _ _ (.slice sa1 (m+1) sc1) h7;have cb3:=zH h2 3;have fb3:=zA h2 3;simp at cb3;refine hK.out _ _ ⟨trivial,fun h=>by simp at h⟩ ?_;clear hK K
   try simp only[Act.put,sPd,sPe,sPf,sPa,sPb,sPc]
   refine zO 16 ⟨trivial,fun h=>by simp at h⟩ ?_;refine oneG (i:=17) (by kernel_rfl) rfl (fun K hK=>?_);go_simp;refine hK.out _ _ ⟨trivial,fun h=>by simp at h⟩ ?_;clear hK K
   try simp only[Act.put,sPd,sPe,sPf,sPa,sPb,sPc]
   refine tT (by kernel_rfl) ?_ _;refine NoPanic.normal ?_;obtain⟨H4,H3⟩:=h9.out.pushR (b:=b) (row:=row) HM.out h3 H1.out rfl;exact HE.out _ _ _ _ _ _ _ _ _ _ _ _ _ _ _ _  _ _ _ _ _ H4 (fun w0 hw0 hb0=>H3 w0 (zC hw0 H9.out) hb0)
  go_simp;refine hK.out _ _ ⟨trivial,fun _=>h4.out _ _ _ ((hM.alloc _).alloc _)⟩ ?_;clear hK K
  try simp only[Act.put,sPd,sPe,sPf,sPa,sPb,sPc]
  refine oneG (i:=8) (by kernel_rfl) rfl (fun K hK=>?_);refine wO rfl (.tmp 85) (.tmp 91) 26 rfl wF 1 _ _ rfl ⟨_,_,_,_,_,((hM.alloc _).alloc _),_,rfl,rfl,rfl,rfl,?g3,?g4,H2,_,_,_,List.Mem.tail _ (List.Mem.head _),(by first|rfl|simp),rfl,?_⟩
  case g3=>(simp only[];unfold maxLen;omega)
  case g4=>(simp only[];omega)
  intro sa1 sc1 w1x h0;have h6:=h0.litcell (List.Mem.head _)
  try simp only[zW]at h6
  try(have h5:=h0.litcell (List.Mem.tail _ (List.Mem.head _));try simp only[zW]at h5)
  refine hK.out _ _ ⟨trivial,fun _=>h4.out _ _ _ (h0)⟩ ?_;clear hK K
  try simp only[Act.put,sPd,sPe,sPf,sPa,sPb,sPc]
  refine zO 14 ⟨trivial,fun _=>h4.out _ _ _ h0⟩ ?_;refine oneG (i:=13) (by kernel_rfl) rfl (fun K hK=>?_);refine wO rfl (.tmp 94) (.tmp 96) 27 rfl wG 0 _ _ rfl ⟨_,_,_,_,_,(h0),_,rfl,rfl,rfl,rfl,?g3,?g4,H2,_,_,_,List.Mem.head _,(by first|rfl|simp),rfl,?_⟩
  case g3=>(simp only[];unfold maxLen;omega)
  case g4=>(simp only[];omega)
  intro sa2 sc2 w2x h3;have h6:=h3.litcell (List.Mem.head _)
  try simp only[zW]at h6
  try(have h5:=h3.litcell (List.Mem.tail _ (List.Mem.head _));try simp only[zW]at h5)
  refine hK.out _ _ ⟨trivial,fun _=>h4.out _ _ _ (h3)⟩ ?_;clear hK K
  try simp only[Act.put,sPd,sPe,sPf,sPa,sPb,sPc]
  refine oneG (i:=15) (by kernel_rfl) rfl (fun K hK=>?_);have h7:=h3.but.heap H6.out H5.out;have cb2:=zH h7 2;have fb2:=zA h7 2;simp only[List.getElem_toArray,List.getElem_cons_zero,List.getElem_cons_succ]at cb2;go_simp;have h2:=heap_setCell_same _ D 2 _ _ (.slice sa1 (m+1) sc1) h7;have cb3:=zH h2 3;have fb3:=zA h2 3;simp at cb3;refine hK.out _ _ ⟨trivial,fun h=>by simp at h⟩ ?_;clear hK K
  try simp only[Act.put,sPd,sPe,sPf,sPa,sPb,sPc]
  refine zO 16 ⟨trivial,fun h=>by simp at h⟩ ?_;refine oneG (i:=17) (by kernel_rfl) rfl (fun K hK=>?_);go_simp;refine hK.out _ _ ⟨trivial,fun h=>by simp at h⟩ ?_;clear hK K
  try simp only[Act.put,sPd,sPe,sPf,sPa,sPb,sPc]
  refine tT (by kernel_rfl) ?_ _;refine NoPanic.normal ?_;obtain⟨H4,H3⟩:=h9.out.pushR (b:=b) (row:=row) HM.out h3 H1.out rfl;exact HE.out _ _ _ _ _ _ _ _ _ _ _ _ _ _ _ _  _ _ _ _ _ H4 (fun w0 hw0 hb0=>H3 w0 (zC hw0 H9.out) hb0)
 go_simp;refine hK.out _ _ ⟨trivial,fun _=>h4.out _ _ _ (hM.alloc _)⟩ ?_;clear hK K
 try simp only[Act.put,sPd,sPe,sPf,sPa,sPb,sPc]
 refine oneG (i:=7) (by kernel_rfl) rfl (fun K hK=>?_);go_simp;refine hK.out _ _ ⟨trivial,fun _=>h4.out _ _ _ ((hM.alloc _).alloc _)⟩ ?_;clear hK K
 try simp only[Act.put,sPd,sPe,sPf,sPa,sPb,sPc]
 refine oneG (i:=8) (by kernel_rfl) rfl (fun K hK=>?_);refine wO rfl (.tmp 85) (.tmp 91) 26 rfl wF 1 _ _ rfl ⟨_,_,_,_,_,((hM.alloc _).alloc _),_,rfl,rfl,rfl,rfl,?g3,?g4,H2,_,_,_,List.Mem.head _,(by first|rfl|simp),rfl,?_⟩
 case g3=>(simp only[];unfold maxLen;omega)
 case g4=>(simp only[];omega)
 intro sa1 sc1 w1x h0;have h6:=h0.litcell (List.Mem.head _)
 try simp only[zW]at h6
 try(have h5:=h0.litcell (List.Mem.tail _ (List.Mem.head _));try simp only[zW]at h5)
 refine hK.out _ _ ⟨trivial,fun _=>h4.out _ _ _ (h0)⟩ ?_;clear hK K
 try simp only[Act.put,sPd,sPe,sPf,sPa,sPb,sPc]
 refine zO 14 ⟨trivial,fun _=>h4.out _ _ _ h0⟩ ?_;refine oneG (i:=13) (by kernel_rfl) rfl (fun K hK=>?_);refine wO rfl (.tmp 94) (.tmp 96) 27 rfl wG 0 _ _ rfl ⟨_,_,_,_,_,(h0),_,rfl,rfl,rfl,rfl,?g3,?g4,H2,_,_,_,List.Mem.tail _ (List.Mem.head _),(by first|rfl|simp),rfl,?_⟩
 case g3=>(simp only[];unfold maxLen;omega)
 case g4=>(simp only[];omega)
 intro sa2 sc2 w2x h3;have h6:=h3.litcell (List.Mem.head _)
 try simp only[zW]at h6
 try(have h5:=h3.litcell (List.Mem.tail _ (List.Mem.head _));try simp only[zW]at h5)
 refine hK.out _ _ ⟨trivial,fun _=>h4.out _ _ _ (h3)⟩ ?_;clear hK K
 try simp only[Act.put,sPd,sPe,sPf,sPa,sPb,sPc]
 refine oneG (i:=15) (by kernel_rfl) rfl (fun K hK=>?_);have h7:=h3.but.heap H6.out H5.out;have cb2:=zH h7 2;have fb2:=zA h7 2;simp only[List.getElem_toArray,List.getElem_cons_zero,List.getElem_cons_succ]at cb2;go_simp;have h2:=heap_setCell_same _ D 2 _ _ (.slice sa1 (m+1) sc1) h7;have cb3:=zH h2 3;have fb3:=zA h2 3;simp at cb3;refine hK.out _ _ ⟨trivial,fun h=>by simp at h⟩ ?_;clear hK K
 try simp only[Act.put,sPd,sPe,sPf,sPa,sPb,sPc]
 refine zO 16 ⟨trivial,fun h=>by simp at h⟩ ?_;refine oneG (i:=17) (by kernel_rfl) rfl (fun K hK=>?_);go_simp;refine hK.out _ _ ⟨trivial,fun h=>by simp at h⟩ ?_;clear hK K
 try simp only[Act.put,sPd,sPe,sPf,sPa,sPb,sPc]
 refine tT (by kernel_rfl) ?_ _;refine NoPanic.normal ?_;obtain⟨H4,H3⟩:=h9.out.pushR (b:=b) (row:=row) HM.out h3 H1.out rfl;exact HE.out _ _ _ _ _ _ _ _ _ _ _ _ _ _ _ _  _ _ _ _ _ H4 (fun w0 hw0 hb0=>H3 w0 (zC hw0 H9.out) hb0)
theorem rV.mono {B B':Nat}{w:World}{v:Value}{c:CntV}(h:rV B w v c)(hB:B<=B'):rV B' w v c:=by
 obtain⟨vi,vp,va,rfl,h1,h2,h3⟩:=h;exact⟨vi,vp,va,rfl,h1.mono hB,h2.mono hB,h3.mono hB⟩
theorem rV.keptR {B:Nat}{w w':World}{v:Value}{c:CntV}{row:Option Nat}(h:rV B w v c)(hg:w.grownBy w' row)(hr:∀k,row=some k->B<=k):rV B w' v c:=by
 obtain⟨vi,vp,va,rfl,h1,h2,h3⟩:=h;exact⟨vi,vp,va,rfl,h1.kept hg hr,h2.kept hg hr,h3.kept hg hr⟩
theorem qQX (w:World)(n i p:Nat)(hn:n<=4000)(hi:i<=2000)(hp:1<=p)(a9:p<=2000):Calls Tryz.prog 57 #[.int .i64 (n:Int),.int .i64 (i:Int),.int .i64 (p:Int)] w fun e w'=>e=.returned (.int .i64 ((asN n i p:Nat):Int))/\w=w':=by
 obtain⟨x,hx⟩:=Nm (asN n i p);rw[<-hx];have HX:=Kh hx;have h3:x<i+p:=by rw[hx];exact qDJ hp
 clear hx;go_enter Tryz.func57,Tryz.ntmps57;by_cases hlt:n<i
 ·have h0:(n:Int)<(i:Int):=by omega
  have h2:x=n:=by rw[HX.out,asN,if_pos hlt]
  subst h2;clear hlt;go_wp2;go_ret;trivial
 have h0:¬(n:Int)<(i:Int):=by omega
 obtain⟨d,hd⟩:=Nm (n-i);obtain⟨t,ht⟩:=Nm (d % p);have h1:x=i+t:=by rw[HX.out,asN,if_neg hlt,ht,hd]
 have h4:t<p:=by rw[ht];exact Nat.mod_lt _ (by omega)
 have f3:wrap64 ((i:Int)+((n:Int)-(i:Int)) % (p:Int))=(x:Int):=by
  rw[show (n:Int)-(i:Int)=(d:Int) by omega,show (d:Int) % (p:Int)=(t:Int) by rw[ht];exact(Int.natCast_emod d p).symm,show (i:Int)+(t:Int)=(x:Int) by omega];exact IntWalk.wrap64_in _ (by omega)
 have h5:¬(p:Int)=0:=by omega
 have F3:=Kh f3;clear hd ht h1 hlt f3;go_wp2;go_ret;exact⟨congrArg Ending.returned (congrArg (Value.int .i64) F3.out),rfl⟩
theorem qJO (B:Nat)(w:World)(v vn:Value)(c:CntV)(ns:List Nat)(h:rV B w v c)(a9:CntOk c)(hn:Row B w vn (nats ns))(hl:ns.length=c.idx.length)(hb:∀x∈ns,x<=4000):Calls Tryz.prog 30 #[v,vn] w fun e w'=>e=.returned (.int .i64 ((atTo c ns c.idx.length:Nat):Int))/\w.grownBy w' none:=by
 obtain⟨vi,vp,va,rfl,hi,hp,ha⟩:=h;obtain⟨k,hk⟩:=Nm c.idx.length;have H3:1<=k:=by rw[hk];exact a9.k1
 have b5:k<=6:=by rw[hk];exact a9.k6
 have h4:c.per.length=k:=by rw[a9.pl,hk]
 obtain⟨ib,io,ic,rfl,_,i1,i2,ir⟩:=hi.some_ (by rw[zJ,<-hk];exact H3);obtain⟨pb,po,pc,rfl,_,p1,p2,pr⟩:=hp.some_ (by rw[zJ,h4];exact H3);obtain⟨nb,no,nc,rfl,_,n1,n2,nr⟩:=hn.some_ (by simp only[nats,List.length_map];omega);have e9:(nats ns).length=k:=by simp only[nats,List.length_map];omega
 rw[zJ,<-hk]at i1⊢;rw[zJ,h4]at p1⊢;rw[e9]at n1⊢;unfold maxLen at i2 p2 n2;obtain⟨w1,h3⟩:=Nm (w.alloc (.cells #[.slice (some ⟨ib,io,none⟩) k ic,.slice (some ⟨pb,po,none⟩) k pc,va] 35));have h1:w.grownBy w1 none:=by rw[h3];exact Ga w _ none
 have h5:=heap_alloc_new w (.cells #[.slice (some ⟨ib,io,none⟩) k ic,.slice (some ⟨pb,po,none⟩) k pc,va] 35);obtain⟨P,hP⟩:=Nm w.heap.size;rw[<-h3,<-hP]at h5;obtain⟨q0,q1,q2⟩:=xW h5;have b4:=Kh (ir.kept h1 (by simp));have a8:=Kh (pr.kept h1 (by simp));have b2:=Kh (nr.kept h1 (by simp));obtain⟨H8,a4,b1,HK,H7,b0⟩:=K6 h1 h3 hP hk a9 h4;have HL:=Kh hl;have b3:=Kh hb;clear hi hp ha hn ir pr nr h3 h1 h5 hP q2 hk h4 hl hb a9 e9;go_enter Tryz.func30,Tryz.ntmps30;go_upto_region 1 with fail;rw[<-a4.out,<-b1.out];go_wp2
 go_loopg [5,6,10] k (fun gh a5 a6 a10 wr=>∃a q:Nat,gh+a=k/\a10=.int .i64 a/\a5=.int .i64 ((atTo c ns a:Nat):Int)/\wr=w1.drewN q)
 case atStart=>exact⟨0,0,rfl,rfl,rfl,rfl⟩
 obtain⟨a,q,H4,rfl,rfl,rfl⟩:=hrel;have h7:=Kh H4;clear H4;by_cases haN:a<k
 ·have a2:(a:Int)<k:=by omega
  have h2:a<c.idx.length:=(by rw[<-HK.out];exact haN);obtain⟨i,p,ei,ep,a1,H2,a0⟩:=qNG H7.out h2;have ci:=b4.out.int a h2;have cp:=a8.out.int a (by rw[b0.out];exact haN);rw[ei]at ci;rw[ep]at cp;have ca:=b2.out.nat a (by rw[HL.out];exact h2);obtain⟨N,h6⟩:=Nm (ns.getD a 0)
  have a3:N<=4000:=by
   rw[h6,zN (by rw[HL.out];exact h2)];exact b3.out _ (List.getElem_mem _)
  have h0:=qLV (ns:=ns) ei ep;have hK:=qTF H7.out ns (a:=a) (by omega);rw[<-h6]at ca h0;obtain⟨K,H6⟩:=Nm (atTo c ns a);rw[<-H6]at hK h0⊢;have h8:=Kh (fun W=>qQX W N i p a3 a1 H2 a0);obtain⟨r,hr⟩:=Nm (i+p);rw[<-hr]at h0;have H1:r<=4000:=by omega
  obtain⟨x,hx⟩:=Nm (asN N i p);rw[<-hx]at h0 h8;have H9:x<=4000:=by have:=qDJ (n:=N) (i:=i) H2;omega
  obtain⟨e1,e2,e3⟩:=nQ hK H1;clear e2;obtain⟨m,hm⟩:=Nm (K*r);rw[<-hm]at e1 e3 h0;obtain⟨y,hy⟩:=Nm (m+x);rw[<-hy]at h0;have a7:=Kh h0;have H0:(i:Int)+(p:Int)=(r:Int):=by omega
  have h9:(m:Int)+(x:Int)=(y:Int):=by omega
  have f1:IntKind.i64.wrap ((i:Int)+(p:Int))=(r:Int):=by rw[H0];exact xJ (by omega)
  have f2:IntKind.i64.wrap ((m:Int)+(x:Int))=(y:Int):=by rw[h9];exact xJ (by omega)
  clear h6 H6 hr hx hm hy h0 H0 h9 e3 hK H1 H9 ei ep h2;go_wp2
  go_quiet ((go_at_call 57;first|exact cJ (h8.out _)|exact kO (h8.out _)))
  clear e1 f1 f2;go_wp2;go_roundg (k-(a+1))
  case measure=>have:=h7.out;omega
  exact⟨a+1,_,by have:=h7.out;omega,by go_num,by rw[a7.out],by first|rfl|exact World.drewN_drewN _ _ _⟩
 have H5:a=k:=by have:=h7.out;omega
 have a2:¬(a:Int)<k:=(by omega);have hz:((atTo c ns a:Nat):Int)=((atTo c ns k:Nat):Int):=by rw[H5]
 rw[hz];clear H5 hz;go_wp2;go_ret
 first
 | exact zC H8.out (zQ w1 _ none)
 | exact⟨rfl,zC H8.out (zQ w1 _ none)⟩
theorem qJG (B:Nat)(w:World)(vi vp va:Value)(idx per:List Int)(hi:Row B w vi (ints idx))(hp:Row B w vp (ints per))(hl:per.length=idx.length)(a8:PosC idx per)(a7:1<=idx.length):Calls Tryz.prog 40 #[.agg #[vi,vp,va]] w fun e w'=>e=.returned (.tuple #[.int .i64 (kJ idx per),.bool (jD idx per)])/\w.grownBy w' none:=by
 obtain⟨ib,io,ic,rfl,_,i1,i2,ir⟩:=hi.some_ (by rw[zJ];omega);obtain⟨pb,po,pc,rfl,_,p1,p2,pr⟩:=hp.some_ (by rw[zJ];omega);rw[zJ]at i1 p1⊢;rw[zJ,hl];rw[hl]at p1;unfold maxLen at i2 p2;obtain⟨n,hn⟩:=Nm idx.length;rw[<-hn]at i1 p1⊢;obtain⟨w1,h4⟩:=Nm (w.alloc (.cells #[.slice (some ⟨ib,io,none⟩) n ic,.slice (some ⟨pb,po,none⟩) n pc,va] 35));have h7:w.grownBy w1 none:=by rw[h4];exact Ga w _ none
 have H0:=heap_alloc_new w (.cells #[.slice (some ⟨ib,io,none⟩) n ic,.slice (some ⟨pb,po,none⟩) n pc,va] 35);obtain⟨P,hP⟩:=Nm w.heap.size;rw[<-h4,<-hP]at H0;obtain⟨q0,q1,q2⟩:=xW H0
 have a6:Hid (∀a,a<n->∃i p:Nat,w1.cell? ⟨ib,io+a,none⟩=some (.int .i64 (i:Int))/\w1.cell? ⟨pb,po+a,none⟩=some (.int .i64 (p:Int))/\idx.getD a 0=(i:Int)/\per.getD a 0=(p:Int)):=Kh (fun a ha=>by
  have h1:=a8 a (by omega);have h2:=zK (ir.int a (by omega)) h7;have h3:=zK (pr.int a (by omega)) h7;obtain⟨i,ei⟩:∃i:Nat,idx.getD a 0=(i:Int):=⟨(idx.getD a 0).toNat,by omega⟩;obtain⟨p,ep⟩:∃p:Nat,per.getD a 0=(p:Int):=⟨(per.getD a 0).toNat,by omega⟩;rw[ei]at h2;rw[ep]at h3
  exact⟨i,p,h2,h3,ei,ep⟩)
 obtain⟨h9,H9,a3,HN⟩:=K4 h7 h4 hP hn;obtain⟨rn,h5⟩:=Nm (kJ idx per);obtain⟨rb,h6⟩:=Nm (jD idx per);rw[<-h5,<-h6];have a1:=Kh h5;have a2:=Kh h6
 have H2:Hid (∀a,a<=n->vN idx per a=none->rn=0/\rb=false):=Kh (fun a ha h=>by
  obtain⟨h1,h2⟩:=eX h (by omega)
  exact⟨by rw[h5,h1],by rw[h6,h2]⟩)
 clear hi hp hl a8 ir pr hn h4 h7 H0 hP q2 h5 h6;go_enter Tryz.func40,Tryz.ntmps40;go_upto_region 1 with fail;rw[<-H9.out,<-a3.out];go_wp2
 go_loopg [4,5,9] n (fun gh a4 a5 a9 wr=>∃a c q:Nat,gh+a=n/\a9=.int .i64 a/\a4=.int .i64 (c:Int)/\vN idx per a=some c/\wr=w1.drewN q)
 case atStart=>exact⟨0,1,0,rfl,rfl,rfl,rfl,rfl⟩
 obtain⟨a,c,q,H5,rfl,rfl,hc,rfl⟩:=hrel;have H3:=Kh H5;have HC:=Kh hc;have H6:=qP hc;clear H5 hc;by_cases ha:a<n
 ·have H7:(a:Int)<n:=by omega
  obtain⟨i,p,ci,cp,ei,ep⟩:=a6.out a ha;have h8:=Kh (iX HC.out ei ep);clear ei ep;by_cases h1:2000<(i:Int)
  ·have HF:=Kh (H2.out (a+1) (by omega) (by rw[h8.out,if_pos (by omega)]))
   go_wp2;refine bodyPost_ret (v:=.tuple #[.int .i64 0,.bool false]) (by simp[results,Tryz.results40,go_sem]) rfl ?_;exact⟨by rw[HF.out.1,HF.out.2],zC h9.out (zQ w1 _ none)⟩
  by_cases h2:2000<(p:Int)
  ·have HF:=Kh (H2.out (a+1) (by omega) (by rw[h8.out,if_pos (by omega)]))
   go_wp2;refine bodyPost_ret (v:=.tuple #[.int .i64 0,.bool false]) (by simp[results,Tryz.results40,go_sem]) rfl ?_;exact⟨by rw[HF.out.1,HF.out.2],zC h9.out (zQ w1 _ none)⟩
  obtain⟨r,hr⟩:=Nm (i+p);have e0:(i:Int)+(p:Int)=(r:Int):=by omega
  have H4:r<=4000:=by omega
  obtain⟨m,hm⟩:=Nm (c*r);have b0:m<=8000000:=by rw[hm];exact(nQ H6 H4).2.2
  have h0:Hid (vN idx per (a+1)=if 2000<m then none else some m):=Kh (by
   rw[h8.out,<-hr,<-hm];by_cases h:2000<m
   ·rw[if_pos h,if_pos (.inr (.inr h))]
   rw[if_neg h,if_neg (by omega)])
  have H1:=Kh (H2.out (a+1) (by omega));have e1:IntKind.i64.wrap ((i:Int)+(p:Int))=(r:Int):=by rw[e0];exact xJ (by omega)
  have e34:=nQ H6 H4;rw[<-hm]at e34;have e3:=e34.1;clear e34 hm hr h8 e0;by_cases h3:2000<m
  ·have HF:=Kh (H1.out (by rw[h0.out,if_pos h3]))
   have H8:2000<(m:Int):=(by clear e1 e3;omega);go_wp2
   go_quiet (fail)
   go_wp2;refine bodyPost_ret (v:=.tuple #[.int .i64 0,.bool false]) (by simp[results,Tryz.results40,go_sem]) rfl ?_;exact⟨by rw[HF.out.1,HF.out.2],zC h9.out (by first|exact zQ w1 _ none|exact zC (zQ w1 _ none) (zQ _ _ none))⟩
  have a0:Hid (vN idx per (a+1)=some m):=Kh (by rw[h0.out,if_neg h3]);have H8:¬2000<(m:Int):=(by clear e1 e3;omega);clear h0;go_wp2
  go_quiet (fail)
  clear e1 e3;go_wp2;go_roundg (n-(a+1))
  case measure=>have:=H3.out;omega
  exact⟨a+1,m,_,by have:=H3.out;omega,by go_num,rfl,a0.out,by first|rfl|exact World.drewN_drewN _ _ _⟩
 have H7:¬(a:Int)<n:=by omega
 have HE:Hid (rn=c/\rb=true):=Kh (by
  have:=HC.out;rw[show a=idx.length by have:=H3.out;have:=HN.out;omega]at this;obtain⟨h1,h2⟩:=iH this
  exact⟨by rw[a1.out,h1],by rw[a2.out,h2]⟩)
 go_wp2;refine bodyPost_ret (v:=.tuple #[.int .i64 (c:Int),.bool true]) (by simp[results,Tryz.results40,go_sem]) rfl ?_;exact⟨by rw[HE.out.1,HE.out.2],zC h9.out (zQ w1 _ none)⟩
theorem nI (B:Nat)(w:World)(v:Value)(c:CntV)(h:rV B w v c):Calls Tryz.prog 20 #[v] w fun e w'=>e=.returned (.int .i64 (cntE c))/\w.grownBy w' none:=by
 obtain⟨vi,vp,va,rfl,hi,hp,ha⟩:=h;obtain⟨iA,iC,rfl⟩:=hi.shape;obtain⟨pA,pC,rfl⟩:=hp.shape;obtain⟨aA,aC,rfl⟩:=ha.shape;obtain⟨n,hn⟩:=Nm ((ints c.idx).length);obtain⟨pn,h4⟩:=Nm ((ints c.per).length);obtain⟨an,H1⟩:=Nm ((bls c.acc).length);rw[<-hn]at hi;rw[<-h4]at hp;rw[<-hn,<-h4,<-H1];rw[zJ]at hn h4;rw[zX]at H1;obtain⟨w1,h8⟩:=Nm (w.alloc (.cells #[.slice iA n iC,.slice pA pn pC,.slice aA an aC] 35));have h9:w.grownBy w1 none:=by rw[h8];exact Ga w _ none
 have H0:=heap_alloc_new w (.cells #[.slice iA n iC,.slice pA pn pC,.slice aA an aC] 35);obtain⟨P,hP⟩:=Nm w.heap.size;rw[<-h8,<-hP]at H0;obtain⟨q0,q1,q2⟩:=xW H0;obtain⟨E,hE⟩:=Nm (cntE c);rw[<-hE];have b0:Hid (n<1\/6<n->E=1):=Kh (fun h=>by rw[hE];exact qQK (by rw[<-hn];exact h));have a9:Hid (¬(n<1\/6<n)->pn≠n->E=22):=Kh (fun h h2=>by rw[hE];exact qQJ (by rw[<-hn];exact h) (by rw[<-hn,<-h4];exact h2));have a8:Hid (¬(n<1\/6<n)->pn=n->¬PosC c.idx c.per->E=22):=Kh (fun h h2 h3=>by rw[hE];exact qQI (by rw[<-hn];exact h) (by rw[<-hn,<-h4];exact h2) h3);have a7:Hid (¬(n<1\/6<n)->pn=n->PosC c.idx c.per->E=if jD c.idx c.per=false then 3 else if (an:Int)≠kJ c.idx c.per then 22 else 0):=Kh (fun h h2 h3=>by rw[hE,H1];exact qQH (by rw[<-hn];exact h) (by rw[<-hn,<-h4];exact h2) h3);have HI:=Kh (hi.kept h9 (by simp));have HP:=Kh (hp.kept h9 (by simp));obtain⟨h6,b7,b5,b6,HN,H2⟩:=K6 h9 H0 h8 hP hn h4;clear hi hp ha hn h4 H1 h9 H0 h8 hP hE;have h0:=Kh (xT w1 (n:Int));go_enter Tryz.func20,Tryz.ntmps20;go_upto_region 1 with fail;rw[<-b5.out,<-b6.out];by_cases h12:n<1\/6<n
 ·have e0:decide (1<=(n:Int)/\(n:Int)<=6)=false:=decide_eq_false (by omega)
  rw[e0]at h0;clear e0;go_wp2_with fail;refine h0.out.mono ?_;rintro e w9 ⟨rfl,rfl⟩;go_wp2;go_ret;exact⟨yX (b0.out h12).symm,h6.out⟩
 have h1:¬(n:Int)<1:=by omega
 have h2:¬6<(n:Int):=by omega
 have e0:decide (1<=(n:Int)/\(n:Int)<=6)=true:=decide_eq_true (by omega);rw[e0]at h0;clear e0 h12;go_wp2_with fail;refine h0.out.mono ?_;rintro e w9 ⟨rfl,rfl⟩;by_cases h3:pn=n
 case neg =>
  have e3:((pn:Int) != (n:Int))=true:=by rw[bne_iff_ne];omega
  go_wp2;go_ret;exact⟨yX (a9.out (by omega) h3).symm,h6.out⟩
 have e3:((pn:Int) != (n:Int))=false:=by rw[bne_eq_false_iff_eq];omega
 have h7:=Kh (a8.out (by omega) h3);have H7:=Kh (a7.out (by omega) h3);clear b0 a9 a8 a7;subst h3;obtain⟨ib,io,ic,ei,_,i1,i2,ir⟩:=HI.out.some_ (by rw[zJ];have:=HN.out;omega);obtain⟨pb,po,pc,ep,_,p1,p2,pr⟩:=HP.out.some_ (by rw[zJ];have:=H2.out;omega);simp only[Value.slice.injEq]at ei ep;obtain⟨rfl,b2,rfl⟩:=ei;obtain⟨rfl,b1,rfl⟩:=ep;rw[zJ,<-HN.out]at i1;rw[zJ,<-H2.out]at p1;unfold maxLen at i2 p2;have IR:=Kh ir;have PR:=Kh pr;clear ir pr b2 b1;go_wp2
 go_loopg [3,21] pn (fun gh a3 a26 wr=>∃a:Nat,gh+a=pn/\a26=.int .i64 a/\qPX c.idx c.per a/\wr=w1)
 case atStart=>exact⟨0,rfl,rfl,fun x hx=>by omega,rfl⟩
 obtain⟨a,a2,rfl,a1,rfl⟩:=hrel;have H5:=Kh a2;have a4:=Kh a1;clear a2 a1;by_cases ha:a<pn
 ·have b3:(a:Int)<pn:=by omega
  have c1:=IR.out.int a (by rw[<-HN.out];exact ha);have c2:=PR.out.int a (by rw[<-H2.out];exact ha);obtain⟨x,hx⟩:=Nm (c.idx.getD a 0);obtain⟨y,hy⟩:=Nm (c.per.getD a 0);rw[<-hx]at c1;rw[<-hy]at c2;have a6:Hid (x<0\/y<1->¬PosC c.idx c.per):=Kh (fun h hp=>by have:=hp a (by rw[<-HN.out];exact ha);omega)
  have b4:Hid (0<=x->1<=y->qPX c.idx c.per (a+1)):=Kh (fun h1 h2 z hz=>by
   rcases Nat.lt_or_ge z a with h|h
   ·exact a4.out z h
   have:z=a:=by omega
   subst this;rw[<-hx,<-hy];exact⟨h1,h2⟩)
  clear hx hy;by_cases hx0:x<0
  ·go_wp2
   go_ret;exact⟨yX (h7.out (a6.out (.inl hx0))).symm,h6.out⟩
  by_cases hy1:y<1
  ·go_wp2
   go_ret;exact⟨yX (h7.out (a6.out (.inr hy1))).symm,h6.out⟩
  go_wp2;go_roundg (pn-(a+1))
  case measure=>have:=H5.out;omega
  exact⟨a+1,by have:=H5.out;omega,by go_num,b4.out (by omega) (by omega),rfl⟩
 have b3:¬(a:Int)<pn:=by omega
 have a5:Hid (PosC c.idx c.per):=Kh (fun z hz=>a4.out z (by have:=H5.out;have:=HN.out;omega));have H8:=Kh (qJG B wr _ _ (.slice aA an aC) c.idx c.per HI.out HP.out (by rw[<-HN.out,<-H2.out]) a5.out (by have:=HN.out;omega));have H3:=Kh (H7.out a5.out);obtain⟨rn,H9⟩:=Nm (kJ c.idx c.per);obtain⟨rb,a0⟩:=Nm (jD c.idx c.per);rw[<-H9,<-a0]at H8 H3;clear H9 a0;go_wp2_with fail;refine H8.out.mono ?_;rintro e w2 ⟨rfl,H4⟩;obtain⟨q0,q1,q2⟩:=xW (zB b7.out H4);have H6:=Kh (zC h6.out H4);clear H4 H8;cases rb with
 | false =>
  go_wp2;go_ret;exact⟨yX (by rw[H3.out];simp),H6.out⟩
 | true =>
  by_cases h5:(an:Int)=rn
  ·have e5:((an:Int) != rn)=false:=by rw[bne_eq_false_iff_eq];exact h5
   have HZ:Hid (E=0):=Kh (by rw[H3.out,if_neg (by simp),if_neg (by simpa using h5)]);clear h5;go_wp2;go_ret;exact⟨yX HZ.out.symm,H6.out⟩
  have e5:((an:Int) != rn)=true:=by rw[bne_iff_ne];exact h5
  have HZ:Hid (E=22):=Kh (by rw[H3.out,if_neg (by simp),if_pos h5]);clear h5;go_wp2;go_ret;exact⟨yX HZ.out.symm,H6.out⟩
def digR (c:CntV)(k q b:Nat):List Nat:=(List.range k).map fun a=>if a<b then 0 else digN c q a
theorem nZ (c:CntV)(k q b:Nat):(digR c k q b).length=k:=by simp[digR]
theorem qHT (c:CntV)(k q:Nat):digR c k q k=List.replicate k 0:=by
 refine List.ext_getElem (by simp[digR]) fun i h1 h2=>?_;rw[nZ]at h1;simp only[digR,List.getElem_map,List.getElem_range,List.getElem_replicate];rw[if_pos h1]
theorem qOY (c:CntV)(k q:Nat):digR c k q 0=(List.range k).map (digN c q):=by simp[digR]
theorem qOX {c:CntV}{k q b:Nat}:(digR c k q (b+1)).set b (digN c q b)=digR c k q b:=by
 refine List.ext_getElem (by simp[digR]) fun i h1 h2=>?_;rw[List.getElem_set];simp only[digR,List.getElem_map,List.getElem_range]
 split
 ·rename_i e;subst e;rw[if_neg (by omega)]
 by_cases h:i<b
 ·rw[if_pos (by omega),if_pos h]
 rw[if_neg (by omega),if_neg h]
theorem qFY {c:CntV}{k q a:Nat}(ha:a<k):((List.range k).map (digN c q)).getD a 0=digN c q a:=by
 rw[zN (by simpa using ha)];simp
theorem qRT {c:CntV}{k q b r:Nat}(hk:k=c.idx.length)(hb:b<k)(hr:r=radN c b)(hq:q<=2000):∃t d u:Nat,t=q / uS (radN c) (b+1) k/\d=digN c q b/\u=q / uS (radN c) b k/\(t:Int).tmod (r:Int)=(d:Int)/\(t:Int).tdiv (r:Int)=(u:Int)/\t<=2000/\d<=2000/\u<=2000:=by
 have h1:q / uS (radN c) (b+1) k<=q:=Nat.div_le_self _ _;have h2:q / uS (radN c) b k<=q:=Nat.div_le_self _ _;have h3:digN c q b=q / uS (radN c) (b+1) k % r:=by unfold digN stN;rw[<-hk,hr]
 have h4:q / uS (radN c) b k=q / uS (radN c) (b+1) k / r:=by rw[sH hb,Nat.mul_comm,<-Nat.div_div_eq_div_mul,hr]
 have h5:=Nat.mod_le (q / uS (radN c) (b+1) k) r;refine⟨_,_,_,rfl,h3.symm,h4.symm,Int.ofNat_tmod _ _,Int.ofNat_tdiv _ _,by omega,by omega,by rw[<-h4];omega⟩
theorem qRZ {c:CntV}(h:CntOk c){k q a:Nat}(hk:k=c.idx.length)(hq:q<c.acc.length)(ha:a<k):atTo c (((List.range k).map (digN c q)).set a (digN c q a+1)) k=qO c q a:=by
 subst hk;have h1:=qFB h.pos (ns:=(List.range c.idx.length).map (digN c q)) (ms:=((List.range c.idx.length).map (digN c q)).set a (digN c q a+1)) ha (fun b hb=>by rw[List.getD_eq_getElem?_getD,List.getD_eq_getElem?_getD,List.getElem?_set_ne (fun e=>hb e.symm)]) (by rw[qFY ha,List.getD_eq_getElem?_getD,List.getElem?_set_self (by simpa using ha)];rfl);rw[qFA h hq]at h1;exact h1
theorem qLK {c:CntV}{k q a:Nat}(ha:a<k):(((List.range k).map (digN c q)).set a (digN c q a+1)).set a (digN c q a)=(List.range k).map (digN c q):=by
 rw[List.set_set];refine List.ext_getElem (by simp) fun i h1 h2=>?_;rw[List.getElem_set]
 split
 ·rename_i e;subst e;simp
 rfl
theorem qDB {c:CntV}{q a:Nat}(ha:a<c.idx.length):((List.range c.idx.length).map fun a=>(qO c q a:Int)).take (a+1)=((List.range c.idx.length).map fun a=>(qO c q a:Int)).take a++[(qO c q a:Int)]:=by
 rw[yB (d:=0) (by simpa using ha),zN (by simpa using ha)];simp
theorem qJM (B:Nat)(w:World)(v:Value)(c:CntV)(a9:B<=w.heap.size)(h:rV B w v c):Calls Tryz.prog 9 #[v] w (qPZ c w):=by
 obtain⟨vi,vp,va,rfl,hi,hp,ha⟩:=id h;obtain⟨iA,iC,rfl⟩:=hi.shape;obtain⟨pA,pC,rfl⟩:=hp.shape;obtain⟨aA,aC,rfl⟩:=ha.shape;obtain⟨k,hk⟩:=Nm c.idx.length;obtain⟨pn,f6⟩:=Nm c.per.length;obtain⟨n,hn⟩:=Nm c.acc.length;rw[zJ,zJ,zX,<-hk,<-f6,<-hn]at h⊢;rw[zJ,<-hk]at hi;rw[zJ,<-f6]at hp;rw[zX,<-hn]at ha;obtain⟨w1,b6⟩:=Nm (w.alloc (.cells #[.slice iA k iC,.slice pA pn pC,.slice aA n aC] 35));have g1:w.grownBy w1 none:=by rw[b6];exact Ga w _ none
 have n1:=heap_alloc_new w (.cells #[.slice iA k iC,.slice pA pn pC,.slice aA n aC] 35);have e0:w1.heap.size=w.heap.size+1:=by rw[b6];simp
 rw[<-b6]at n1;obtain⟨w2,e8⟩:=Nm (w1.alloc (.cells #[.int .i64 0,.int .i64 0,.slice none 0 0,.slice none 0 0] 29));have g2:w1.grownBy w2 none:=by rw[e8];exact Ga w1 _ none
 have n2:=heap_alloc_new w1 (.cells #[.int .i64 0,.int .i64 0,.slice none 0 0,.slice none 0 0] 29);rw[<-e8,e0]at n2;obtain⟨P,i5⟩:=Nm w.heap.size;rw[<-i5]at n1 n2;have d9:=zR n2;have g9:=zC g1 g2;have HB:Hid (∀W:World,w2.grownBy W none->(W.heap[P]?=some (.cells #[.slice iA k iC,.slice pA pn pC,.slice aA n aC] 35 (0,0))/\W.heap[P+1]?=some (.cells #[.int .i64 0,.int .i64 0,.slice none 0 0,.slice none 0 0] 29 (0,0)))/\w.grownBy W none):=Kh (fun W hg=>⟨⟨zB (zB n1 g2) hg,zB n2 hg⟩,zC g9 hg⟩);have HI:Hid (∀W:World,w.grownBy W none->Row B W (.slice iA k iC) (ints c.idx)):=Kh (fun W hg=>hi.kept hg (by simp));have HP:Hid (∀W:World,w.grownBy W none->Row B W (.slice pA pn pC) (ints c.per)):=Kh (fun W hg=>hp.kept hg (by simp));have HA:Hid (∀W:World,w.grownBy W none->Row B W (.slice aA n aC) (bls c.acc)):=Kh (fun W hg=>ha.kept hg (by simp));have HC:=Kh h;have HV:=Kh (nI B w2 _ c (h.kept g9));obtain⟨s2,s1,b5,HK,n0,HN⟩:=K6 b6 e8 i5 hk f6 hn;obtain⟨E,hE⟩:=Nm (cntE c);rw[<-hE]at HV;have k0:=Kh hE;have r7:=Kh d9;clear h hi hp ha hk f6 hn g1 n1 e0 g2 n2 g9 b6 e8 i5 hE d9;go_enter Tryz.func9,Tryz.ntmps9;go_upto_region 1 with fail;rw[<-s2.out,<-b5.out,<-s1.out];obtain⟨q0,q1,q2⟩:=xW (HB.out _ (zU w2 none)).1.1;go_wp2_with fail;refine HV.out.mono ?_;rintro e w3 ⟨rfl,H2⟩;have a8:=Kh H2;clear q0 q1 q2;by_cases h0:E=0
 ·subst h0
  have h6:=Kh (gU.1 k0.out.symm);have l2:1<=k:=by rw[HK.out];exact h6.out.k1
  have y3:k<=6:=by rw[HK.out];exact h6.out.k6
  have p6:k=pn:=by rw[n0.out,HK.out];exact h6.out.pl.symm
  subst p6;have y1:n<=2000:=by rw[HN.out];exact qP h6.out.size
  obtain⟨q0,q1,q2⟩:=xW (HB.out _ H2).1.1;obtain⟨fb,fo,fc,ef,_,fc1,fc2,fr⟩:=(HA.out _ (HB.out _ (zU w2 none)).2).some_ (by rw[zX];have:=(pW h6.out).n1;omega);obtain⟨ib,io,ic,ei,_,ic1,ic2,ir⟩:=(HI.out _ (HB.out _ (zU w2 none)).2).some_ (by rw[zJ,<-HK.out];exact l2);obtain⟨pb,po,pc,ep,_,pc1,pc2,pr⟩:=(HP.out _ (HB.out _ (zU w2 none)).2).some_ (by rw[zJ,h6.out.pl,<-HK.out];exact l2);simp only[Value.slice.injEq]at ef ei ep;obtain⟨rfl,e0,rfl⟩:=ef;obtain⟨rfl,d9,rfl⟩:=ei;obtain⟨rfl,o8,rfl⟩:=ep;rw[zX,<-HN.out]at fc1;rw[zJ,<-HK.out]at ic1;rw[zJ,<-n0.out]at pc1;unfold maxLen at fc2 ic2 pc2;obtain⟨n9,n4,m9⟩:=K3 fr ir pr
  have s8:Hid (∀b,b<k->∃i p r:Nat,c.idx.getD b 0=(i:Int)/\c.per.getD b 0=(p:Int)/\i<=2000/\p<=2000/\1<=p/\r=i+p/\r=radN c b):=Kh (fun b hb=>by
   obtain⟨i,p,e1,e2,e3,e4,e5⟩:=qNG h6.out (a:=b) (by rw[<-HK.out];exact hb)
   exact⟨i,p,i+p,e1,e2,e3,e5,e4,rfl,by unfold radN iN pN;rw[e1,e2];simp⟩)
  obtain⟨w5,e7⟩:=Nm (w3.alloc (.cells #[.int .i64 (k:Int),.int .i64 0,.slice none 0 0,.slice none 0 0] 29));obtain⟨D,hD⟩:=Nm w3.heap.size;have i1:w3.grownBy w5 none:=by rw[e7];exact Ga w3 _ none
  have i4:w5.heap[D]?=some (.cells #[.int .i64 (k:Int),.int .i64 0,.slice none 0 0,.slice none 0 0] 29 (0,0)):=by rw[e7,hD];exact heap_alloc_new w3 _
  have o3:Hid (Built D w5 D k 0 (c.acc.take 0) ((dfaC c).next.take 0) [] none 0 none 0):=Kh ⟨i4,World.ownsRow_nil _ _ _ _,World.ownsRow_nil _ _ _ _,tP.nil,rfl⟩;have q4:fb<D:=by have:=H2.size;have h9:=fr.1;omega
  have y7:P+1<D:=by have:=H2.size;have:=r7.out;omega
  have c7:=zC H2 i1;have q9:=zR i4;obtain⟨t7,j9,s0,d8,z0⟩:=K5 i1 c7 e7 hD q9;clear H2 fr ir pr e0 d9 o8 i1 i4 c7 e7 hD;go_upto_region 6 with fail;rw[<-s0.out,<-d8.out];obtain⟨q0,q1,q2⟩:=xW (HB.out _ j9.out).1.1;go_wp2
  go_loopg [29] n (fun gh v29 wr=>∃(q:Nat) (hs:List Value) (sf:Option Addr) (cf:Nat) (sn:Option Addr) (cn:Nat),gh+q=n/\v29=.int .i64 q/\Built D wr D k 0 (c.acc.take q) ((dfaC c).next.take q) hs sf cf sn cn/\w3.grownBy wr (some D))
  case atStart=>exact⟨0,[],none,0,none,0,rfl,rfl,o3.out,xY t7.out⟩
  clear o3 q0 q1 q2;obtain⟨q,hs,sf,cf,sn,cn,l3,rfl,H5,a2⟩:=hrel;obtain⟨j6,o1,n6⟩:=K3 l3 H5 a2;have j2:Hid (∀W:World,wr.grownBy W none->∀x y,w2.heap[x]?=some y->x≠D->W.heap[x]?=some y):=Kh (fun W hW x y hx c4=>zB (zB (zB hx a8.out) a2 (fun e=>c4 (Oj e).symm)) hW);have a7:Hid (∀W:World,wr.grownBy W none->W.heap[P]?=some (.cells #[.slice (some ⟨ib,io,none⟩) k iC,.slice (some ⟨pb,po,none⟩) k pC,.slice (some ⟨fb,fo,none⟩) n aC] 35 (0,0))):=Kh (fun W hW=>j2.out W hW _ _ (HB.out _ (zU w2 none)).1.1 (by omega));have d4:Hid (wr.heap[P+1]?=some (.cells #[.int .i64 0,.int .i64 0,.slice none 0 0,.slice none 0 0] 29 (0,0))):=Kh (j2.out wr (zU wr none) _ _ (HB.out _ (zU w2 none)).1.2 (by omega))
  have j1:Hid (∀W:World,wr.grownBy W none->vQ W ib io (ints c.idx)/\vQ W pb po (ints c.per)/\vQ W fb fo (bls c.acc)/\rV D W (.agg #[.slice (some ⟨ib,io,none⟩) k iC,.slice (some ⟨pb,po,none⟩) k pC,.slice (some ⟨fb,fo,none⟩) n aC]) c):=Kh (fun W hW=>by
   have r4:=((HC.out.kept (zC (HB.out _ (zU w2 none)).2 a8.out (by simp))).mono (show B<=D by have:=b5.out;omega));have c4:∀x,x<w2.heap.size->(some D:Option Nat)≠some x:=fun x hx e=>by have:=Oj e;have:=d8.out;have:=a8.out.size;omega
   exact⟨((n4.out.kept a8.out (by simp)).kept a2 (c4 _ n4.out.1)).kept hW (by simp),((m9.out.kept a8.out (by simp)).kept a2 (c4 _ m9.out.1)).kept hW (by simp),((n9.out.kept a8.out (by simp)).kept a2 (c4 _ n9.out.1)).kept hW (by simp),(r4.keptR a2 (fun k e=>by have:=Oj e;omega)).kept hW⟩)
  have k4:=a2.size;have m4:=Kh k4;clear l3 H5 a2 k4 j2;by_cases hq:q<n
  ·have p5:(q:Int)<n:=by omega
   have b9:Hid (q<c.acc.length):=Kh (by rw[<-HN.out];exact hq);obtain⟨wo,rfl⟩:=Nm (wr:World);go_upto_region 10 with (first|(at_make;refine qG rfl _ _ _ rfl yH rfl _ _ _ _ k rfl rfl rfl rfl ?b1 ?b2 ?_;(case b1=>omega);(case b2=>(unfold maxLen;omega));intro w4 f8 l5 o7)|fail);rw[<-yN,<-qHT c k q]at f8;obtain⟨g,hg⟩:=Nm wo.heap.size;rw[<-hg]at f8⊢;obtain⟨j7,o6,n8⟩:=K3 hg f8 l5;have m8:Hid (q=q / uS (radN c) k k):=Kh (by rw[nK (Nat.le_refl _),Nat.div_one]);clear f8 l5 o7 hg;go_wp2
   go_loopg [9,10] k (fun gh v9 v10 wx=>∃(b u:Nat) (z:Int),gh=b/\v9=.int .i64 (u:Int)/\v10=.int .i64 z/\z=(b:Int)-1/\b<=k/\u=q / uS (radN c) b k/\Arr wx g 3 (nats (digR c k q b))/\wo.grownBy wx none)
   case atStart=>exact⟨k,q,(k:Int)-1,rfl,rfl,by go_num,rfl,Nat.le_refl _,m8.out,o6.out,n8.out⟩
   clear o6 n8 m8;obtain⟨b,u,z,a5,rfl,rfl,hz,q6,hu,h5,h4⟩:=hrel;obtain⟨t6,g0,n5,HU⟩:=K4 a5 h5 h4 hu;clear a5 hu;rcases b with _|b
   ·obtain rfl:z = -1:=by omega
    have o5:Hid (Arr wr g 3 (nats ((List.range k).map (digN c q)))):=Kh (by rw[<-qOY];exact h5);have p8:=h5.lt;clear h5 g0 hz q6 h4;obtain⟨wa,rfl⟩:=Nm (wr:World);go_wp2
    go_loopg [12,13] k (fun gh v12 v13 wx=>∃(a:Nat) (sr:Option Addr) (cr:Nat),gh+a=k/\v13=.int .i64 a/\v12=.slice sr a cr/\wx.ownsRow wa.heap.size 3 1 (.slice sr a cr) a (ints (((List.range c.idx.length).map fun a=>(qO c q a:Int)).take a))/\Arr wx g 3 (nats ((List.range k).map (digN c q)))/\wo.grownBy wx none/\wa.heap.size<=wx.heap.size)
    case atStart=>exact⟨0,none,0,rfl,rfl,rfl,by simpa [ints] using World.ownsRow_nil _ _ _ _,o5.out,n5.out,Nat.le_refl _⟩
    clear o5;obtain⟨a,sr,cr,l4,rfl,rfl,H1,h5,h4,g4⟩:=hrel;obtain⟨j8,i9,g0,t4,r9⟩:=K5 l4 H1 h5 h4 g4;clear l4;by_cases ha:a<k
    ·have q8:(a:Int)<k:=by omega
     have c9:digN c q a<=2000:=by
      unfold digN;have h1:=Nat.mod_le (q / stN c a) (radN c a);have h2:=Nat.div_le_self q (stN c a);omega
     have ca:=h5.nat a (by simpa using ha);rw[qFY ha]at ca;have fa:=h5.frozen a;obtain⟨d,hd⟩:=Nm (digN c q a);rw[<-hd]at ca c9;have b8:=h5.nat_set a (by simpa using ha) (d+1);rw[show ((d+1:Nat):Int)=(d:Int)+1 by omega]at b8;obtain⟨wb,e6⟩:=Nm (wr.setCell ⟨g,a,none⟩ (.int .i64 ((d:Int)+1)));have H7:wr.grownBy wb (some g):=(by rw[e6];exact zF wr ⟨g,a,none⟩ _);have a5:=yG h4 H7 (by show _<=g;have:=j7.out;omega);rw[<-e6]at b8;have a1:=H1.kept H7 (.inr (fun e=>by have:=(H1.lt g e).1;omega));obtain⟨s6,d7,d5,r8⟩:=K4 b8 a5 a1 e6;have r5:=Kh H7.size
     have o4:Hid (Calls Tryz.prog 30 #[.agg #[.slice (some ⟨ib,io,none⟩) k iC,.slice (some ⟨pb,po,none⟩) k pC,.slice (some ⟨fb,fo,none⟩) n aC],.slice (some ⟨g,0,none⟩) k k] wb fun e w'=>e=.returned (.int .i64 ((qO c q a:Nat):Int))/\wb.grownBy w' none):=Kh (by
      have h9:=b8.rowT' (cap:=k) (by simp[nats]) (by unfold maxLen;omega);have e9:(nats (((List.range k).map (digN c q)).set a (d+1))).length=k:=by simp[nats]
      rw[e9]at h9
      have h8:=qJO wb.heap.size wb _ (.slice (some ⟨g,0,none⟩) k k) c _ (((j1.out wb a5).2.2.2).mono (by have:=d8.out;have:=a5.size;have:=m4.out;omega)) h6.out h9.row (by simp[HK.out]) (fun x hx=>by
       rcases List.mem_or_eq_of_mem_set hx with hx|hx
       ·obtain⟨y,_,rfl⟩:=List.mem_map.1 hx
        unfold digN;have h1:=Nat.mod_le (q / stN c y) (radN c y);have h2:=Nat.div_le_self q (stN c y);omega
       omega)
      rw[<-HK.out,hd,qRZ h6.out HK.out b9.out ha]at h8
      exact h8)
     have HD:=Kh hd;have t9:=Kh c9;clear h5 H1 h4 b8 a5 H7 a1 e6 hd g4;go_upto_region 20 with fail;rw[<-r8.out];obtain⟨q0,q1,q2⟩:=xW (a7.out wb d7.out);clear ca fa;go_wp2_with fail;refine o4.out.mono ?_;rintro e wc ⟨rfl,c5⟩;have p2:=r5.out;have p1:=r9.out;have p0:=c5.size;have H4:=Kh (zY d5.out c5);have k3:=Kh (s6.out.kept c5 (by simp));have t5:=Kh (zC d7.out c5);have g3:wa.heap.size<=wc.heap.size:=by omega
     have y8:=Kh g3;obtain⟨N,hN⟩:=Nm (qO c q a);rw[<-hN];have f9:=Kh hN;clear q0 q1 q2 o4 c5 p2 p1 p0 hN;go_upto_region 21 with (first|(at_builtin;refine app1 rfl _ _ _ rfl yH wa.heap.size _ a _ rfl H4.out _ rfl rfl ?c1 ?c2 ?c3 ?_;(case c1=>(unfold maxLen;omega));(case c2=>omega);(case c3=>exact g3);intro sa' sc' w6 h7 i0 g8)|fail);have y9:=Kh h7;have c0:(Value.slice sr a cr).ownBlock≠some g:=fun e=>by have:=(H4.out.lt g e).1;omega
     have a0:=k3.out.kept i0 c0;have ca:=a0.nat a (by simpa using ha);rw[List.getD_eq_getElem?_getD,List.getElem?_set_self (by simpa using ha),Option.getD_some,show ((d+1:Nat):Int)=(d:Int)+1 by omega]at ca;have fa:=a0.frozen a;have g5:=a0.nat_set a (by simpa using ha) d;rw[HD.out,qLK ha,<-HD.out]at g5;have s5:=Kh g5;have c6:=zC t5.out i0 (fun j e=>by have:=(H4.out.lt j e).1;have:=n5.out.size;omega);have H3:=zF w6 ⟨g,a,none⟩ (.int .i64 (d:Int));have j3:=Kh (yG c6 H3 (by show _<=g;have:=j7.out;omega));have m3:=h7.kept H3 (.inr (fun e=>by have:=(h7.lt g e).1;omega));have s9:=Kh m3;have k5:wa.heap.size<=(w6.setCell ⟨g,a,none⟩ (.int .i64 (d:Int))).heap.size:=by have:=H3.size;omega
     have r6:=Kh k5;have c9:=t9.out;clear h7 i0 g8 c0 a0 g5 c6 H3 m3 k5 g3;go_wp2;clear ca fa c9;go_roundg (k-(a+1))
     case measure=>have:=j8.out;omega
     refine⟨a+1,sa',sc',by have:=j8.out;omega,by go_num,rfl,?_,s5.out,j3.out,r6.out⟩;rw[qDB (by rw[<-HK.out];exact ha),eR,<-f9.out];exact s9.out
    have q7:a=k:=by have:=j8.out;omega
    have q8:¬(a:Int)<k:=(by omega);subst q7
    have i7:Hid (RowT wr.heap.size 3 wr (.slice sr a cr) (ints ((dfaC c).next.getD q []))):=Kh (by
     rw[qAO b9.out,<-List.take_of_length_le (l:=(List.range c.idx.length).map fun a=>(qO c q a:Int)) (i:=a) (by simp[HK.out])]
     exact RowT.of_owns H1)
    have c8:c.acc.take (q+1)=c.acc.take q++[c.acc.getD q false]:=yB b9.out;have b7:(dfaC c).next.take (q+1)=(dfaC c).next.take q++[(dfaC c).next.getD q []]:=yB (by rw[(pW h6.out).nl];exact b9.out);have t8:=Kh c8;have s4:=Kh b7;have H5:=o1.out.grow h4;have l1:((dfaC c).next.take q).length=q:=by rw[List.length_take,(pW h6.out).nl,<-HN.out];omega
    have b3:=j1.out wr h4;have l8:=b3.2.2.1.boolQ q b9.out;have l7:=(xW (a7.out wr h4)).2.2;have k8:D<=wr.heap.size:=by have:=d8.out;have:=m4.out;have:=h4.size;omega
    have j4:=Kh h4;clear c8 b7 h5 H1 h4 g0 i9 g4 b3;go_upto_region 22 with fail;refine qJN (base:=D) (D:=D) (b:=c.acc.getD q false) (row:=(dfaC c).next.getD q []) (m:=q) (k:=a) (n:=n) (fb:=fb) (fo:=fo) (fc:=aC) (q:=q) H5 l1 (by omega) i7.out hq ⟨fc1,fc2⟩ k8 (by omega) q4 l7 l8 ?_;intro z84 z85 z86 z87 z88 z89 z90 z91 z92 z93 z94 z95 z96 z97 z98 z99 wz sf' cf' sn' cn' b4 H3;have x0:Hid (Built D wz D a 0 (c.acc.take (q+1)) ((dfaC c).next.take (q+1)) (hs++[.slice sr a cr]) sf' cf' sn' cn'):=Kh (b4.congr t8.out s4.out);have j3:=Kh (H3 w3 (zG n6.out (xY j4.out)) (by have:=d8.out;omega));clear H5 l1 l8 l7 k8 b4 H3;go_wp2;go_roundg (n-(q+1))
    case measure=>have:=j6.out;omega
    exact⟨q+1,_,sf',cf',sn',cn',by have:=j6.out;omega,by go_num,x0.out,j3.out⟩
   obtain rfl:z=(b:Int):=by omega
   have a6:b<k:=(by omega);obtain⟨i,p,r,ei,ep,y4,p7,x8,hr,k9⟩:=s8.out b a6;have b3:=j1.out wr h4;have ci:=b3.1.int b (by rw[<-HK.out];exact a6);have cp:=b3.2.1.int b (by rw[h6.out.pl,<-HK.out];exact a6);rw[ei]at ci;rw[ep]at cp;have er:IntKind.i64.wrap ((i:Int)+(p:Int))=(r:Int):=by rw[hr];exact xJ (by omega)
   have y5:(b:Int)<k:=(by omega);have y6:(0:Int)<=b:=by omega
   have x6:1<=r:=by omega
   have x5:r<=4000:=by omega
   obtain⟨t,d,u',ht,hd,k7,f1,f2,x2,c9,x1⟩:=qRT (q:=q) HK.out a6 k9 (by omega);have p3:u=t:=by rw[HU.out,ht]
   subst p3;have cc:=h5.cell b (by simp[nats,nZ];exact a6);have fc':=h5.frozen b;obtain⟨y,hy⟩:∃y,y=(nats (digR c k q (b+1)))[b]'(by simp[nats,nZ];exact a6):=⟨_,rfl⟩;rw[<-hy]at cc;have p8:=h5.lt;have s3:=Kh k7
   have d6:Hid (∀m,Arr ((wr.drewN m).setCell ⟨g,b,none⟩ (.int .i64 (d:Int))) g 3 (nats (digR c k q b))/\wo.grownBy ((wr.drewN m).setCell ⟨g,b,none⟩ (.int .i64 (d:Int))) none):=Kh (fun m=>by
    have h1:=(h5.of_heap (w':=wr.drewN m) rfl).nat_set b (by rw[nZ];exact a6) d;rw[hd,qOX,<-hd]at h1
    exact⟨h1,yG (zC h4 (zQ wr m none)) (zF _ ⟨g,b,none⟩ _) (by show _<=g;have:=j7.out;omega)⟩)
   obtain⟨q0,q1,q2⟩:=xW (a7.out wr h4);have x7:¬(r:Int)=0:=by omega
   have f3:IntKind.i64.wrap (d:Int)=(d:Int):=xJ (by omega);have f4:IntKind.i64.wrap (u':Int)=(u':Int):=xJ (by omega);clear hy h5 ht hd k7 b3 hr k9 ei ep hz h4 p7 g0 HU;obtain⟨wo3,rfl⟩:=Nm (wr:World);go_wp2
   go_quiet (fail)
   clear er;go_wp2
   go_region
   all_goals (try go_frame)
   all_goals go_wp2
   all_goals
    go_roundg b
    case measure=>have:=t6.out;omega
    refine⟨b,u',(b:Int)-1,rfl,rfl,by go_num,rfl,by omega,s3.out,?_,?_⟩
    ·exact(d6.out _).1
    exact(d6.out _).2
  have g6:q=n:=by have:=j6.out;omega
  have p5:¬(q:Int)<n:=(by omega);have c8:c.acc.take q=c.acc:=List.take_of_length_le (by rw[g6,HN.out];exact Nat.le_refl _);have b7:(dfaC c).next.take q=(dfaC c).next:=List.take_of_length_le (by rw[g6,(pW h6.out).nl,HN.out];exact Nat.le_refl _);have H5:=o1.out;rw[c8,b7]at H5;have i2:=H5.box;have f5:=pW h6.out;have g7:=f5.nl;rw[g7,<-HN.out]at i2;obtain⟨m,hm⟩:=Nm (minD (dfaC c) k)
  have n3:Hid (Calls Tryz.prog 31 #[.agg #[.int .i64 (k:Int),.int .i64 0,.slice sf n cf,.slice sn n cn]] wr (qSF wr m)):=Kh (by
   have h8:=H5.dfa;rw[HK.out]at h8;have h9:=eN wr.heap.size wr _ (dfaC c) _ _ (Nat.le_refl _) h8 f5;rw[g7,<-HN.out,<-HK.out,<-hm]at h9
   exact h9)
  obtain⟨N,hN⟩:=Nm (minN (dfaC c) k);have H6:=gO f5;rw[<-HK.out,<-hm,<-hN]at H6;have m1:m.letters=k:=H6.hk;have l9:m.start=0:=by rw[hm];rfl
  have m2:m.final.length=N:=H6.hn;have m0:m.next.length=N:=H6.nl;obtain⟨HM,f9,m6,m5,s7,i8⟩:=K6 hm hN m1 l9 m2 m0;obtain⟨d0,d1,d2,d3⟩:=zL i2;have j5:Hid (w.grownBy wr none):=Kh (zC (zC (HB.out _ (zU w2 none)).2 a8.out (by simp)) n6.out (fun j e=>by have:=Oj e;have:=b5.out;omega));have m7:=Kh (zR d4.out);clear H6 hm hN m1 l9 m2 m0 H5 c8 b7 i2 f5 g7 g6;go_wp2_with fail;refine n3.out.mono ?_;rintro e x9 ⟨v9,rfl,l6,f7⟩;have o0:=Kh l6;obtain⟨o9,x4,sf9,cf9,sn9,cn9,rfl,y0,i3⟩:=l6;rw[m6.out,m5.out,s7.out,i8.out]at o0⊢;have H8:=Ga x9 (.cells #[.int .i64 (k:Int),.int .i64 0,.slice sf9 N cf9,.slice sn9 N cn9] 29) none;have H9:=heap_alloc_new x9 (.cells #[.int .i64 (k:Int),.int .i64 0,.slice sf9 N cf9,.slice sn9 N cn9] 29);obtain⟨x10,a3⟩:=Nm (x9.alloc (.cells #[.int .i64 (k:Int),.int .i64 0,.slice sf9 N cf9,.slice sn9 N cn9] 29));obtain⟨o10,a4⟩:=Nm x9.heap.size;rw[<-a3]at H8 H9;rw[<-a4]at H9;have n7:=Kh (zC j5.out f7);have h3:=Kh (zB (zB d4.out f7) H8);obtain⟨i6,j0,b0,k2⟩:=K4 a3 a4 H8 H9;have l0:P+1≠o10:=(by have:=f7.size;have:=m7.out;omega);clear i3 f7 d0 d1 d2 d3 n3 H8 H9 a3 a4;have f0:=zA h3.out 0;have f1:=zA h3.out 1;have f2:=zA h3.out 2;have f3:=zA h3.out 3;have y2:=zR h3.out;go_upto_region 25 with fail;rw[<-i6.out,<-j0.out];obtain⟨q0,q1,q2,q3⟩:=zL h3.out;obtain⟨t0,t1,t2,t3⟩:=zL k2.out;by_cases h512:(512:Int)<N
  ·go_wp2
   obtain⟨b4,H3⟩:=uF h3.out (.int .i64 0) (.int .i64 0) (.slice none 0 0) (.slice none 0 0);obtain⟨r0,r1,r2,r3⟩:=zL b4;clear q0 q1 q2 q3 f0 f1 f2 f3 t0 t1 t2 t3;refine bodyPost_ret (v:=.tuple #[.agg #[.int .i64 0,.int .i64 0,.slice none 0 0,.slice none 0 0],.int .i64 3]) (by simp[results,Tryz.results9,go_sem,r0,r1,r2,r3]) rfl ?_;exact⟨.inl ⟨3,rfl,.inr ⟨rfl,h6.out,by rw[<-HK.out,<-f9.out];omega⟩⟩,zC (zC n7.out b0.out) H3 (fun j e=>by have e:P+1=j:=Oj e;have:=b5.out;omega)⟩
  go_wp2;obtain⟨b4,H3⟩:=uF h3.out (.int .i64 (k:Int)) (.int .i64 0) (.slice sf9 N cf9) (.slice sn9 N cn9);obtain⟨r0,r1,r2,r3⟩:=zL b4;clear q0 q1 q2 q3 f0 f1 f2 f3 t0 t1 t2 t3;refine bodyPost_ret (v:=.tuple #[.agg #[.int .i64 (k:Int),.int .i64 0,.slice sf9 N cf9,.slice sn9 N cn9],.int .i64 0]) (by simp[results,Tryz.results9,go_sem,r0,r1,r2,r3]) rfl ?_;have q5:=(o0.out.grow b0.out).far H3 h3.out m7.out;obtain⟨fv9,nv9,H6,p4⟩:=q5.t;rw[m6.out,m5.out]at H6;simp only[Value.agg.injEq,Array.mk.injEq,List.cons.injEq,true_and,and_true]at H6;obtain⟨rfl,rfl⟩:=H6;exact⟨.inr ⟨_,_,by rw[<-HK.out],h6.out,by rw[<-HK.out,<-f9.out];omega,by rw[<-HK.out,<-HM.out];exact p4⟩,zC (zC n7.out b0.out) H3 (fun j e=>by have e:P+1=j:=Oj e;have:=b5.out;omega)⟩
 have hb:(E != 0)=true:=by rw[bne_iff_ne];exact h0
 obtain⟨r0,r1,r2,r3⟩:=zL (HB.out _ H2).1.2;have f0:=zA (HB.out _ H2).1.2 0;have f1:=zA (HB.out _ H2).1.2 1;have f2:=zA (HB.out _ H2).1.2 2;have f3:=zA (HB.out _ H2).1.2 3;have o2:=Kh (HB.out _ H2);have H0:=Kh h0;clear H2 h0;go_wp2;refine bodyPost_ret (v:=.tuple #[.agg #[.int .i64 0,.int .i64 0,.slice none 0 0,.slice none 0 0],.int .i64 E]) (by simp[results,Tryz.results9,go_sem,r0,r1,r2,r3]) rfl ?_;obtain⟨x3,p9⟩:=uF o2.out.1.2 (.int .i64 0) (.int .i64 0) (.slice none 0 0) (.slice none 0 0);exact⟨.inl ⟨E,rfl,.inl ⟨k0.out,fun h=>H0.out (k0.out.trans h)⟩⟩,zC o2.out.2 p9 (fun j e=>by have e:P+1=j:=Oj e;have:=b5.out;omega)⟩
theorem qDP (s:ByteArray)(a9:Int)(w:World)(hs:s.size<=maxLen):Calls Tryz.prog 47 #[.string s,.int .i64 a9] w fun e w'=>e=.returned (.bool (xQ s a9))/\w=w':=by
 unfold maxLen at hs;by_cases h1:¬(1<=a9/\a9<=6)
 ·have e1:decide (1<=a9/\a9<=6)=false:=decide_eq_false h1
  go_enter Tryz.func47,Tryz.ntmps47;go_wp2_with fail;refine(xT w a9).mono ?_;rintro e w' ⟨rfl,rfl⟩;rw[e1];go_wp2;go_ret;exact⟨yT (by simp[xQ];omega),rfl⟩
 have e1:decide (1<=a9/\a9<=6)=true:=by simpa using h1
 by_cases h3:2048<s.size
 ·go_enter Tryz.func47,Tryz.ntmps47
  go_wp2_with fail;refine(xT w a9).mono ?_;rintro e w' ⟨rfl,rfl⟩;rw[e1];go_wp2;go_ret;exact⟨yT (by simp[xQ];omega),rfl⟩
 go_enter Tryz.func47,Tryz.ntmps47;go_wp2_with fail;refine(xT w a9).mono ?_;rintro e w' ⟨rfl,rfl⟩;rw[e1];go_wp2
 go_loop [5] (fun i=>∃k:Nat,k<=s.size/\i=.int .i64 k/\(s.data.toList.take k).all (mR a9)=true) (fun i=>s.size-(intOf i).toNat)
 case atStart=>exact⟨0,Nat.zero_le _,rfl,rfl⟩
 obtain⟨k,hk,rfl,h0⟩:=hrel;have HA:=Kh h0;clear h0;by_cases hlt:k<s.size
 ·go_wp2
  ·go_ret
   exact⟨yT (by rw[eq_comm];exact pL s a9 k hlt (by omega)),rfl⟩
  ·go_round
   case rel=>exact⟨k+1,by omega,by go_num,qGH s a9 k hlt HA.out (by omega)⟩
   simp[intOf];omega
  go_ret;exact⟨yT (by rw[eq_comm];exact pL s a9 k hlt (by omega)),rfl⟩
 go_wp2;go_ret;exact⟨yT (by rw[eq_comm];exact jK s a9 k (by omega) (by omega) HA.out),rfl⟩
end Go.Proofs.YtobakifdllameaaGreat
