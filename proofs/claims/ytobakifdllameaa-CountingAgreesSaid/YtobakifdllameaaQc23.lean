/- Part 23 of the proof. -/
import Derived.Test.YtobakifdllameaaQc22
import Derived.Deep.Cut
import Derived.BigQuiet
set_option linter.unusedVariables false
set_option linter.unusedSimpArgs false
set_option maxRecDepth 100000
set_option maxHeartbeats 16000000
namespace Go.Proofs.Ytobakifdllameaa
open Go.Maps Go.RowKit
theorem qPD {q d s e vv n:Nat}(a9:d*s<=q)(hx:vv=q-d*s+e*s)(a8:vv<n)(hq:q<n)(hn:n<=2000):∃yy:Int,wrap64 (((e:Int)-(d:Int))*(s:Int))=yy/\wrap64 ((q:Int)+yy)=(vv:Int):=by
 have h1:((e:Int)-(d:Int))*(s:Int)=((e*s:Nat):Int)-((d*s:Nat):Int):=by rw[Int.sub_mul];simp
 generalize e*s=E at hx h1
 generalize d*s=D at a9 hx h1
 refine⟨(E:Int)-(D:Int),by rw[h1];exact IntWalk.wrap64_in _ (by omega),?_⟩;have h2:(q:Int)+((E:Int)-(D:Int))=(vv:Int):=by omega
 rw[h2];exact IntWalk.wrap64_in _ (by omega)
theorem qTC {c:CntV}(h:CntOk c){n k b q s r i:Nat}(hk:k=c.idx.length)(hn:n=c.acc.length)(hq:q<n)(hb:b<k)(a7:k<=6)(a8:n<=2000)(hs:s=tO (radN c) (b+1) k)(hr:r=radN c b)(hi:i=iN c b)(a6:i<=2000)(a9:1<=r):∃(t d e x vv X Y:Nat) (yy:Int),Hid ((q:Int).tdiv (s:Int)=(t:Int)/\(t:Int).tmod (r:Int)=(d:Int))/\Hid (wrap64 (t:Int)=(t:Int)/\wrap64 (d:Int)=(d:Int)/\wrap64 (e:Int)=(e:Int))/\(t<=2000/\d<=2000/\e<=2001)/\Hid (e=d+1)/\Hid (x=if e=r then i else e)/\Hid (IntKind.i64.wrap ((q:Int)*(k:Int))=(X:Int)/\wrap64 ((q:Int)*(k:Int))=(X:Int)/\IntKind.i64.wrap ((X:Int)+(b:Int))=(Y:Int)/\wrap64 ((X:Int)+(b:Int))=(Y:Int))/\Y<n*k/\vv<n/\Hid (Y=q*k+b)/\Hid (vv=kO c q b)/\Hid (wrap64 ((x:Int)-(d:Int))=(x:Int)-(d:Int)/\wrap64 (((x:Int)-(d:Int))*(s:Int))=yy/\wrap64 ((q:Int)+yy)=(vv:Int)):=by
 have h2:stN c b=s:=by unfold stN;rw[<-hk,<-hs]
 have h0:digN c q b=q / s % r:=by unfold digN;rw[h2,<-hr]
 have h6:q / s % r<r:=Nat.mod_lt _ a9;have h5:q / s<=q:=Nat.div_le_self _ _;have h4:q / s % r<=q / s:=Nat.mod_le _ _
 have h3:q / s % r*s<=q:=calc q / s % r*s<=q / s*s:=Nat.mul_le_mul_right _ h4
  _<=q:=Nat.div_mul_le_self _ _
 have h1:kO c q b<n:=by rw[hn];exact qKK h (by rw[<-hn];exact hq) (by rw[<-hk];exact hb)
 have hx:kO c q b=q-q / s % r*s+(if q / s % r+1=r then i else q / s % r+1)*s:=by
  unfold kO nxtE;rw[h0,h2,<-hr,<-hi]
 obtain⟨yy,y1,y2⟩:=qPD h3 hx h1 hq a8;obtain⟨I1,I2,I3,I4,I5⟩:=qEM hq hb a7 (show n<=4000 by omega);refine⟨q / s,q / s % r,q / s % r+1,_,kO c q b,q*k,q*k+b,yy,Kh ⟨Int.ofNat_tdiv q s,Int.ofNat_tmod (q / s) r⟩,Kh ⟨IntWalk.wrap64_in _ (by omega),IntWalk.wrap64_in _ (by omega),IntWalk.wrap64_in _ (by omega)⟩,⟨by omega,by omega,by omega⟩,Kh rfl,Kh rfl,Kh ⟨I1,I2,I3,I4⟩,I5,h1,Kh rfl,Kh rfl,Kh ⟨?_,y1,y2⟩⟩;clear y1 y2 hx h0 h3;refine IntWalk.wrap64_in _ ?_
 split<;>omega
theorem qPC (B:Nat)(w:World)(v:Value)(c:CntV)(a6:B<=w.heap.size)(h:iQ B w v c):Calls Try.prog 13 #[v] w (qSA c w):=by
 obtain⟨vi,vp,va,rfl,hi,hp,ha⟩:=id h;obtain⟨iA,iC,rfl⟩:=hi.shape;obtain⟨pA,pC,rfl⟩:=hp.shape;obtain⟨aA,aC,rfl⟩:=ha.shape;obtain⟨k,hk⟩:=Nm c.idx.length;obtain⟨pn,b1⟩:=Nm c.per.length;obtain⟨n,hn⟩:=Nm c.acc.length;rw[zN,zN,yB,<-hk,<-b1,<-hn]at h⊢;rw[zN,<-hk]at hi;rw[zN,<-b1]at hp;rw[yB,<-hn]at ha;obtain⟨w1,H9⟩:=Nm (w.alloc (.cells #[.slice iA k iC,.slice pA pn pC,.slice aA n aC] 28));have g1:w.grownBy w1 none:=by rw[H9];exact Ga w _ none
 have n1:=heap_alloc_new w (.cells #[.slice iA k iC,.slice pA pn pC,.slice aA n aC] 28);have a5:w1.heap.size=w.heap.size+1:=by rw[H9];simp
 rw[<-H9]at n1;obtain⟨w2,b0⟩:=Nm (w1.alloc (.cells #[.int .i64 0,.int .i64 0,.slice none 0 0,.slice none 0 0] 37));have g2:w1.grownBy w2 none:=by rw[b0];exact Ga w1 _ none
 have n2:=heap_alloc_new w1 (.cells #[.int .i64 0,.int .i64 0,.slice none 0 0,.slice none 0 0] 37);rw[<-b0,a5]at n2;obtain⟨P,d5⟩:=Nm w.heap.size;rw[<-d5]at n1 n2;have c7:=zC g1 g2;have HB:Hid (∀W:World,w2.grownBy W none->(W.heap[P]?=some (.cells #[.slice iA k iC,.slice pA pn pC,.slice aA n aC] 28 (0,0))/\W.heap[P+1]?=some (.cells #[.int .i64 0,.int .i64 0,.slice none 0 0,.slice none 0 0] 37 (0,0)))/\w.grownBy W none):=Kh (fun W hg=>⟨⟨zB (zB n1 g2) hg,zB n2 hg⟩,zC c7 hg⟩);have HI:Hid (∀W:World,w.grownBy W none->Row B W (.slice iA k iC) (ints c.idx)):=Kh (fun W hg=>hi.kept hg (by simp));have HP:Hid (∀W:World,w.grownBy W none->Row B W (.slice pA pn pC) (ints c.per)):=Kh (fun W hg=>hp.kept hg (by simp));have HA:Hid (∀W:World,w.grownBy W none->Row B W (.slice aA n aC) (bls c.acc)):=Kh (fun W hg=>ha.kept hg (by simp));have HV:=Kh (bU B w2 _ c (h.kept c7));obtain⟨l0,k9,b3,HK,i1,HN⟩:=K6 H9 b0 d5 hk b1 hn;obtain⟨E,hE⟩:=Nm (cntE c);rw[<-hE]at HV;have e0:=Kh hE;clear h hi hp ha hk b1 hn g1 n1 a5 g2 n2 c7 H9 b0 d5 hE;go_enter Try.func13,Try.ntmps13;go_upto_region 1 with fail;rw[<-l0.out,<-b3.out,<-k9.out];obtain⟨q0,q1,q2⟩:=vS (HB.out _ (zV w2 none)).1.1;go_wp2_with fail;refine HV.out.mono ?_;rintro e w3 ⟨rfl,h7⟩;have i6:=Kh h7;clear q0 q1 q2;by_cases h0:E=0
 ·subst h0
  have h5:=Kh (kY.1 e0.out.symm);have f6:1<=k:=by rw[HK.out];exact h5.out.k1
  have c6:k<=6:=by rw[HK.out];exact h5.out.k6
  have j7:k=pn:=by rw[i1.out,HK.out];exact h5.out.pl.symm
  subst j7;have c4:n<=2000:=by rw[HN.out];exact pZ h5.out.size
  obtain⟨q0,q1,q2⟩:=vS (HB.out _ h7).1.1;clear h7;go_upto_region 5 with fail;refine qRP q2 c4 c6 ?_;intro z24 z25 z26 z27 z28 z29 z30 z31 z32 z33 z34 w5 M ng h8 c3 g6 g5 a0 g3;have H5:=zC i6.out g3;obtain⟨N,b2⟩:=Nm (n*k);rw[<-b2]at h8;have b4:=Kh b2;have k5:N<=12000:=by rw[b2];exact Nat.mul_le_mul c4 c6
  clear b2;obtain⟨fb,fo,fc,ef,_,fc1,fc2,fr⟩:=(HA.out _ (HB.out _ (zV w2 none)).2).some_ (by rw[yB];have:=(jJ h5.out).n1;omega);obtain⟨ib,io,ic,ei,_,ic1,ic2,ir⟩:=(HI.out _ (HB.out _ (zV w2 none)).2).some_ (by rw[zN,<-HK.out];exact f6);obtain⟨pb,po,pc,ep,_,pc1,pc2,pr⟩:=(HP.out _ (HB.out _ (zV w2 none)).2).some_ (by rw[zN,h5.out.pl,<-HK.out];exact f6);simp only[Value.slice.injEq]at ef ei ep;obtain⟨rfl,a5,rfl⟩:=ef;obtain⟨rfl,j1,rfl⟩:=ei;obtain⟨rfl,j0,rfl⟩:=ep;rw[yB,<-HN.out]at fc1;rw[zN,<-HK.out]at ic1;rw[zN,<-i1.out]at pc1;unfold maxLen at fc2 ic2 pc2;obtain⟨m5,i4,l6⟩:=K3 fr ir pr;have i3:Hid (w5.heap.size<=w5.heap.size/\w3.heap.size<=M/\w3.heap.size<=ng/\M≠ng):=Kh ⟨Nat.le_refl _,g5,a0,g6⟩;rw[<-qHN c n k (by omega),<-qHO c n k (by omega)]at c3;obtain⟨i2,i9,a4⟩:=K3 h8 c3 H5;obtain⟨q0,q1,q2⟩:=vS (HB.out _ H5).1.1;have n0:Hid (tO (radN c) k k=1):=Kh (nS (Nat.le_refl _))
  have l4:Hid (∀b,b<k->∃i p r:Nat,c.idx.getD b 0=(i:Int)/\c.per.getD b 0=(p:Int)/\i<=2000/\p<=2000/\1<=p/\r=i+p/\r=radN c b/\i=iN c b):=Kh (fun b hb=>by
   obtain⟨i,p,e1,e2,e3,e4,e5⟩:=qSK h5.out (a:=b) (by rw[<-HK.out];exact hb)
   exact⟨i,p,i+p,e1,e2,e3,e5,e4,rfl,by unfold radN iN pN;rw[e1,e2];simp,by unfold iN;rw[e1];simp⟩)
  have g9:Hid (∀b,b<=k->1<=tO (radN c) b k/\tO (radN c) b k<=n):=Kh (fun b hb=>by
   have hp:∀x,x<k->0<radN c x:=fun x hx=>(qD h5.out.pos (by rw[<-HK.out];exact hx)).1;refine⟨jV hp,?_⟩;have h1:=fP h5.out;rw[<-HK.out,<-HN.out]at h1
   have h2:∀d,b+d<=k->tO (radN c) (b+d) k<=tO (radN c) b k:=by
    intro d
    induction d with
    | zero=>intro _;exact Nat.le_refl _
    | succ d ih =>
     intro hd;refine Nat.le_trans ?_ (ih (by omega));rw[rW (a:=b+d) (b:=k) (by omega)];exact Nat.le_mul_of_pos_left _ (hp _ (by omega))
   have h3:∀d,d<=k->tO (radN c) d k<=tO (radN c) 0 k:=by
    intro d
    induction d with
    | zero=>intro _;exact Nat.le_refl _
    | succ d ih =>
     intro hd;refine Nat.le_trans ?_ (ih (by omega));rw[rW (a:=d) (b:=k) (by omega)];exact Nat.le_mul_of_pos_left _ (hp _ (by omega))
   rw[<-h1];exact h3 b hb)
  clear h8 c3 g6 g5 a0 g3 H5 a5 j1 j0 fr ir pr;go_wp2
  go_loopg [7,8,9,10,11,12,55] k (fun gh a7 a8 a9 a10 a11 a12 a55 wr=>∃(b s:Nat) (z:Int),gh=b/\a7=.int .i64 (s:Int)/\a8=.int .i64 z/\z=(b:Int)-1/\b<=k/\s=tO (radN c) b k/\wr.heap[M]?=some (.cells #[.int .i64 (k:Int),.slice (some ⟨ng,0,none⟩) N N,.slice (some ⟨fb,fo,none⟩) n aC] 59 (0,0))/\Arr wr ng 3 (ints (mtab c n k b n))/\w2.grownBy wr none)
  case atStart=>exact⟨k,1,(k:Int)-1,rfl,rfl,by go_num,rfl,Nat.le_refl _,n0.out.symm,i2.out,i9.out,a4.out⟩
  clear i2 i9 a4 q0 q1 q2;obtain⟨b,s,z,g0,rfl,rfl,hz,k2,hs,h8,h9,H4⟩:=hrel;obtain⟨m4,HS,HM,H6,h6⟩:=K5 g0 hs h8 h9 H4;obtain⟨q0,q1,q2⟩:=vS (HB.out _ H4).1.1;clear g0 hs h8 h9 H4;rcases b with _|b
  ·obtain rfl:z = -1:=by omega
   have c9:=m5.out.kept h6.out (by simp)
   have g7:MachAt wr M k n (dfaC c) ng 0 N fb fo aC []:=by
    refine⟨by have h:=HM.out;rw[b4.out]at h⊢;exact h,fun x a hx ha=>?_,fun x hx=>c9.boolQ x (by rw[<-HN.out];exact hx),H6.out.lt,c9.1,⟨by rw[<-b4.out];exact Nat.le_refl _,by unfold maxLen;omega⟩,⟨fc1,by unfold maxLen;omega⟩⟩
    have hl:x*k+a<n*k:=by
     have:(x+1)*k<=n*k:=Nat.mul_le_mul_right k hx;rw[Nat.add_mul,Nat.one_mul]at this;omega
    have h1:=H6.out.int (x*k+a) (by rw[nX];exact hl);rw[qNU hx ha]at h1
    have h2:nx (dfaC c) x a=kO c x a:=by
     unfold nx entN;rw[fW (by rw[<-HN.out];exact hx) (by rw[<-HK.out];exact ha),Int.toNat_natCast]
    rw[Nat.zero_add,h2];exact h1
   have b5:=jJ h5.out;rw[<-HN.out,<-HK.out]at b5
   have l7:=Kh (qCJ wr M k n (dfaC c) ng 0 N fb fo aC [] b5 (by omega) rfl (fun q hq=>by
    obtain⟨u,hu,hr⟩:=qIB h5.out (q:=q) (by rw[<-HN.out];exact hq)
    exact⟨u,by rw[HK.out];exact hu,hr⟩) g7)
   clear c9 g7 b5 q0 q1 q2 hz;go_wp2_with fail;refine l7.out.mono ?_;rintro e wm ⟨v,bb,rfl,f9,k3⟩;have i5:=Kh (zC h6.out f9);clear f9;rcases k3 with ⟨rfl,hmn,f,nx,rfl,hdt⟩|⟨rfl,hmn,rfl⟩
   ·obtain⟨sa,n1,c1,sb,n2,c2,rfl,rfl⟩:=hdt.shapes
    have m7:=Kh hdt;have a3:=Kh hmn;clear hdt hmn;go_upto_region 22 with fail;obtain⟨D,hD⟩:=Nm wm.heap.size;obtain⟨wd,H1⟩:=Nm (wm.alloc (.cells #[.int .i64 (k:Int),.int .i64 0,.slice sa n1 c1,.slice sb n2 c2] 37));have gd:=Ga wm (.cells #[.int .i64 (k:Int),.int .i64 0,.slice sa n1 c1,.slice sb n2 c2] 37) none;have bd:=heap_alloc_new wm (.cells #[.int .i64 (k:Int),.int .i64 0,.slice sa n1 c1,.slice sb n2 c2] 37);rw[<-H1,<-hD]at bd;rw[<-H1]at gd;rw[<-H1,<-hD];have m8:=Kh (m7.out.grow gd);have a1:=zC i5.out gd;have h4:=HB.out _ a1;obtain⟨d0,d1,d2,d3⟩:=zM bd;obtain⟨r0,r1,r2,r3⟩:=zM h4.1.2;have f0:=zA h4.1.2 0;have f1:=zA h4.1.2 1;have f2:=zA h4.1.2 2;have f3:=zA h4.1.2 3;have H8:=Kh h4;clear H1 hD gd bd a1 h4;go_wp2;refine bodyPost_ret (v:=.tuple #[.agg #[.int .i64 (k:Int),.int .i64 0,.slice sa n1 c1,.slice sb n2 c2],.int .i64 0]) (by simp[results,Try.results13,go_sem,r0,r1,r2,r3]) rfl ?_;obtain⟨e7,H7⟩:=tG H8.out.1.2 (.int .i64 (k:Int)) (.int .i64 0) (.slice sa n1 c1) (.slice sb n2 c2);have c0:∀e',e'≠37->xG wd e' (P+1):=fun e' he=>⟨_,_,_,H8.out.1.2,fun e1=>he e1.symm⟩
    have k7:=m8.out.kept H7 (fun j e=>by
     have e:=Oj e;subst e
     exact⟨c0 4 (by decide),c0 22 (by decide),c0 3 (by decide)⟩)
    exact⟨.inr ⟨_,_,by rw[<-HK.out],h5.out,by rw[<-HK.out];exact a3.out,by rw[<-HK.out];exact k7⟩,zC H8.out.2 H7 (fun j e=>by have e:P+1=j:=Oj e;have:=b3.out;omega)⟩
   have a3:=Kh hmn;clear hmn;go_upto_region 22 with fail;obtain⟨D,hD⟩:=Nm wm.heap.size;obtain⟨wd,H1⟩:=Nm (wm.alloc (.cells #[.int .i64 0,.int .i64 0,.slice none 0 0,.slice none 0 0] 37));have gd:=Ga wm (.cells #[.int .i64 0,.int .i64 0,.slice none 0 0,.slice none 0 0] 37) none;rw[<-H1]at gd;rw[<-H1,<-hD];have a1:=zC i5.out gd;have h4:=HB.out _ a1;obtain⟨r0,r1,r2,r3⟩:=zM h4.1.2;have f0:=zA h4.1.2 0;have f1:=zA h4.1.2 1;have f2:=zA h4.1.2 2;have f3:=zA h4.1.2 3;have H8:=Kh h4;clear H1 hD gd a1 h4;go_wp2;refine bodyPost_ret (v:=.tuple #[.agg #[.int .i64 0,.int .i64 0,.slice none 0 0,.slice none 0 0],.int .i64 3]) (by simp[results,Try.results13,go_sem,r0,r1,r2,r3]) rfl ?_;obtain⟨e7,H7⟩:=tG H8.out.1.2 (.int .i64 0) (.int .i64 0) (.slice none 0 0) (.slice none 0 0);exact⟨.inl ⟨3,rfl,.inr ⟨rfl,h5.out,by rw[<-HK.out];exact a3.out⟩⟩,zC H8.out.2 H7 (fun j e=>by have e:P+1=j:=Oj e;have:=b3.out;omega)⟩
  obtain rfl:z=(b:Int):=by omega
  have H2:b<k:=(by omega);obtain⟨i,p,r,ei,ep,j9,j8,n6,hr,b9,f7⟩:=l4.out b H2;have ci:=(i4.out.kept h6.out (by simp)).int b (by rw[<-HK.out];exact H2);have cp:=(l6.out.kept h6.out (by simp)).int b (by rw[h5.out.pl,<-HK.out];exact H2);rw[ei]at ci;rw[ep]at cp;have er:IntKind.i64.wrap ((i:Int)+(p:Int))=(r:Int):=by rw[hr];exact wG (by omega)
  have n7:(b:Int)<k:=(by omega);have n8:(0:Int)<=b:=by omega
  have b7:=g9.out (b+1) k2;rw[<-HS.out]at b7;obtain⟨b7,n4⟩:=b7;have b8:=(g9.out b (by omega)).2;rw[rW H2,<-HS.out,<-b9]at b8;obtain⟨l3,i0,l8,n9⟩:=K4 b8 b9 f7 hr;have j5:1<=r:=by omega
  have n5:r<=4000:=by omega
  have d6:=H6.out;rw[qHP]at d6;have e6:=Kh d6;have m6:=Kh ei;clear b8 b9 f7 hr d6 ei ep hz j8;go_wp2
  go_quiet (fail)
  clear er;go_wp2
  go_loopg [10,11,12,55] n (fun gh a10 a11 a12 a55 wx=>∃q:Nat,gh+q=n/\a55=.int .i64 q/\wx.heap[M]?=some (.cells #[.int .i64 (k:Int),.slice (some ⟨ng,0,none⟩) N N,.slice (some ⟨fb,fo,none⟩) n aC] 59 (0,0))/\Arr wx ng 3 (ints (mtab c n k b q))/\w2.grownBy wx none)
  case atStart =>
   first
   | exact⟨0,rfl,rfl,HM.out,e6.out,h6.out⟩
   | exact⟨0,rfl,rfl,zB HM.out (zT _ _ none),e6.out.kept (zT _ _ none) (by simp),zC h6.out (zT _ _ none)⟩
  clear HM H6 e6 h6 ci cp q0 q1 q2;obtain⟨q,f8,rfl,h8,h9,H4⟩:=hrel;obtain⟨d9,HM,H6,h6⟩:=K4 f8 h8 h9 H4;obtain⟨q0,q1,q2⟩:=vS (HB.out _ H4).1.1;obtain⟨m0,m1,m2⟩:=vS h8;clear f8 h8 h9 H4;by_cases hq:q<n
  ·have e9:(q:Int)<n:=by omega
   obtain⟨t,d,e,x,vv,X,Y,yy,HF,i7,n3,HE,g8,l9,g4,j2,k8,l1,m9⟩:=qTC h5.out HK.out HN.out hq H2 c6 c4 HS.out i0.out l8.out j9 j5;rw[<-b4.out]at g4;have j4:¬(s:Int)=0:=by omega
   have j6:¬(r:Int)=0:=by omega
   have k0:(d:Int)+1=(e:Int):=by have:=HE.out;omega
   have ci:=(i4.out.kept h6.out (by simp)).int b (by rw[<-HK.out];exact H2);rw[m6.out]at ci;obtain⟨f1,f2⟩:=HF.out;obtain⟨f3,f4,f5⟩:=i7.out
   go_upto_if 67 with fail
   clear f1 f2 f3 f4 f5 k0 j4 j6;go_cut [12] (fun v12 wx=>v12=.int .i64 (x:Int)/\wr=wx)
   case first =>
    by_cases heq:e=r
    ·have a2:((e:Int) == (r:Int))=true:=by rw[beq_iff_eq];omega
     rw[a2];have d7:Hid (x=i):=Kh (by rw[g8.out,if_pos heq]);clear heq a2;go_wp2
     go_meet
     exact⟨by rw[d7.out],rfl⟩
    have a2:((e:Int) == (r:Int))=false:=by rw[beq_eq_false_iff_ne];omega
    rw[a2];have d7:Hid (x=e):=Kh (by rw[g8.out,if_neg heq]);clear heq a2;go_wp2
    go_meet
    exact⟨by rw[d7.out,i7.out.2.2],rfl⟩
   obtain⟨rfl,rfl⟩:=hcut;clear ci q0 q1 q2;have h9:=H6.out;have d4:Y<(mtab c n k b q).length:=(by rw[nX,<-b4.out];exact g4);obtain⟨u,hu⟩:=Nm ((mtab c n k b q).getD Y 0);have cy:=h9.int Y d4;rw[<-hu]at cy;have fy:=h9.frozen Y;have H3:=h9.int_set Y d4 (vv:Int);have c5:=qNT (c:=c) H2 hq;rw[<-k8.out,<-l1.out]at c5;rw[c5]at H3;have d8:=Kh H3;have c8:=zF wr ⟨ng,Y,none⟩ (.int .i64 (vv:Int));have m3:=Kh (zC h6.out c8 (fun j e=>by have e:ng=j:=Oj e;subst e;exact Nat.le_trans i6.out.size i3.out.2.2.1));have a3:=Kh (zB HM.out c8 (fun e=>i3.out.2.2.2 (Oj e).symm));have k4:(Y:Int)<N:=(by omega);obtain⟨I1,I2,I3,I4⟩:=l9.out;obtain⟨y0,y1,y2⟩:=m9.out;clear h9 d4 hu H3 c5 c8 j2;go_wp2;clear m0 m1 m2 I1 I2 I3 I4 y0 y1 y2 cy fy e9;go_roundg (n-(q+1))
   case measure=>have:=d9.out;omega
   exact⟨q+1,by have:=d9.out;omega,by go_num,a3.out,d8.out,m3.out⟩
  have e8:q=n:=by have:=d9.out;omega
  have e9:¬(q:Int)<n:=(by omega);have l5:=Kh e8
  have j3:wrap64 ((s:Int)*(r:Int))=((tO (radN c) b k:Nat):Int):=by
   rw[rW H2,<-HS.out,<-i0.out];have e1:(s:Int)*(r:Int)=((r*s:Nat):Int):=by rw[Nat.mul_comm];simp
   rw[e1];have:=l3.out;exact IntWalk.wrap64_in _ (by omega)
  obtain⟨s2,b6⟩:=Nm (tO (radN c) b k);rw[<-b6]at j3;have l2:=Kh b6;clear b6 e8;go_wp2;go_roundg b
  case measure=>have:=m4.out;omega
  exact⟨b,s2,(b:Int)-1,rfl,rfl,by go_num,rfl,by omega,l2.out,HM.out,by have:=H6.out;rw[l5.out]at this;exact this,h6.out⟩
 have hb:(E != 0)=true:=by rw[bne_iff_ne];exact h0
 obtain⟨r0,r1,r2,r3⟩:=zM (HB.out _ h7).1.2;have f0:=zA (HB.out _ h7).1.2 0;have f1:=zA (HB.out _ h7).1.2 1;have f2:=zA (HB.out _ h7).1.2 2;have f3:=zA (HB.out _ h7).1.2 3;have i8:=Kh (HB.out _ h7);have H0:=Kh h0;clear h7 h0;go_wp2;refine bodyPost_ret (v:=.tuple #[.agg #[.int .i64 0,.int .i64 0,.slice none 0 0,.slice none 0 0],.int .i64 E]) (by simp[results,Try.results13,go_sem,r0,r1,r2,r3]) rfl ?_;obtain⟨e7,H7⟩:=tG i8.out.1.2 (.int .i64 0) (.int .i64 0) (.slice none 0 0) (.slice none 0 0);exact⟨.inl ⟨E,rfl,.inl ⟨e0.out,fun h=>H0.out (e0.out.trans h)⟩⟩,zC i8.out.2 H7 (fun j e=>by have e:P+1=j:=Oj e;have:=b3.out;omega)⟩
end Go.Proofs.Ytobakifdllameaa
namespace Go.Proofs.Ytobakifdllameaa
open Go.RowKit
theorem kJ (B:Nat)(w:World)(v:Value)(c:CntV)(s:ByteArray)(h:iQ B w v c)(hs:s.size<=maxLen):Calls Try.prog 10 #[v,.string s] w fun e w'=>e=.returned (.bool (pK c s))/\w.grownBy w' none:=by
 obtain⟨vi,vp,va,rfl,hi,hp,ha⟩:=id h;obtain⟨iA,iC,rfl⟩:=hi.shape;obtain⟨pA,pC,rfl⟩:=hp.shape;obtain⟨aA,aC,rfl⟩:=ha.shape;obtain⟨n,hn⟩:=Nm ((ints c.idx).length);obtain⟨pn,h6⟩:=Nm ((ints c.per).length);obtain⟨an,h9⟩:=Nm ((bls c.acc).length);rw[<-hn]at hi h;rw[<-h6]at hp h;rw[<-h9]at ha h;rw[<-hn,<-h6,<-h9];rw[zN]at hn h6;rw[yB]at h9;obtain⟨w1,H0⟩:=Nm (w.alloc (.cells #[.slice iA n iC,.slice pA pn pC,.slice aA an aC] 28));have H8:w.grownBy w1 none:=by rw[H0];exact Ga w _ none
 have H2:=heap_alloc_new w (.cells #[.slice iA n iC,.slice pA pn pC,.slice aA an aC] 28);obtain⟨P,hP⟩:=Nm w.heap.size;rw[<-H0,<-hP]at H2;obtain⟨q0,q1,q2⟩:=vS H2;obtain⟨R,hR⟩:=Nm (pK c s);rw[<-hR];have b5:Hid (cntE c≠0->R=false):=Kh (fun h=>by rw[hR];exact qKW h);have b4:Hid (xN s (n:Int)=false->R=false):=Kh (fun h=>by rw[hR];exact iZ (by rw[<-hn];exact h));have H5:Hid (cntE c=0->xN s (n:Int)=true->R=c.acc.getD (atTo c (xU n (yT s)) n) false):=Kh (fun h h2=>by rw[hR,hn];exact iD h (by rw[<-hn];exact h2));have HV:=Kh (bU B w1 _ c (h.kept H8));have HI:Hid (∀W:World,w.grownBy W none->Row B W (.slice iA n iC) (ints c.idx)):=Kh (fun W hg=>hi.kept hg (by simp));have HP:Hid (∀W:World,w.grownBy W none->Row B W (.slice pA pn pC) (ints c.per)):=Kh (fun W hg=>hp.kept hg (by simp));have HA:Hid (∀W:World,w.grownBy W none->Row B W (.slice aA an aC) (bls c.acc)):=Kh (fun W hg=>ha.kept hg (by simp));obtain⟨i0,d2,g1,g5,HN,g4⟩:=K6 H8 H2 H0 hP hn h6;have b6:=Kh h9;obtain⟨E,hE⟩:=Nm (cntE c);rw[<-hE]at HV b5 H5;have HE:=Kh hE;clear h hi hp ha hn h6 h9 H8 H2 H0 hP hR hE;go_enter Try.func10,Try.ntmps10;go_upto_region 1 with fail;rw[<-g1.out,<-g5.out];go_wp2_with fail;refine HV.out.mono ?_;rintro e w2 ⟨rfl,H1⟩;have h7:=Kh (zC i0.out H1);obtain⟨q0,q1,q2⟩:=vS (zB d2.out H1);have i4:=Kh (zB d2.out H1);clear H1 HV;by_cases hE0:E=0
 case neg =>
  have e1:(E != 0)=true:=by rw[bne_iff_ne];exact hE0
  have HF:=Kh (b5.out hE0);clear hE0;go_wp2;go_ret;exact⟨yY HF.out.symm,h7.out⟩
 have e1:(E != 0)=false:=by rw[bne_eq_false_iff_eq];exact hE0
 have h1:Hid (CntOk c):=Kh (kY.1 (by rw[<-HE.out];exact hE0));have i3:=Kh hE0;clear hE0;have b3:=Kh (jQ s (n:Int) w2 hs);obtain⟨wv,H7⟩:=Nm (xN s (n:Int));rw[<-H7]at b3 b4 H5;have a5:=Kh H7;clear H7;go_wp2_with fail;refine b3.out.mono ?_;rintro e w3 ⟨rfl,rfl⟩;clear b3;cases wv with
 | false =>
  have HF:=Kh (b4.out rfl);go_wp2;go_ret;exact⟨yY HF.out.symm,h7.out⟩
 | true =>
  have d0:=Kh (qI a5.out.symm);have g3:=Kh (H5.out i3.out rfl);have e5:=d0.out.2.2;have c3:1<=n:=by rw[HN.out];exact h1.out.k1
  have j0:n<=6:=by rw[HN.out];exact h1.out.k6
  clear b5 b4 H5;obtain⟨ib,io,ic,ei,_,i1,i2,ir⟩:=(HI.out _ h7.out).some_ (by rw[zN,<-HN.out];exact c3);obtain⟨pb,po,pc,ep,_,p1,p2,pr⟩:=(HP.out _ h7.out).some_ (by rw[zN,h1.out.pl,<-HN.out];exact c3)
  have c7:1<=c.acc.length:=by
   have:=qFB h1.out.pos [] _ _ (Nat.le_refl _) h1.out.size;omega
  obtain⟨ab,ao,ac,ea,_,a1,a2,ar⟩:=(HA.out _ h7.out).some_ (by rw[yB];exact c7);simp only[Value.slice.injEq]at ei ep ea;obtain⟨rfl,d8,rfl⟩:=ei;obtain⟨rfl,d7,rfl⟩:=ep;obtain⟨rfl,d6,rfl⟩:=ea;rw[zN,<-HN.out]at i1;rw[zN,h1.out.pl,<-HN.out]at p1;rw[yB,<-b6.out]at a1;have h6:n=pn:=by rw[g4.out,h1.out.pl,HN.out]
  unfold maxLen at i2 p2 a2;obtain⟨IR,PR,AR⟩:=K3 ir pr ar;subst h6;clear ir pr ar d8 d7 d6 c7;obtain⟨wo,rfl⟩:=Nm (w2:World);go_upto_region 4 with (first|(at_make;refine qV rfl _ _ _ rfl yJ rfl _ _ _ _ n rfl rfl rfl rfl ?b1 ?b2 ?_;(case b1=>omega);(case b2=>(unfold maxLen;omega));intro w4 H4 c4 d5)|fail);rw[<-yS,<-bV]at H4;obtain⟨g,hg⟩:=Nm wo.heap.size;rw[<-hg]at H4⊢;have g8:Hid (wo.heap.size<=g):=Kh (by rw[hg];exact Nat.le_refl _);have d4:Hid (Arr w4 g 3 (nats (xU n ((yT s).take 0)))):=Kh H4;have g9:=Kh c4;clear H4 c4 d5 hg q0 q1 q2;go_wp2
  go_loopg [6,27] s.size (fun gh a6 a27 wr=>∃j:Nat,gh+j=s.size/\a27=.int .i64 j/\Arr wr g 3 (nats (xU n ((yT s).take j)))/\wo.grownBy wr none)
  case atStart=>exact⟨0,rfl,rfl,d4.out,g9.out⟩
  clear d4;obtain⟨j,h8,rfl,h0,h3⟩:=hrel;obtain⟨h5,d3,g7⟩:=K3 h8 h0 h3;clear h8;by_cases hj:j<s.size
  ·have e8:(j:Int)<s.size:=by omega
   obtain⟨b0,a0,j3,i6,i9,a3,c2⟩:=dE d0.out.2.1 hj;have ca:=h0.nat a0 (by rw[uX];exact a3);have fa:=h0.frozen a0;rw[rZ a3]at ca;have f7:((yT s).take j).count a0<=2048:=Nat.le_trans List.count_le_length (by rw[List.length_take];omega);have f8:(a0:Int)<n:=(by omega);have H6:=Kh (h0.nat_set a0 (by rw[uX];exact a3) (((yT s).take j).count a0+1));rw[qET,show (yT s).take j++[a0]=(yT s).take (j+1) by rw[yD (d:=0) (by rw[vY];exact hj),c2]]at H6;obtain⟨x,hx⟩:=Nm (((yT s).take j).count a0);rw[<-hx]at ca f7 H6;have j2:g<wr.heap.size:=h0.lt;clear h0 c2 hx h3;go_wp2;go_roundg (s.size-(j+1))
   case measure=>have:=h5.out;omega
   refine⟨j+1,by have:=h5.out;omega,by go_num,?_,?_⟩
   ·first|exact H6.out|(have:=H6.out;simpa using this)
   exact zC g7.out (zF wr ⟨g,a0,none⟩ _) (fun q e=>by have e:g=q:=Oj e;rw[<-e];exact g8.out)
  have e8:¬(j:Int)<s.size:=by omega
  have i5:Hid (Arr wr g 3 (nats (xU n (yT s)))):=Kh (by
   rw[<-List.take_of_length_le (l:=yT s) (i:=j) (by rw[vY];omega)];exact d3.out)
  have g6:=Kh (zC h7.out h3);have IRX:=Kh (IR.out.kept h3 (by simp));have PRX:=Kh (PR.out.kept h3 (by simp));have ARX:=Kh (AR.out.kept h3 (by simp));obtain⟨q0,q1,q2⟩:=vS (zB i4.out h3);clear h0 h3 d3;obtain⟨wx,rfl⟩:=Nm (wr:World);go_wp2
  go_loopg [7,8,9,42] n (fun gh a7 a8 a9 a42 wr=>∃a q:Nat,gh+a=n/\a42=.int .i64 a/\a7=.int .i64 ((atTo c (xU n (yT s)) a:Nat):Int)/\wr=wx.drewN q)
  case atStart=>exact⟨0,0,rfl,rfl,rfl,rfl⟩
  obtain⟨a,q,h8,rfl,rfl,rfl⟩:=hrel;have h5:=Kh h8;clear h8;by_cases haN:a<n
  ·have f9:(a:Int)<n:=by omega
   have H3:a<c.idx.length:=(by rw[<-HN.out];exact haN);obtain⟨i,p,ei,ep,j1,e6,i7⟩:=qSK h1.out H3;have ci:=IRX.out.int a H3;have cp:=PRX.out.int a (by rw[h1.out.pl];exact H3);rw[ei]at ci;rw[ep]at cp;have ca:=i5.out.nat a (by rw[uX];exact haN);obtain⟨N,a4⟩:=Nm ((xU n (yT s)).getD a 0)
   have j4:N<=2048:=by
    rw[a4,rZ haN];exact Nat.le_trans List.count_le_length (by rw[vY];exact e5)
   have h4:=qRS (ns:=xU n (yT s)) ei ep;have hK:=qUM h1.out (xU n (yT s)) (a:=a) (by omega);rw[<-a4]at ca h4;obtain⟨K,c8⟩:=Nm (atTo c (xU n (yT s)) a);rw[<-c8]at hK h4⊢;obtain⟨r,hr⟩:=Nm (i+p);rw[<-hr]at h4;have c1:r<=4000:=by omega
   obtain⟨x,hx⟩:=Nm (asN N i p);rw[<-hx]at h4;have b9:x<=4000:=by have:=qGM (n:=N) (i:=i) e6;omega
   obtain⟨e1,e2,e3⟩:=fU hK c1;clear e2;obtain⟨m,hm⟩:=Nm (K*r);rw[<-hm]at e1 e3 h4;obtain⟨y,hy⟩:=Nm (m+x);rw[<-hy]at h4;obtain⟨d1,c9,g0,j5⟩:=K4 h4 hx b9 e3;have c0:(i:Int)+(p:Int)=(r:Int):=by omega
   have b7:(m:Int)+(x:Int)=(y:Int):=by omega
   have f1:IntKind.i64.wrap ((i:Int)+(p:Int))=(r:Int):=by rw[c0];exact wG (by omega)
   have f2:IntKind.i64.wrap ((m:Int)+(x:Int))=(y:Int):=by rw[b7];exact wG (by omega)
   clear a4 c8 hr hx hm hy h4 c0 b7 e3 hK c1 b9 ei ep H3;by_cases hlt:N<i
   ·have e7:(N:Int)<(i:Int):=by omega
    have e9:¬(i:Int)<=(N:Int):=by omega
    have e0:x=N:=by rw[c9.out,asN,if_pos hlt]
    subst e0;clear hlt;go_wp2
    go_quiet (fail)
    clear e1 f1 f2;go_wp2;go_roundg (n-(a+1))
    case measure=>have:=h5.out;omega
    exact⟨a+1,_,by have:=h5.out;omega,by go_num,by rw[d1.out],by first|rfl|exact World.drewN_drewN _ _ _⟩
   obtain⟨d,hd⟩:=Nm (N-i);obtain⟨t,ht⟩:=Nm (d % p);have d9:x=i+t:=by rw[c9.out,asN,if_neg hlt,ht,hd]
   have c6:(N:Int)-(i:Int)=(d:Int):=by omega
   have e4:t<p:=(by rw[ht];exact Nat.mod_lt _ (by omega));have b8:(i:Int)+(t:Int)=(x:Int):=by omega
   have f3:IntKind.i64.wrap ((N:Int)-(i:Int))=(d:Int):=by rw[c6];exact wG (by omega)
   have f4:(d:Int).tmod (p:Int)=(t:Int):=by rw[ht];exact Int.ofNat_tmod d p
   have f5:IntKind.i64.wrap ((i:Int)+(t:Int))=(x:Int):=by rw[b8];exact wG (by have:=g0.out;omega)
   have f6:IntKind.i64.wrap (t:Int)=(t:Int):=wG (by omega);have i8:¬(p:Int)=0:=by omega
   have e9:(i:Int)<=(N:Int):=by omega
   clear hd ht d9 c6 e4 b8 hlt;go_wp2
   go_quiet (fail)
   go_wp2
   go_quiet (fail)
   clear e1 f1 f2 f3 f4 f5 f6;go_wp2;go_roundg (n-(a+1))
   case measure=>have:=h5.out;omega
   exact⟨a+1,_,by have:=h5.out;omega,by go_num,by rw[d1.out],by first|rfl|exact World.drewN_drewN _ _ _⟩
  have H9:a=n:=by have:=h5.out;omega
  have f9:¬(a:Int)<n:=by omega
  have c5:atTo c (xU n (yT s)) a<an:=by
   rw[H9,b6.out];have hx:=h1.out.size;rw[<-HN.out]at hx;exact qFB h1.out.pos _ _ _ (by rw[HN.out];exact Nat.le_refl _) hx
  have g2:Hid (R=c.acc.getD (atTo c (xU n (yT s)) a) false):=Kh (by rw[H9];exact g3.out);have cz:=ARX.out.boolQ (atTo c (xU n (yT s)) a) (by rw[<-b6.out];exact c5);rw[<-g2.out]at cz;obtain⟨z,hz⟩:=Nm (atTo c (xU n (yT s)) a);rw[<-hz]at cz c5⊢;have f0:(z:Int)<an:=(by omega);clear hz H9;go_wp2;go_ret;exact⟨rfl,zC g6.out (zT wx _ none)⟩
theorem qNB {d:DfaV}{q:Nat}{l:List Nat}{j:Nat}(h:j<l.length):run d q (l.take (j+1))=nx d (run d q (l.take j)) (l.getD j 0):=by
 rw[yD (d:=0) h,qFQ]
theorem qNC (B:Nat)(w:World)(v:Value)(d:DfaV)(n k q:Nat)(s:ByteArray)(hB:B<=w.heap.size)(h:sK B w v d)(hd:VD d n k)(h5:n<=512)(hq:q<n)(hs:xN s (k:Int)=true):Calls Try.prog 27 #[v,.int .i64 (q:Int),.string s] w fun e w'=>e=.returned (.int .i64 ((run d q (yT s):Nat):Int))/\w.grownBy w' none:=by
 have h2:=h;obtain⟨fb,fo,fc,b,off,cap,RB,RO,RC,rfl,h8⟩:=h.at hd;have d5:=hd.n1;have d7:=hd.k6;have d8:=hd.k1;have d9:=h8.cap.1;have h4:=h8.cap.2;have b2:cap<=9223372036854775807:=by unfold maxLen at h4;omega
 obtain⟨S,hS⟩:=Nm (st0 d);have a2:dAgg k (st0 d) fb fo fc b off cap n=.agg #[.int .i64 (k:Int),.int .i64 (S:Int),.slice (some ⟨fb,fo,none⟩) n fc,.slice (some ⟨b,off,none⟩) n cap]:=by rw[hS];rfl
 rw[a2]at h2⊢;obtain⟨wA,H7⟩:=Nm (w.alloc (.cells #[.int .i64 (k:Int),.int .i64 (S:Int),.slice (some ⟨fb,fo,none⟩) n fc,.slice (some ⟨b,off,none⟩) n cap] 37));have h7:=Ga w (.cells #[.int .i64 (k:Int),.int .i64 (S:Int),.slice (some ⟨fb,fo,none⟩) n fc,.slice (some ⟨b,off,none⟩) n cap] 37) none;have h3:=heap_alloc_new w (.cells #[.int .i64 (k:Int),.int .i64 (S:Int),.slice (some ⟨fb,fo,none⟩) n fc,.slice (some ⟨b,off,none⟩) n cap] 37);rw[<-H7]at h3 h7;obtain⟨P,hP⟩:=Nm w.heap.size;rw[<-hP]at h3;obtain⟨c0,c1,c2,c3⟩:=zM h3;have e1:=zQ h3;have b8:B<=wA.heap.size:=by omega
 obtain⟨c5,b1,c6,b9,HD⟩:=K5 hP h3 h7 H7 hd;have c7:Hid (∀W:World,w.grownBy W none->DAt B W d n k fb fo fc b off cap RB RO RC):=Kh (fun W hg=>h8.kept hg (by simp));have a5:=Kh (rG B wA _ d b8 (h2.kept h7 (by simp)));have c4:=Kh (mM hd h5);have HW:=Kh hs;have H8:=Kh (qI hs);have c9:=H8.out.2.2;have d4:(q:Int)<n:=by omega
 clear h3 h7 H7 h8 hd h h2 a2 h4 hS hP hs;go_enter Try.func27,Try.ntmps27;go_upto_region 1 with fail;rw[<-b9.out,<-c5.out];go_wp2_with fail;refine a5.out.mono ?_;rintro e w1 ⟨rfl,H6⟩;rw[c4.out];have a8:=Kh (zC c6.out H6);have a9:=Kh (zB b1.out H6);obtain⟨d0,d1,d2,d3⟩:=zM a9.out;clear H6 a5 c0 c1 c2 c3 b1;go_wp2_with fail;refine(jQ s (k:Int) w1 (by unfold maxLen;omega)).mono ?_;rintro e w2 ⟨rfl,rfl⟩;rw[HW.out];go_wp2_with fail
 go_loopg [1,7,31] s.size (fun gh a1 a7 i wr=>∃j:Nat,gh+j=s.size/\i=.int .i64 j/\a1=.int .i64 ((run d q ((yT s).take j):Nat):Int)/\w1.grownBy wr none)
 case atStart=>exact⟨0,rfl,rfl,rfl,zV _ _⟩
 clear d0 d1 d2 d3;obtain⟨j,a4,rfl,rfl,h6⟩:=hrel;have H9:=Kh a4;have a6:=Kh h6;obtain⟨d0,d1,d2,d3⟩:=zM (zB a9.out h6);clear a4;by_cases hj:j<s.size
 ·have b4:(j:Int)<s.size:=by omega
  have h9:=kU HD.out ((yT s).take j) hq (fun a ha=>H8.out.1 a (List.mem_of_mem_take ha));have H0:=Kh (qNB (d:=d) (q:=q) (l:=yT s) (j:=j) (by rw[vY];exact hj));obtain⟨R,hR⟩:=Nm (run d q ((yT s).take j));rw[<-hR]at h9 H0⊢;have b7:(R:Int)<n:=(by omega);have h0:=c7.out wr (zC a8.out h6);have chd:=h0.hd R h9;have H4:=h0.rcap R h9;have H3:=H4.1;have H2:RC R<=9223372036854775807:=by have:=H4.2;unfold maxLen at this;omega
  obtain⟨b0,a0,e0,c8,d6,b6,a3⟩:=dE H8.out.2.1 hj;have cel:=h0.el R a0 h9 b6;have b5:(a0:Int)<k:=(by omega);rw[a3]at H0;obtain⟨rb,H5⟩:=Nm (RB R);obtain⟨ro,H1⟩:=Nm (RO R);obtain⟨rc,h1⟩:=Nm (RC R);rw[<-H5,<-H1,<-h1]at chd;rw[<-H5,<-H1]at cel;rw[<-h1]at H3 H2;obtain⟨y,hy⟩:=Nm (nx d R a0);rw[<-hy]at cel H0;clear h0 H4 a3 H5 H1 h1 hy hR h6;go_wp2_with fail
  go_region
  all_goals (try go_frame)
  all_goals go_wp2
  all_goals
   go_roundg (s.size-(j+1))
   case measure=>have:=H9.out;omega
   exact⟨j+1,by have:=H9.out;omega,by go_num,by rw[H0.out],zC a6.out (zU wr none)⟩
 have b3:j=s.size:=by have:=H9.out;omega
 have b4:¬(j:Int)<s.size:=(by omega);have HJ:Hid ((yT s).take j=yT s):=Kh (List.take_of_length_le (by rw[vY];omega));rw[HJ.out];clear b3;go_wp2;go_ret;exact⟨rfl,zC a8.out a6.out⟩
theorem qFD (B:Nat)(w:World)(v:Value)(d:DfaV)(n k:Nat)(s:ByteArray)(hB:B<=w.heap.size)(h:sK B w v d)(hd:VD d n k)(h5:n<=512)(hs:xN s (k:Int)=true):Calls Try.prog 14 #[v,.string s] w fun e w'=>e=.returned (.bool (acc d (st0 d) (yT s)))/\w.grownBy w' none:=by
 have h0:=h;obtain⟨fb,fo,fc,b,off,cap,RB,RO,RC,rfl,h4⟩:=h.at hd;have h8:=oU hd;have a3:=h4.fcap.1;have h2:=h4.fcap.2;have H5:fc<=9223372036854775807:=by unfold maxLen at h2;omega
 have H2:=Kh (kU hd (yT s) h8 (qI hs).1);obtain⟨S,hS⟩:=Nm (st0 d);have h9:dAgg k (st0 d) fb fo fc b off cap n=.agg #[.int .i64 (k:Int),.int .i64 (S:Int),.slice (some ⟨fb,fo,none⟩) n fc,.slice (some ⟨b,off,none⟩) n cap]:=by rw[hS];rfl
 rw[h9]at h0⊢;rw[<-hS]at h8 H2⊢;obtain⟨wA,h7⟩:=Nm (w.alloc (.cells #[.int .i64 (k:Int),.int .i64 (S:Int),.slice (some ⟨fb,fo,none⟩) n fc,.slice (some ⟨b,off,none⟩) n cap] 37));have h3:=Ga w (.cells #[.int .i64 (k:Int),.int .i64 (S:Int),.slice (some ⟨fb,fo,none⟩) n fc,.slice (some ⟨b,off,none⟩) n cap] 37) none;have h1:=heap_alloc_new w (.cells #[.int .i64 (k:Int),.int .i64 (S:Int),.slice (some ⟨fb,fo,none⟩) n fc,.slice (some ⟨b,off,none⟩) n cap] 37);rw[<-h7]at h1 h3;obtain⟨P,hP⟩:=Nm w.heap.size;rw[<-hP]at h1;obtain⟨c0,c1,c2,c3⟩:=zM h1;have a4:=zQ h1;have H8:B<=wA.heap.size:=by omega
 obtain⟨a0,H4,a1,H9⟩:=K4 hP h1 h3 h7;have a2:Hid (∀W:World,w.grownBy W none->DAt B W d n k fb fo fc b off cap RB RO RC):=Kh (fun W hg=>h4.kept hg (by simp));have H1:=Kh (qNC B wA _ d n k S s H8 (h0.kept h3 (by simp)) hd h5 h8 hs);clear h1 h3 h7 h4 hd h h0 h9 h2 hS hP hs;go_enter Try.func14,Try.ntmps14;go_upto_region 1 with fail;rw[<-H9.out,<-a0.out];go_wp2_with fail;refine H1.out.mono ?_;rintro e w1 ⟨rfl,h6⟩;have H3:=Kh (zC a1.out h6);obtain⟨d0,d1,d2,d3⟩:=zM (zB H4.out h6);obtain⟨R,hR⟩:=Nm (run d S (yT s));have H7:R<n:=by rw[hR];exact H2.out
 have H6:(R:Int)<n:=by omega
 have HA:Hid (acc d S (yT s)=d.final.getD R false):=Kh (by rw[hR];rfl);rw[<-hR];have cfin:=(a2.out w1 H3.out).fin H7;obtain⟨bf,H0⟩:=Nm (d.final.getD R false);rw[<-H0]at cfin HA;clear h6 H1 c0 c1 c2 c3 H4 hR H0;go_wp2;go_ret;exact⟨yY HA.out.symm,H3.out⟩
def dQ:DfaV:=⟨1,0,[false,false,false,true],[[1],[2],[3],[3]]⟩
def elQ:List (List Nat):=[[0,1,2,3],[1,2,3,3],[2,3,3,3],[3,3,3,3]]
def gsQ:List (List Nat):=[[1,2,3,3]]
def prQ:List Int:=[-1,0,1,2]
def laQ:List Int:=[-1,0,0,0]
def riQ:List (List Nat):=[[1],[2],[3],[3]]
theorem qTZ:xZ gsQ (yK gsQ 4 gsQ.length) 4=((elQ,prQ,laQ),riQ):=by decide +kernel
theorem qGE:uJ dQ=0:=by decide +kernel
theorem qSR:VD dQ 4 1:=qQK qGE
def sQ:SynV:=⟨1,tabE prQ laQ riQ 4,vH prQ laQ 4,imgE gsQ elQ,accE dQ.final 0 elQ,kN 4 (mW (metL 4 [1,2,3]))⟩
theorem qSG:sQ.images=[1]:=by decide +kernel
theorem qLR {d e:DfaV}(h:d.letters=e.letters/\d.start=e.start/\d.final=e.final/\d.next=e.next):d=e:=by
 obtain⟨a,b,c,x⟩:=d;obtain⟨a',b',c',x'⟩:=e;obtain⟨h1,h2,h3,h4⟩:=h;simp only at h1 h2 h3 h4;rw[h1,h2,h3,h4]
theorem qUF:minD dQ 1=dQ:=qLR (by decide +kernel)
theorem qSO:tH dQ 4 1=gsQ:=by decide +kernel
def tQ:List (List Int):=[[0,1,2,3],[1,2,3,3],[2,3,3,3],[3,3,3,3]]
theorem qPX:tabI sQ.tab=tQ:=by decide +kernel
theorem qUH:FinE gsQ 4 elQ prQ laQ riQ elQ.length:=qLK (by unfold IsT;decide) (by omega) (by decide) qTZ (by unfold IsT;decide)
theorem qUG:GenI tQ [1] [1,2,3] where
 nd:=by decide
 lt:=by decide
 base:=by decide
 gen:=fun x hx=>by
  have g1:Gen tQ [1] 1:=.base 1 (by simp)
  have g2:Gen tQ [1] 2:=.mul 1 1 g1 g1
  have g3:Gen tQ [1] 3:=.mul 1 2 g1 g2
  simp only[List.mem_cons,List.not_mem_nil,or_false]at hx
  rcases hx with rfl|rfl|rfl
  ·exact g1
  ·exact g2
  ·exact g3
theorem qPA:oK tQ [1,2,3]:=by unfold oK;decide +kernel
theorem qQO:pS dQ sQ:=by
 refine⟨4,1,4,dQ,qSR,qUF.symm,qSR,by omega,?_⟩;rw[qSO];exact⟨elQ,prQ,laQ,riQ,[1,2,3],qUH,by decide,rfl,rfl,rfl,rfl,rfl,by rw[qPX,qSG];exact qUG,by rw[qPX];exact qPA,rfl⟩
theorem qUL:autI sQ.I=dQ:=qLR (by decide +kernel)
theorem qQL:qQ sQ.I:=⟨by decide +kernel,sQ,by rw[qUL];exact qQO,rfl⟩
theorem qSU:kP sQ.I.tab=true:=by decide +kernel
theorem qUA:PowR sQ.I.tab ((imI sQ.I).getD 0 0) 4 3:=by unfold PowR;decide +kernel
theorem qPY {Ls js:List Nat}(h:PowsR sQ.I Ls js sQ.I.images.length):Ls=[4]/\js=[3]:=by
 have e1:sQ.I.images.length=1:=by decide +kernel
 rw[e1]at h;have h1:=h.pow 0 (by omega);obtain⟨h2,h3⟩:=h1.eq qUA;have l1:=h.l1;have l2:=h.l2
 match Ls,js,l1,l2,h2,h3 with
 | [a],[b],_,_,h2,h3=>simp at h2 h3;rw[h2,h3];exact⟨rfl,rfl⟩
def cQ:CntV:=⟨[3],[1],[false,false,false,true]⟩
theorem qUI {c:CntV}(h:qFH sQ.I c):c=cQ:=by
 obtain⟨Ls,js,hp,h1,h2,h3,h4⟩:=h;obtain⟨rfl,rfl⟩:=qPY hp;obtain⟨ci,cp,ca⟩:=c;simp only at h1 h2 h3 h4;have e1:vO [3]=[3]:=by decide
 have e2:vO (perL [4] [3])=[1]:=by decide
 rw[e1]at h1;rw[e2]at h2;subst h1 h2;have e3:vQ [3] [1] sQ.I.images.length=some 4:=by decide +kernel
 rw[e3]at h3;have e4:ca.length=4:=(Oj h3).symm;rw[e4]at h4;have e5:((List.range 4).map fun i=>sQ.I.accept.getD (valC sQ.I.tab (imI sQ.I) [4] sQ.I.images.length i 0) false)=[false,false,false,true]:=by decide +kernel
 rw[h4,e5];rfl
theorem qRN:¬qMJ sQ.I:=by
 rintro ⟨Ls,js,hp,h⟩;obtain⟨rfl,rfl⟩:=qPY hp;have e3:vQ (vO [3]) (vO (perL [4] [3])) sQ.I.images.length=some 4:=by decide +kernel
 rw[e3]at h;exact absurd h (by simp)
theorem qKV:pK cQ ⟨#[97,97,97,97]⟩=true/\pK cQ ⟨#[97,97]⟩=false:=by decide +kernel
theorem mP {xs:List Bool}{k:Nat}(h:k<xs.length):xs.take (k+1)=xs.take k++[xs.getD k false]:=by
 rw[List.take_add_one];simp[List.getD,h]
theorem qJK (B C:Nat)(w:World)(va vb:Value)(xs ys:List Bool)(ha:Row B w va (bls xs))(hb:Row C w vb (bls ys)):Calls Try.prog 41 #[va,vb] w fun e w'=>e=.returned (.bool (decide (xs=ys)))/\∃m,w'=w.drewN m:=by
 have h2:=ha.len_le;rw[yB]at h2;unfold maxLen at h2;have h1:=hb.len_le;rw[yB]at h1;unfold maxLen at h1;obtain⟨aa,ac,rfl⟩:=ha.shape;obtain⟨ba,bc,rfl⟩:=hb.shape;rw[yB]at ha hb⊢;rw[yB];by_cases hl:xs.length=ys.length
 ·by_cases h0:xs.length=0
  ·have hx:xs=[]:=List.eq_nil_of_length_eq_zero h0
   have hy:ys=[]:=List.eq_nil_of_length_eq_zero (by omega);subst hx;subst hy;clear ha hb;go_enter Try.func41,Try.ntmps41;go_wp2
   go_loopg [13] 0 (fun g i wr=>i=.int .i64 0/\wr=w)
   case atStart=>exact⟨rfl,rfl⟩
   obtain⟨rfl,rfl⟩:=hrel;go_wp2;go_ret;exact⟨yY rfl,0,rfl⟩
  obtain⟨ab,ao,ac',e,_,_,_,h4⟩:=ha.some_ (by rw[yB];omega);simp only[Value.slice.injEq]at e;obtain⟨rfl,-,-⟩:=e;obtain⟨bb,bo,bc',e,_,_,_,h3⟩:=hb.some_ (by rw[yB];omega);simp only[Value.slice.injEq]at e;obtain⟨rfl,-,-⟩:=e;obtain⟨RA,RB,HL⟩:=K3 h4 h3 hl;clear ha hb h4 h3;rw[<-hl];clear hl;go_enter Try.func41,Try.ntmps41;go_wp2
  go_loopg [13] xs.length (fun g i wr=>∃k:Nat,g+k=xs.length/\i=.int .i64 k/\xs.take k=ys.take k/\∃m,wr=w.drewN m)
  case atStart=>exact⟨0,rfl,rfl,rfl,0,rfl⟩
  obtain⟨k,hg,rfl,h5,m,rfl⟩:=hrel;have HG:=Kh hg;have OK:=Kh h5;clear hg h5;by_cases hk:k<xs.length
  ·have h7:(k:Int)<xs.length:=by omega
   have ca:=RA.out.boolQ k hk;have cb:=RB.out.boolQ k (by have:=HL.out;omega);obtain⟨z,hz⟩:=Nm (xs.getD k false);obtain⟨u,hu⟩:=Nm (ys.getD k false);rw[<-hz]at ca;rw[<-hu]at cb;have HZ:=Kh hz;have HU:=Kh hu;clear hz hu;by_cases hzu:z=u
   ·have HN:Hid (xs.take (k+1)=ys.take (k+1)):=Kh (by rw[mP hk,mP (by have:=HL.out;omega),OK.out,<-HZ.out,<-HU.out,hzu])
    subst hzu;have e1:(z != z)=false:=by simp
    go_wp2
    go_quiet (fail)
    go_wp2;go_roundg (xs.length-(k+1))
    case measure=>have:=HG.out;omega
    exact⟨k+1,by omega,by go_num,HN.out,_,rfl⟩
   have HN:Hid (decide (xs=ys)=false):=Kh (by rw[decide_eq_false_iff_not];rintro rfl;exact hzu (by rw[HZ.out,HU.out]));cases z<;>cases u
   case false.false=>exact absurd rfl hzu
   case true.true=>exact absurd rfl hzu
   all_goals
    clear hzu;go_wp2
    go_quiet (fail)
    go_wp2;go_ret;exact⟨yY HN.out.symm,_,by rw[World.drewN_drewN]⟩
  have HY:Hid (decide (xs=ys)=true):=by
   have h6:k=xs.length:=by have:=HG.out;omega
   have:=OK.out;rw[List.take_of_length_le (by omega),List.take_of_length_le (by have:=HL.out;omega)]at this;exact Kh (by rw[decide_eq_true_eq];exact this)
  go_wp2;go_ret;exact⟨yY HY.out.symm,m,rfl⟩
 have e1:((xs.length:Int) != (ys.length:Int))=true:=by rw[bne_iff_ne];omega
 have HN:Hid (decide (xs=ys)=false):=Kh (by rw[decide_eq_false_iff_not];rintro rfl;exact hl rfl);clear ha hb;go_enter Try.func41,Try.ntmps41;go_wp2;go_ret;exact⟨yY HN.out.symm,0,rfl⟩
theorem qLS (B C:Nat)(w:World)(va vb:Value)(a b:CntV)(ha:iQ B w va a)(hb:iQ C w vb b):Calls Try.prog 21 #[va,vb] w fun e w'=>e=.returned (.bool (decide (a.idx=b.idx) && decide (a.per=b.per) && decide (a.acc=b.acc)))/\w.grownBy w' none:=by
 obtain⟨a1,a2,a3,rfl,H4,H0,h9⟩:=ha;obtain⟨b1,b2,b3,rfl,h8,h7,h6⟩:=hb;obtain⟨w1,h0⟩:=Nm (w.alloc (.cells #[a1,a2,a3] 28));have g1:w.grownBy w1 none:=by rw[h0];exact Ga w _ none
 have n1:=heap_alloc_new w (.cells #[a1,a2,a3] 28);have h2:w1.heap.size=w.heap.size+1:=by rw[h0];simp
 obtain⟨w2,h1⟩:=Nm (w1.alloc (.cells #[b1,b2,b3] 28));have g2:w1.grownBy w2 none:=by rw[h1];exact Ga w1 _ none
 have n2:=heap_alloc_new w1 (.cells #[b1,b2,b3] 28);rw[<-h0]at n1;rw[<-h1,h2]at n2;obtain⟨P,hP⟩:=Nm w.heap.size;rw[<-hP]at n1 n2;obtain⟨p0,p1,p2⟩:=vS (zB n1 g2);obtain⟨q0,q1,q2⟩:=vS n2;have hg:=zC g1 g2;have H1:=Kh (fun(W:World) (h:w.grownBy W none)=>lV B C W a1 b1 a.idx b.idx (H4.kept h (by simp)) (h8.kept h (by simp)));have H2:=Kh (fun(W:World) (h:w.grownBy W none)=>lV B C W a2 b2 a.per b.per (H0.kept h (by simp)) (h7.kept h (by simp)));have H3:=Kh (fun(W:World) (h:w.grownBy W none)=>qJK B C W a3 b3 a.acc b.acc (h9.kept h (by simp)) (h6.kept h (by simp)));obtain⟨d1,h5⟩:=Nm (decide (a.idx=b.idx));obtain⟨d2,h4⟩:=Nm (decide (a.per=b.per));obtain⟨d3,h3⟩:=Nm (decide (a.acc=b.acc));rw[<-h5]at H1⊢;rw[<-h4]at H2⊢;rw[<-h3]at H3⊢;obtain⟨HG,H6,H5,HP⟩:=K4 hg h0 h1 hP;clear H4 H0 h9 h8 h7 h6 h0 h1 g1 g2 n1 n2 h2 hP hg h5 h4 h3;go_enter Try.func21,Try.ntmps21;go_upto_region 1 with fail;rw[<-H6.out,<-HP.out,<-H5.out];go_wp2_with fail;refine(H1.out w2 HG.out).mono ?_;rintro e w3 ⟨rfl,m3,rfl⟩;have HD:Hid (∀q,w.grownBy (w2.drewN q) none):=Kh (fun q=>zC HG.out (zT w2 q none));cases d1 with
 | false =>
  go_wp2;go_ret;exact⟨rfl,HD.out _⟩
 | true =>
  go_wp2_with fail;refine(H2.out _ (HD.out _)).mono ?_;rintro e w4 ⟨rfl,m4,rfl⟩;cases d2 with
  | false =>
   go_wp2;go_ret;exact⟨rfl,HD.out _⟩
  | true =>
   go_wp2_with fail;refine(H3.out _ (HD.out _)).mono ?_;rintro e w5 ⟨rfl,m5,rfl⟩;cases d3 with
   | false =>
    go_wp2;go_ret;exact⟨rfl,HD.out _⟩
   | true =>
    go_wp2;go_ret;exact⟨rfl,HD.out _⟩
open Go.Maps
theorem dF {w:World}{p e:Nat}{z0 z1 z2:Value}(h:w.heap[p]?=some (.cells #[z0,z1,z2] e (0,0)))(x0 x1 x2:Value):(((w.setCell ⟨p,0,none⟩ x0).setCell ⟨p,1,none⟩ x1).setCell ⟨p,2,none⟩ x2).heap[p]?=some (.cells #[x0,x1,x2] e (0,0))/\w.grownBy (((w.setCell ⟨p,0,none⟩ x0).setCell ⟨p,1,none⟩ x1).setCell ⟨p,2,none⟩ x2) (some p):=by
 have s0:=heap_setCell_same w p 0 _ _ x0 h;have s1:=heap_setCell_same _ p 1 _ _ x1 s0;have s2:=heap_setCell_same _ p 2 _ _ x2 s1;refine⟨by rw[s2];simp,?_⟩;have t:=fun(W:World) (i:Nat) (u:Value)=>zF W ⟨p,i,none⟩ u;exact zH (zH (t _ 0 _) (t _ 1 _)) (t _ 2 _)
theorem qDF (B:Nat)(w:World)(v:Value)(I:SynI)(a6:B<=w.heap.size)(h:qAW B w v I):Calls Try.prog 16 #[v] w (qQG I w):=by
 obtain⟨vT,vW,vI,vA,vP,rfl,hT,hW,hI,hA,hP⟩:=id h;obtain⟨tA,tC,rfl⟩:=hT.shape;obtain⟨wA,wC,rfl⟩:=hW.shape;obtain⟨iA,iC,rfl⟩:=hI.shape;obtain⟨aA,aC,rfl⟩:=hA.shape;obtain⟨pA,pC,rfl⟩:=hP.shape;obtain⟨n,hn⟩:=Nm I.tab.length;obtain⟨wn,n0⟩:=Nm ((rQ I.words).length);obtain⟨k,hk⟩:=Nm I.images.length;obtain⟨an,i8⟩:=Nm I.accept.length;obtain⟨pn,c5⟩:=Nm ((bls I.plus).length);rw[<-hn,<-n0,zN,<-hk,yB,<-i8,<-c5]at h⊢;rw[<-hn]at hT;rw[zN,<-hk]at hI;rw[yB,<-i8]at hA;obtain⟨w1,c3⟩:=Nm (w.alloc (.cells #[.int .i64 I.k,.slice tA n tC,.slice wA wn wC,.slice iA k iC,.slice aA an aC,.slice pA pn pC] 44));have g1:w.grownBy w1 none:=by rw[c3];exact Ga w _ none
 have n1:=heap_alloc_new w (.cells #[.int .i64 I.k,.slice tA n tC,.slice wA wn wC,.slice iA k iC,.slice aA an aC,.slice pA pn pC] 44);have g9:w1.heap.size=w.heap.size+1:=by rw[c3];simp
 rw[<-c3]at n1;obtain⟨w2,i3⟩:=Nm (w1.alloc (.cells #[.slice none 0 0,.slice none 0 0,.slice none 0 0] 28));have g2:w1.grownBy w2 none:=by rw[i3];exact Ga w1 _ none
 have n2:=heap_alloc_new w1 (.cells #[.slice none 0 0,.slice none 0 0,.slice none 0 0] 28);rw[<-i3,g9]at n2;obtain⟨P,l5⟩:=Nm w.heap.size;rw[<-l5]at n1 n2;have k6:=zB n1 g2;have i5:=zC g1 g2;obtain⟨ik,o4⟩:=Nm I.k;rw[<-o4]at c3 k6 h⊢;have t7:=Kh (h.kept i5);have HT:Hid (∀W:World,w.grownBy W none->Mat B W (.slice tA n tC) I.tab):=Kh (fun W hg=>hT.kept hg (by simp));have HI:Hid (∀W:World,w.grownBy W none->Row B W (.slice iA k iC) (ints I.images)):=Kh (fun W hg=>hI.kept hg (by simp));have HA:Hid (∀W:World,w.grownBy W none->Row B W (.slice aA an aC) (bls I.accept)):=Kh (fun W hg=>hA.kept hg (by simp));obtain⟨q7,c2,HG,s8,s7,f3⟩:=K6 k6 n2 i5 c3 i3 l5;obtain⟨HN,HK,m8⟩:=K3 hn hk i8;have HV:=Kh (qGS B w2 _ I (Nat.le_trans a6 i5.size) t7.out);clear h hT hW hI hA hP hn n0 hk i8 c5 o4 g1 n1 g9 g2 n2 k6 i5 c3 i3 l5;go_enter Try.func16,Try.ntmps16;go_upto_region 1 with fail;rw[<-s8.out,<-f3.out,<-s7.out];obtain⟨q0,q1,q2,q3,q4,q5⟩:=zY q7.out;go_wp2_with fail;refine HV.out.mono ?_;rintro e w3 ⟨⟨z,rfl,hz⟩,i7⟩;have j0:=Kh (zC HG.out i7);have g8:=Kh (zB q7.out i7);have h6:=Kh (zB c2.out i7);obtain⟨p0,p1,p2⟩:=vS h6.out;have f0:=zA h6.out 0;have f1:=zA h6.out 1;have f2:=zA h6.out 2;clear i7 HV q0 q1 q2 q3 q4 q5;rcases hz with ⟨rfl,h3⟩|⟨rfl,hnv⟩
 case inr =>
  have t5:=Kh hnv;clear hnv;go_wp2;refine bodyPost_ret (v:=.tuple #[.agg #[.slice none 0 0,.slice none 0 0,.slice none 0 0],.int .i64 8]) (by simp[results,Try.results16,go_sem,p0,p1,p2]) rfl ?_;obtain⟨j5,H2⟩:=dF h6.out (.slice none 0 0) (.slice none 0 0) (.slice none 0 0);exact⟨.inl ⟨8,rfl,.inl ⟨rfl,t5.out⟩⟩,zC j0.out H2 (fun j e=>by have e:P+1=j:=Oj e;have:=f3.out;omega)⟩
 have b9:=Kh h3;have b0:=Kh h3.tab;have h2:=Kh (lU h3.1);clear h3;obtain⟨q0,q1,q2,q3,q4,q5⟩:=zY g8.out;have m3:=Kh (qOX B w3 _ I.tab (Nat.le_trans a6 j0.out.size) (HT.out _ j0.out) b0.out.1 b0.out.2);obtain⟨cb,k3⟩:=Nm (kP I.tab);rw[<-k3]at m3;have c0:=Kh k3;clear k3;go_wp2_with fail;refine m3.out.mono ?_;rintro e w4 ⟨rfl,i6⟩;have f5:=Kh (zC j0.out i6);have g7:=Kh (zB g8.out i6);have h5:=Kh (zB h6.out i6);clear i6 m3 q0 q1 q2 q3 q4 q5 p0 p1 p2 f0 f1 f2;obtain⟨p0,p1,p2⟩:=vS h5.out;have f0:=zA h5.out 0;have f1:=zA h5.out 1;have f2:=zA h5.out 2;cases cb with
 | false =>
  go_wp2;refine bodyPost_ret (v:=.tuple #[.agg #[.slice none 0 0,.slice none 0 0,.slice none 0 0],.int .i64 20]) (by simp[results,Try.results16,go_sem,p0,p1,p2]) rfl ?_;obtain⟨j5,H2⟩:=dF h5.out (.slice none 0 0) (.slice none 0 0) (.slice none 0 0);exact⟨.inl ⟨20,rfl,.inr (.inl ⟨rfl,b9.out,c0.out.symm⟩)⟩,zC f5.out H2 (fun j e=>by have e:P+1=j:=Oj e;have:=f3.out;omega)⟩
 | true =>
  clear p0 p1 p2 f0 f1 f2;have r8:(k:Int)=I.k:=by rw[HK.out];exact h2.out.2.1.2.2.2
  have o3:1<=k:=by have:=h2.out.1.1;omega
  have y8:k<=6:=by have:=h2.out.1.2.1;omega
  have r7:n<=400:=by rw[HN.out];exact h2.out.1.2.2.2
  clear r8;obtain⟨ib,io,ic,ei,_,i1,i2,ir⟩:=(HI.out _ f5.out).some_ (by rw[zN,<-HK.out];exact o3);obtain⟨tb,tf,tc,RB,RO,RC,et,t1,t2,hq⟩:=(HT.out _ f5.out).sq b0.out.1;obtain⟨ab,ao,ac,ea,_,a1,a2,ar⟩:=(HA.out _ f5.out).some_ (by rw[yB,h2.out.2.1.2.1,<-HN.out];have:=h2.out.1.2.2.1;have:=HN.out;omega);simp only[Value.slice.injEq]at ei et ea;obtain⟨rfl,g9,rfl⟩:=ei;obtain⟨rfl,r3,rfl⟩:=et;obtain⟨rfl,q9,rfl⟩:=ea;rw[zN,<-HK.out]at i1;rw[<-HN.out]at t1;rw[yB,<-m8.out]at a1;have t2':tC<=9223372036854775807:=by unfold maxLen at t2;omega
  unfold maxLen at i2 a2;obtain⟨IR,HQ,AR⟩:=K3 ir hq ar;have k7:an=n:=by rw[m8.out,h2.out.2.1.2.1,HN.out]
  subst k7;obtain⟨w5,i0⟩:=Nm (w4.alloc (.cells #[.slice none 0 0,.slice none 0 0,.slice none 0 0] 28));have h7:w4.grownBy w5 none:=by rw[i0];exact Ga w4 _ none
  have k5:=heap_alloc_new w4 (.cells #[.slice none 0 0,.slice none 0 0,.slice none 0 0] 28);obtain⟨o,ho⟩:=Nm w4.heap.size;rw[<-i0,<-ho]at k5;have p5:BoxS w4.heap.size (fun _=>False) o 28 w4 w5 [] #[.slice none 0 0,.slice none 0 0,.slice none 0 0] w5:=⟨⟨fun r hr=>by simp at hr,List.Pairwise.nil,fun r hr=>by simp at hr,fun k hk=>hk.elim⟩,fun r hr=>by simp at hr,k5,fun h=>h,Nat.le_refl _,by rw[ho];exact Nat.le_refl _,h7.size,h7,xX.refl _ _,Nat.le_refl _⟩;obtain⟨q0,q1,q2,q3,q4,q5⟩:=zY (zB g7.out h7);obtain⟨t0,s6,HO,z9⟩:=K4 p5 i0 ho h7;have g0:Hid (∀W:World,w4.grownBy W none->W.heap[P]?=some (.cells #[.int .i64 ik,.slice (some ⟨tb,tf,none⟩) an tC,.slice wA wn wC,.slice (some ⟨ib,io,none⟩) k iC,.slice (some ⟨ab,ao,none⟩) an aC,.slice pA pn pC] 44 (0,0))/\w.grownBy W none):=Kh (fun W hW=>⟨zB g7.out hW,zC f5.out hW⟩);clear ir hq ar g9 r3 q9 i0 h7 k5 p5 ho HI HT HA;go_upto_region 7 with fail;rw[<-s6.out,<-HO.out];go_upto_region 8 with (first|(at_make;refine bN rfl _ _ _ rfl wP rfl .i64 .i64 _ _ k rfl rfl rfl rfl ?b1 ?b2 ?_;(case b1=>omega);(case b2=>(unfold maxLen;omega));intro w6 h1 c6 b6)|fail);obtain⟨pg,n8⟩:=Nm w5.heap.size;have l4:=((t0.out.add c6 h1 (by decide)).nil (e:=3) (sz:=1) (by decide)).nil (e:=3) (sz:=1) (by decide);rw[<-n8]at l4⊢;have m5:Hid (CoS I w4 o k pg (List.replicate k (.slice none 0 0)) [] [] none 0 none 0 (.slice none 0 0) [] w6):=Kh ⟨_,l4.rebase,xW.nil⟩;obtain⟨q0,q1,q2,q3,q4,q5⟩:=zY (g0.out w6 m5.out.g).1;clear h1 c6 b6 l4 n8;go_wp2
  go_loopg [7,8,9,10,35] k (fun gh a7 a8 a9 a10 a35 wr=>∃(a:Nat) (c4:List Value) (Ls js:List Nat) (sI:Option Addr) (cI:Nat) (sP:Option Addr) (cP:Nat),gh+a=k/\a35=.int .i64 a/\PowsR I Ls js a/\CoS I w4 o k pg c4 Ls js sI cI sP cP (.slice none 0 0) [] wr)
  case atStart=>exact⟨0,_,[],[],none,0,none,0,rfl,rfl,⟨rfl,rfl,fun b hb=>by omega⟩,m5.out⟩
  clear m5 q0 q1 q2 q3 q4 q5;obtain⟨a,c4,Ls,js,sI,cI,sP,cP,o6,rfl,H9,H3⟩:=hrel;have m1:=Kh o6;have c9:=Kh H9;have h0:=H3.g;obtain⟨o9,H1⟩:=g0.out wr h0;obtain⟨q0,q1,q2,q3,q4,q5⟩:=zY o9;clear o6 o9;by_cases ha:a<k
  ·have s2:(a:Int)<k:=by omega
   obtain⟨x,ex,d5⟩:=qAN h2.out.2.2.2 (i:=a) (by rw[<-HK.out];exact ha);have ci:=(IR.out.kept h0 (by simp)).int a (by rw[<-HK.out];exact ha);rw[ex]at ci
   have i9:Hid ((imI I).getD a 0=x):=Kh (by
    rw[imI,xR (x:=0) (by rw[<-HK.out];exact ha),ex,Int.toNat_natCast])
   have l8:=Kh (qBV B wr tb tf tC RB RO RC I.tab x (by have:=H1.size;omega) (HQ.out.kept h0 (by simp)) b0.out.1 (by rw[<-HN.out];exact t1) t2' d5);rw[<-HN.out]at l8;have H4:Ls.length=a:=H9.l1;obtain⟨_,e9,e4,_,_⟩:=H3.cells;have h9:=Kh H3;have q8:=Kh e9;clear ex d5 H3 h0 H1 H9 e9;go_wp2_with fail;refine l8.out.mono ?_;rintro e w7 ⟨L,j,sa,sc,hR,rfl,b5,e5⟩;obtain⟨X,hB,hT⟩:=h9.out;rw[H4]at hB hT;have l6:=hB.fresh e5 (Y:=fun q=>(Value.slice sa L sc).ownBlock=some q) (fun q hq=>b5.lt q hq);have l3:=(hT.kept (hB.mem.keep e5) e5.size).mono (X':=fun q=>X q\/(Value.slice sa L sc).ownBlock=some q) (fun q hq=>.inl hq);have k9:RowX (fun q=>X q\/(Value.slice sa L sc).ownBlock=some q) 3 w7 (.slice sa L sc) (nats (uG I.tab x L)):=RowX.of_owns b5 (fun q hq=>.inr hq);obtain⟨X1,e8⟩:=Nm ((fun q=>X q\/(Value.slice sa L sc).ownBlock=some q));rw[<-e8]at l6 l3 k9;have b8:=l6.put (j:=0) rfl ha (.slice sa L sc);have l0:=l3.kept b8.kept b8.wk;have k8:=k9.kept b8.kept b8.wk;have l7:=q8.out.kept e5 (by simp);have c7:=l7.cell a (by omega);have f7:=l7.frozen a;obtain⟨u7,n3⟩:=Nm (c4[a]'(by omega));rw[<-n3]at c7;obtain⟨w8,j3⟩:=Nm (w7.setCell ⟨pg,a,none⟩ (.slice sa L sc));rw[<-j3]at b8 l0 k8;have c2:=Kh b8.rebase;obtain⟨q6,p7,HR,s5,t8,b3⟩:=K6 l0 k8 hR j3 e4 H4;clear hR b5 e5 hB hT l6 l3 k9 e8 b8 l0 k8 l7 n3 j3 e4 l8 h9 q8 q0 q1 q2 q3 q4 q5 ci H4;go_upto_region 13 with fail;rw[<-s5.out];clear c7 f7;have d0:=zG c2.out.box 0;simp only[List.getElem_toArray,List.getElem_cons_zero,List.getElem_cons_succ]at d0;have a4:=c2.out.own (r:=⟨w4.heap.size,3,.slice sI a cI,a,nats js,1⟩) (by simp);simp only at a4;have m9:w4.heap.size<=w8.heap.size:=c2.out.grown.size;go_upto_region 14 with (first|(at_builtin;refine qX rfl _ _ _ rfl yJ.toN w4.heap.size (.slice sI a cI) a (nats js) rfl a4 [.int .i64 (j:Int)] rfl rfl ?z1 ?z2 ?z3 ?z4 ?_;(case z1=>(intro v hv;simp only[List.mem_cons,List.not_mem_nil,or_false]at hv;subst hv;rfl));(case z2=>(unfold maxLen;omega));(case z3=>(show (a+1)*8<=140737488355328;omega));(case z4=>exact m9);intro sI2 cI2 w9 a0 o8 n9;(have j2:=Kh (c2.out.appAt (j:=1) rfl a0 o8 n9));(have d9:=zG j2.out.box 0);(simp only[List.getElem_toArray,List.getElem_cons_zero,List.getElem_cons_succ]at d9);(have f9:=zA j2.out.box 0))|fail);obtain⟨w10,d7⟩:=Nm (w9.setCell ⟨o,0,none⟩ (.slice sI2 (a+1) cI2));have a5:=j2.out.set 0 (.slice sI2 (a+1) cI2);rw[<-d7]at a5⊢;simp only[sPa,sPb,sPc]at a5;have p9:=Kh (q6.out.kept a5.kept a5.wk);have p6:=Kh (p7.out.kept a5.kept a5.wk);have g5:=Kh a5.rebase;obtain⟨d,hd⟩:=Nm (L-j)
   have s3:L<=an:=by rw[HN.out];exact fQ b0.out.1 (by
    obtain⟨y,ey,hy⟩:=qAN h2.out.2.2.2 (i:=a) (by rw[<-HK.out];exact ha);rw[imI,xR (x:=0) (by rw[<-HK.out];exact ha),ey,Int.toNat_natCast]at i9
    rw[<-i9.out];exact hy) HR.out.1
   have y9:=HR.out.2.1;have edi:(L:Int)-(j:Int)=(d:Int):=by omega
   have edw:wrap64 ((L:Int)-(j:Int))=(L:Int)-(j:Int):=IntWalk.wrap64_in _ (by omega);have d1:=zG g5.out.box 1;simp only[List.getElem_toArray,List.getElem_cons_zero,List.getElem_cons_succ]at d1;have a3:=g5.out.own (r:=⟨w4.heap.size,3,.slice sP a cP,a,nats (perL Ls js),1⟩) (by simp);simp only at a3;have d4:w4.heap.size<=w10.heap.size:=g5.out.grown.size;have HD:=Kh hd;have x4:=Kh edi;clear a5 d7 d0 d9 f9 a4 m9 a0 o8 n9 j2 q6 p7 c2 hd edi;go_upto_region 15 with (first|(at_builtin;refine qX rfl _ _ _ rfl yJ.toN w4.heap.size (.slice sP a cP) a (nats (perL Ls js)) rfl a3 [.int .i64 ((L:Int)-(j:Int))] rfl rfl ?y1 ?y2 ?y3 ?y4 ?_;(case y1=>(intro v hv;simp only[List.mem_cons,List.not_mem_nil,or_false]at hv;subst hv;rfl));(case y2=>(unfold maxLen;clear edw;omega));(case y3=>(show (a+1)*8<=140737488355328;clear edw;omega));(case y4=>exact d4);intro sP2 cP2 w11 H0 e6 d8;(have j1:=Kh (g5.out.appAt (j:=2) rfl H0 e6 d8));(have d9:=zG j1.out.box 1);(simp only[List.getElem_toArray,List.getElem_cons_zero,List.getElem_cons_succ]at d9);(have f9:=zA j1.out.box 1))|fail);obtain⟨w12,d6⟩:=Nm (w11.setCell ⟨o,1,none⟩ (.slice sP2 (a+1) cP2));have H7:=j1.out.set 1 (.slice sP2 (a+1) cP2);rw[<-d6]at H7⊢;simp only[sPa,sPb,sPc]at H7;have p4:=p9.out.kept H7.kept H7.wk;have p3:=p6.out.kept H7.kept H7.wk
   have x6:Hid (CoS I w4 o k pg (c4.set a (.slice sa L sc)) (Ls++[L]) (js++[j]) sI2 cI2 sP2 cP2 (.slice none 0 0) [] w12):=Kh (by
    have e1:nats js++[.int .i64 (j:Int)]=nats (js++[j]):=by simp[nats]
    have e2:nats (perL Ls js)++[.int .i64 ((L:Int)-(j:Int))]=nats (perL (Ls++[L]) (js++[j])):=by
     rw[x4.out,qJW L j (by rw[c9.out.l1,c9.out.l2]),HD.out];simp[nats]
    have e3:a+1=(Ls++[L]).length:=by rw[List.length_append,List.length_singleton,b3.out]
    rw[e1,e2,e3]at H7;refine⟨X1,H7.rebase,?_⟩;rw[<-e3,qHG,b3.out,i9.out,List.take_add_one,List.getElem?_set_self (by have:=t8.out;omega),List.take_set_of_le (Nat.le_refl _)]
    exact p4.snoc p3)
   have t3:Hid (PowsR I (Ls++[L]) (js++[j]) (a+1)):=Kh (c9.out.add (by rw[i9.out];exact HR.out));clear H7 p4 p3 d6 d1 d9 f9 a3 d4 H0 e6 d8 j1 g5 p9 p6 edw;go_wp2;go_roundg (k-(a+1))
   case measure=>have:=m1.out;omega
   exact⟨a+1,_,_,_,_,_,_,_,by have:=m1.out;omega,by go_num,t3.out,x6.out⟩
  have s1:k=a:=by have:=m1.out;omega
  have s2:¬(a:Int)<k:=(by omega);subst s1;have t4:=Kh H9.posC;have H4:Ls.length=k:=H9.l1;have b7:js.length=k:=H9.l2;obtain⟨H6,e9,e4,a4,a3⟩:=H3.cells;rw[H4]at H6 a4 a3;have b4:=qGF wr.heap.size wr (.slice sI k cI) (.slice sP k cP) (.slice none 0 0) (vO js) (vO (perL Ls js)) (by rw[kG];exact Row.of_owns a4) (by rw[kG];exact Row.of_owns a3) (by rw[uS,uS,uT,H4,b7]) t4.out (by rw[uS,b7];exact o3);have x9:=Kh H6;have h9:=Kh H3;have m7:=Kh (zB h5.out h0);obtain⟨x0,x3,b3,z7⟩:=K4 H1 h0 H4 b7;obtain⟨o0,o1,o2⟩:=vS H6;have l9:Hid (k=I.images.length):=HK;rcases hct:vQ (vO js) (vO (perL Ls js)) k with _|c
  ·obtain⟨e1,e2⟩:=qDD hct (by rw[uS,b7];exact Nat.le_refl _)
   rw[e1,e2]at b4;have t6:Hid (qMJ I):=Kh ⟨Ls,js,by rw[<-l9.out];exact c9.out,by rw[<-l9.out];exact hct⟩;have b4:=Kh b4;clear e1 e2 hct H6 e9 e4 a4 a3 H3 h0 H1 H4 b7 H9;go_wp2_with fail;refine b4.out.mono ?_;rintro e w5 ⟨rfl,h7⟩;have f8:=Kh (zB m7.out h7);have t9:=Kh (zC x0.out h7);obtain⟨p0,p1,p2⟩:=vS f8.out;have f0:=zA f8.out 0;have f1:=zA f8.out 1;have f2:=zA f8.out 2;clear h7;go_wp2;refine bodyPost_ret (v:=.tuple #[.agg #[.slice none 0 0,.slice none 0 0,.slice none 0 0],.int .i64 3]) (by simp[results,Try.results16,go_sem,p0,p1,p2]) rfl ?_;obtain⟨j5,H2⟩:=dF f8.out (.slice none 0 0) (.slice none 0 0) (.slice none 0 0);exact⟨.inl ⟨3,rfl,.inr (.inr ⟨rfl,b9.out,c0.out.symm,t6.out⟩)⟩,zC t9.out H2 (fun j e=>by have e:P+1=j:=Oj e;have:=f3.out;omega)⟩
  obtain⟨e1,e2⟩:=dA (idx:=vO js) (per:=vO (perL Ls js)) (c:=c) (by rw[uS,b7];exact hct);rw[e1,e2]at b4;have s0:=pZ hct;have x7:=Kh hct;have b4:=Kh b4;clear e1 e2 hct H6 e9 e4 a4 a3 H3 h0 H1 H4 b7 H9;go_wp2_with fail;refine b4.out.mono ?_;rintro e w5 ⟨rfl,h7⟩;have m6:=Kh (h9.out.grow h7);clear h7 o0 o1 o2 q0 q1 q2 q3 q4 q5;have H6:=m6.out.cells.1;rw[b3.out]at H6;have g3:=Kh H6;clear H6;go_upto_region 20 with (first|(at_make;refine bN rfl _ _ _ rfl wX rfl .i64 .i64 _ _ c rfl rfl rfl rfl ?b1 ?b2 ?_;(case b1=>omega);(case b2=>(unfold maxLen;omega));intro w6 h1 c6 b6;(have k4:=zB g3.out c6);(obtain⟨d0,d1,d2⟩:=vS k4);(have f2:=zA k4 2))|fail);obtain⟨ag,c8⟩:=Nm w5.heap.size;obtain⟨w7,j4⟩:=Nm (w6.setCell ⟨o,2,none⟩ (.slice (some ⟨w5.heap.size,0,none⟩) c c));rw[show List.replicate c (Value.bool false)=bls (List.replicate c false) by simp[bls],<-c8,<-qHQ I Ls k c]at h1
  have m4:Hid (CoS I w4 o k pg c4 Ls js sI cI sP cP (.slice (some ⟨ag,0,none⟩) c c) [⟨w4.heap.size,4,.slice (some ⟨ag,0,none⟩) c c,c,bls (iE I Ls k c 0),1⟩] w7):=Kh (by
   rw[j4,<-c8];have:=m6.out.begin (ag:=ag) (c:=c) (xs:=iE I Ls k c 0) c6 (by rw[c8];rw[c8]at h1;exact h1)
   exact this)
  rw[<-j4,<-c8];clear h1 c6 b6 k4 d0 d1 d2 f2 c8 j4 g3 m6 h9 x9;obtain⟨o0,o1,o2⟩:=vS m4.out.cells.1;clear o0 o1;go_wp2
  go_loopg [13,14,15,16,81] c (fun gh a13 a14 a15 a16 a81 wr=>∃i:Nat,gh+i=c/\a81=.int .i64 i/\CoS I w4 o k pg c4 Ls js sI cI sP cP (.slice (some ⟨ag,0,none⟩) c c) [⟨w4.heap.size,4,.slice (some ⟨ag,0,none⟩) c c,c,bls (iE I Ls k c i),1⟩] wr)
  case atStart=>exact⟨0,rfl,rfl,m4.out⟩
  clear m4 o2;obtain⟨i,o5,rfl,H3⟩:=hrel;have m0:=Kh o5;have h9:=Kh H3;clear o5 H3;by_cases hi:i<c
  ·have r9:(i:Int)<c:=by omega
   go_wp2
   go_loopg [14,15,16] k (fun gh a14 a15 a16 wx=>∃(b r v q:Nat) (z:Int),gh=b/\a14=.int .i64 (r:Int)/\a15=.int .i64 (v:Int)/\a16=.int .i64 z/\z=(b:Int)-1/\b<=k/\r<=2000/\v<an/\valC I.tab (imI I) Ls b r v=valC I.tab (imI I) Ls k i 0/\wx=wr.drewN q)
   case atStart=>exact⟨k,i,0,0,(k:Int)-1,rfl,rfl,rfl,by go_num,rfl,Nat.le_refl _,by omega,by have:=h2.out.1.2.2.1;have:=HN.out;omega,rfl,rfl⟩
   obtain⟨b,r,v,q,z,o7,rfl,rfl,rfl,hz,z0,hr,hv,h3,rfl⟩:=hrel;have p8:=Kh h3;have x2:=Kh o7;have H5:=h9.out.grow (zT wr q none);have x8:=Kh H5;clear h3 o7;rcases b with _|b
   ·obtain rfl:z = -1:=by omega
    have h4:=H5.g;obtain⟨q0,q1,q2,q3,q4,q5⟩:=zY (g0.out _ h4).1;have e0:v=valC I.tab (imI I) Ls k i 0:=p8.out;have c1:=(AR.out.kept h4 (by simp)).boolQ v (by rw[<-m8.out];exact hv);have x5:=Kh e0;clear H5 h4 e0 hz q0 q1 q2 q3 q5;go_upto_region 29 with fail;refine qRM x8.out hi s0 hv r7 ⟨a1,a2⟩ q4 c1 ?_;intro z119 z120 z121 z122 z123 z124 z125 z126 z127 w8 h8;rw[x5.out,qKX hi]at h8;have H8:=Kh h8;clear h8 c1 q4;go_wp2;go_roundg (c-(i+1))
    case measure=>have:=m0.out;omega
    exact⟨i+1,by have:=m0.out;omega,by go_num,H8.out⟩
   obtain rfl:z=(b:Int):=by omega
   have h4:=h9.out.g;obtain⟨q0,q1,q2,q3,q4,q5⟩:=zY (g0.out _ h4).1;have e7:b<k:=(by omega);obtain⟨c5,n7,_⟩:=c9.out.pow b (by exact e7);obtain⟨rb,ro,rc,cr,rc1,rc2,cel⟩:=h9.out.row (b:=b) (by rw[b3.out];exact e7) (by omega) (by rw[b3.out];exact Nat.le_refl _);obtain⟨L,hL⟩:=Nm (Ls.getD b 0);rw[<-hL]at cr rc1 cel n7 c5;have s4:0<L:=by omega
   have k0:(imI I).getD b 0<I.tab.length:=by
    obtain⟨y,ey,hy⟩:=qAN h2.out.2.2.2 (i:=b) (by rw[<-HK.out];exact e7);rw[imI,xR (x:=0) (by rw[<-HK.out];exact e7),ey,Int.toNat_natCast];exact hy
   have s3:L<=an:=by rw[HN.out];exact fQ b0.out.1 k0 c5
   obtain⟨t,ht⟩:=Nm (r % L);obtain⟨s,hs⟩:=Nm (r / L);have n4:t<L:=(by rw[ht];exact Nat.mod_lt _ s4);have r5:s<=r:=by rw[hs];exact Nat.div_le_self _ _
   have ce:=cel t n4;obtain⟨x,hx⟩:=Nm (powN I.tab ((imI I).getD b 0) t);rw[<-hx]at ce;have d5:x<an:=(by rw[hx,HN.out];exact qAD b0.out.1 k0 t);have i4:=HQ.out.kept h4 (row:=none) (by simp);have cv:=i4.hd v (by rw[<-HN.out];exact hv);have cx:=i4.el v x (by rw[<-HN.out];exact hv) (by rw[<-HN.out];exact d5);have cc:=i4.cap v (by rw[<-HN.out];exact hv);rw[<-HN.out]at cv cc;obtain⟨y,hy⟩:=Nm (entN I.tab v x);rw[<-hy]at cx;have r4:y<an:=(by rw[hy,HN.out];exact pO b0.out.1 (by rw[<-HN.out];exact hv) (by rw[<-HN.out];exact d5));have s9:Hid (valC I.tab (imI I) Ls b s y=valC I.tab (imI I) Ls k i 0):=Kh (by rw[<-p8.out,valC,<-hL,<-ht,<-hx,<-hy,<-hs]);have f4:(r:Int).tmod (L:Int)=(t:Int):=by rw[ht];exact Int.ofNat_tmod r L
   have g4:(r:Int).tdiv (L:Int)=(s:Int):=by rw[hs];exact Int.ofNat_tdiv r L
   have f6:IntKind.i64.wrap (t:Int)=(t:Int):=wG (by omega);have g6:wrap64 (s:Int)=(s:Int):=IntWalk.wrap64_in _ (by omega);have y7:¬(L:Int)=0:=by omega
   have z6:(b:Int)<k:=(by omega);have y5:(v:Int)<an:=(by omega);have y0:(x:Int)<an:=(by omega);have y6:(t:Int)<L:=(by omega);have cc1:=cc.1;have cc2:RC v<=9223372036854775807:=by have:=cc.2;unfold maxLen at this;omega
   have rc2':rc<=9223372036854775807:=by unfold maxLen at rc2;omega
   obtain⟨rv,j8⟩:=Nm (RB v);obtain⟨rw',j7⟩:=Nm (RO v);obtain⟨rz,j6⟩:=Nm (RC v);rw[<-j8,<-j7]at cx;rw[<-j8,<-j7,<-j6]at cv;rw[<-j6]at cc1 cc2;have z5:(0:Int)<=b:=by omega
   clear j8 j7 j6 cc rc2 H5 h4 c5 n7 cel hL k0 ht hs hx i4 hy hz q0 q2 q3 q4 q5 n4;go_wp2
   go_quiet (fail)
   clear f4 f6;go_wp2;go_roundg b
   case measure=>have:=x2.out;omega
   exact⟨b,s,y,_,(b:Int)-1,rfl,by go_num,by go_num,by go_num,rfl,Nat.le_of_lt e7,Nat.le_trans r5 hr,r4,s9.out,by first|rfl|exact World.drewN_drewN _ _ _⟩
  have k1:c=i:=by have:=m0.out;omega
  have r9:¬(i:Int)<c:=(by omega);have z8:=Kh k1;obtain⟨o0,o1,o2⟩:=vS h9.out.cells.1;rw[b3.out]at o0 o1;have h0:=h9.out.g;have d3:=Kh (zB h5.out h0);have x1:=Kh (g0.out _ h0).2;obtain⟨r0,r1,r2⟩:=vS d3.out;have f0:=zA d3.out 0;have f1:=zA d3.out 1;have f2:=zA d3.out 2;have k2:=h9.out.cntT;rw[b3.out,<-k1]at k2;have m2:=Kh k2;clear h0 k1 k2;go_wp2;refine bodyPost_ret (v:=.tuple #[.agg #[.slice sI k cI,.slice sP k cP,.slice (some ⟨ag,0,none⟩) c c],.int .i64 0]) (by simp[results,Try.results16,go_sem,r0,r1,r2]) rfl ?_;obtain⟨j5,H2⟩:=dF d3.out (.slice sI k cI) (.slice sP k cP) (.slice (some ⟨ag,0,none⟩) c c)
  have j9:∀e',e'≠28->∀j,(some (P+1):Option Nat)=some j->wr.heap.size<=j\/xG wr e' j:=fun e' he j hj=>by
   have hj:=Oj hj;subst hj;exact .inr ⟨_,_,_,d3.out,fun e1=>he e1.symm⟩
  have hz:=H2.size;have e1:ints (vO js)=nats js:=kG js;have e2:ints (vO (perL Ls js))=nats (perL Ls js):=kG _;have n6:=((m2.out.1.kept H2 (j9 _ (by decide))).mono hz).row;have n5:=((m2.out.2.1.kept H2 (j9 _ (by decide))).mono hz).row;have r6:=((m2.out.2.2.kept H2 (j9 _ (by decide))).mono hz).row;rw[<-e1]at n6;rw[<-e2]at n5;exact⟨.inr ⟨⟨vO js,vO (perL Ls js),iE I Ls k c c⟩,_,rfl,b9.out,c0.out.symm,qFH.make l9.out c9.out x7.out,_,_,_,rfl,n6,n5,r6⟩,zC x1.out H2 (fun j e=>by have e:P+1=j:=Oj e;have:=f3.out;omega)⟩
end Go.Proofs.Ytobakifdllameaa
