/- Part 23 of the proof. -/
import Derived.Test.YtobakifdllameaaQb22
import Derived.Deep.Cut
import Derived.BigQuiet
set_option linter.unusedVariables false
set_option linter.unusedSimpArgs false
set_option maxRecDepth 100000
set_option maxHeartbeats 16000000
namespace Go.Proofs.Ytobakifdllameaa
open Go.RowKit
theorem qH.mono {B B':Nat}{w:World}{v:Value}{c:CntV}(h:qH B w v c)(hB:B<=B'):qH B' w v c:=by
 obtain⟨vi,vp,va,rfl,h1,h2,h3⟩:=h;exact⟨vi,vp,va,rfl,h1.mono hB,h2.mono hB,h3.mono hB⟩
theorem qH.keptR {B:Nat}{w w':World}{v:Value}{c:CntV}{row:Option Nat}(h:qH B w v c)(hg:w.grownBy w' row)(hr:∀k,row=some k->B<=k):qH B w' v c:=by
 obtain⟨vi,vp,va,rfl,h1,h2,h3⟩:=h;exact⟨vi,vp,va,rfl,h1.kept hg hr,h2.kept hg hr,h3.kept hg hr⟩
theorem qPV (w:World)(n i p:Nat)(hn:n<=4000)(hi:i<=2000)(hp:1<=p)(a9:p<=2000):Calls Try.prog 66 #[.int .i64 (n:Int),.int .i64 (i:Int),.int .i64 (p:Int)] w fun e w'=>e=.returned (.int .i64 ((asN n i p:Nat):Int))/\w=w':=by
 obtain⟨x,hx⟩:=Nm (asN n i p);rw[<-hx];have HX:=Kh hx;have h3:x<i+p:=by rw[hx];exact qCO hp
 clear hx;go_enter Try.func66,Try.ntmps66;by_cases hlt:n<i
 ·have h0:(n:Int)<(i:Int):=by omega
  have h2:x=n:=by rw[HX.out,asN,if_pos hlt]
  subst h2;clear hlt;go_wp2;go_ret;trivial
 have h0:¬(n:Int)<(i:Int):=by omega
 obtain⟨d,hd⟩:=Nm (n-i);obtain⟨t,ht⟩:=Nm (d % p);have h1:x=i+t:=by rw[HX.out,asN,if_neg hlt,ht,hd]
 have h4:t<p:=by rw[ht];exact Nat.mod_lt _ (by omega)
 have f3:wrap64 ((i:Int)+((n:Int)-(i:Int)) % (p:Int))=(x:Int):=by
  rw[show (n:Int)-(i:Int)=(d:Int) by omega,show (d:Int) % (p:Int)=(t:Int) by rw[ht];exact(Int.natCast_emod d p).symm,show (i:Int)+(t:Int)=(x:Int) by omega];exact IntWalk.wrap64_in _ (by omega)
 have h5:¬(p:Int)=0:=by omega
 have F3:=Kh f3;clear hd ht h1 hlt f3;go_wp2;go_ret;exact⟨congrArg Ending.returned (congrArg (Value.int .i64) F3.out),rfl⟩
theorem qIS (B:Nat)(w:World)(v vn:Value)(c:CntV)(ns:List Nat)(h:qH B w v c)(a9:CntOk c)(hn:Row B w vn (nats ns))(hl:ns.length=c.idx.length)(hb:∀x∈ns,x<=4000):Calls Try.prog 42 #[v,vn] w fun e w'=>e=.returned (.int .i64 ((atTo c ns c.idx.length:Nat):Int))/\w.grownBy w' none:=by
 obtain⟨vi,vp,va,rfl,hi,hp,ha⟩:=h;obtain⟨k,hk⟩:=Nm c.idx.length;have H3:1<=k:=by rw[hk];exact a9.k1
 have b5:k<=6:=by rw[hk];exact a9.k6
 have h4:c.per.length=k:=by rw[a9.pl,hk]
 obtain⟨ib,io,ic,rfl,_,i1,i2,ir⟩:=hi.some_ (by rw[zK,<-hk];exact H3);obtain⟨pb,po,pc,rfl,_,p1,p2,pr⟩:=hp.some_ (by rw[zK,h4];exact H3);obtain⟨nb,no,nc,rfl,_,n1,n2,nr⟩:=hn.some_ (by simp only[nats,List.length_map];omega);have e9:(nats ns).length=k:=by simp only[nats,List.length_map];omega
 rw[zK,<-hk]at i1⊢;rw[zK,h4]at p1⊢;rw[e9]at n1⊢;unfold maxLen at i2 p2 n2;obtain⟨w1,h3⟩:=Nm (w.alloc (.cells #[.slice (some ⟨ib,io,none⟩) k ic,.slice (some ⟨pb,po,none⟩) k pc,va] 28));have h1:w.grownBy w1 none:=by rw[h3];exact Ga w _ none
 have h5:=heap_alloc_new w (.cells #[.slice (some ⟨ib,io,none⟩) k ic,.slice (some ⟨pb,po,none⟩) k pc,va] 28);obtain⟨P,hP⟩:=Nm w.heap.size;rw[<-h3,<-hP]at h5;obtain⟨q0,q1,q2⟩:=uK h5;have b4:=Kh (ir.kept h1 (by simp));have a8:=Kh (pr.kept h1 (by simp));have b2:=Kh (nr.kept h1 (by simp));obtain⟨H8,a4,b1,HK,H7,b0⟩:=K6 h1 h3 hP hk a9 h4;have HL:=Kh hl;have b3:=Kh hb;clear hi hp ha hn ir pr nr h3 h1 h5 hP q2 hk h4 hl hb a9 e9;go_enter Try.func42,Try.ntmps42;go_upto_region 1 with fail;rw[<-a4.out,<-b1.out];go_wp2
 go_loopg [5,6,10] k (fun gh a5 a6 a10 wr=>∃a q:Nat,gh+a=k/\a10=.int .i64 a/\a5=.int .i64 ((atTo c ns a:Nat):Int)/\wr=w1.drewN q)
 case atStart=>exact⟨0,0,rfl,rfl,rfl,rfl⟩
 obtain⟨a,q,H4,rfl,rfl,rfl⟩:=hrel;have h7:=Kh H4;clear H4;by_cases haN:a<k
 ·have a2:(a:Int)<k:=by omega
  have h2:a<c.idx.length:=(by rw[<-HK.out];exact haN);obtain⟨i,p,ei,ep,a1,H2,a0⟩:=qMH H7.out h2;have ci:=b4.out.int a h2;have cp:=a8.out.int a (by rw[b0.out];exact haN);rw[ei]at ci;rw[ep]at cp;have ca:=b2.out.nat a (by rw[HL.out];exact h2);obtain⟨N,h6⟩:=Nm (ns.getD a 0)
  have a3:N<=4000:=by
   rw[h6,zN (by rw[HL.out];exact h2)];exact b3.out _ (List.getElem_mem _)
  have h0:=qKY (ns:=ns) ei ep;have hK:=qSB H7.out ns (a:=a) (by omega);rw[<-h6]at ca h0;obtain⟨K,H6⟩:=Nm (atTo c ns a);rw[<-H6]at hK h0⊢;have h8:=Kh (fun W=>qPV W N i p a3 a1 H2 a0);obtain⟨r,hr⟩:=Nm (i+p);rw[<-hr]at h0;have H1:r<=4000:=by omega
  obtain⟨x,hx⟩:=Nm (asN N i p);rw[<-hx]at h0 h8;have H9:x<=4000:=by have:=qCO (n:=N) (i:=i) H2;omega
  obtain⟨e1,e2,e3⟩:=lR hK H1;clear e2;obtain⟨m,hm⟩:=Nm (K*r);rw[<-hm]at e1 e3 h0;obtain⟨y,hy⟩:=Nm (m+x);rw[<-hy]at h0;have a7:=Kh h0;have H0:(i:Int)+(p:Int)=(r:Int):=by omega
  have h9:(m:Int)+(x:Int)=(y:Int):=by omega
  have f1:IntKind.i64.wrap ((i:Int)+(p:Int))=(r:Int):=by rw[H0];exact xR (by omega)
  have f2:IntKind.i64.wrap ((m:Int)+(x:Int))=(y:Int):=by rw[h9];exact xR (by omega)
  clear h6 H6 hr hx hm hy h0 H0 h9 e3 hK H1 H9 ei ep h2;go_wp2
  go_quiet ((go_at_call 66;first|exact qGC (h8.out _)|exact eW (h8.out _)))
  clear e1 f1 f2;go_wp2;go_roundg (k-(a+1))
  case measure=>have:=h7.out;omega
  exact⟨a+1,_,by have:=h7.out;omega,by go_num,by rw[a7.out],by first|rfl|exact World.drewN_drewN _ _ _⟩
 have H5:a=k:=by have:=h7.out;omega
 have a2:¬(a:Int)<k:=(by omega);have hz:((atTo c ns a:Nat):Int)=((atTo c ns k:Nat):Int):=by rw[H5]
 rw[hz];clear H5 hz;go_wp2;go_ret
 first
 | exact zC H8.out (zS w1 _ none)
 | exact⟨rfl,zC H8.out (zS w1 _ none)⟩
theorem qIK (B:Nat)(w:World)(vi vp va:Value)(idx per:List Int)(hi:Row B w vi (ints idx))(hp:Row B w vp (ints per))(hl:per.length=idx.length)(a8:PosC idx per)(a7:1<=idx.length):Calls Try.prog 44 #[.agg #[vi,vp,va]] w fun e w'=>e=.returned (.tuple #[.int .i64 (lY idx per),.bool (kP idx per)])/\w.grownBy w' none:=by
 obtain⟨ib,io,ic,rfl,_,i1,i2,ir⟩:=hi.some_ (by rw[zK];omega);obtain⟨pb,po,pc,rfl,_,p1,p2,pr⟩:=hp.some_ (by rw[zK];omega);rw[zK]at i1 p1⊢;rw[zK,hl];rw[hl]at p1;unfold maxLen at i2 p2;obtain⟨n,hn⟩:=Nm idx.length;rw[<-hn]at i1 p1⊢;obtain⟨w1,h4⟩:=Nm (w.alloc (.cells #[.slice (some ⟨ib,io,none⟩) n ic,.slice (some ⟨pb,po,none⟩) n pc,va] 28));have h7:w.grownBy w1 none:=by rw[h4];exact Ga w _ none
 have H0:=heap_alloc_new w (.cells #[.slice (some ⟨ib,io,none⟩) n ic,.slice (some ⟨pb,po,none⟩) n pc,va] 28);obtain⟨P,hP⟩:=Nm w.heap.size;rw[<-h4,<-hP]at H0;obtain⟨q0,q1,q2⟩:=uK H0
 have a6:Hid (∀a,a<n->∃i p:Nat,w1.cell? ⟨ib,io+a,none⟩=some (.int .i64 (i:Int))/\w1.cell? ⟨pb,po+a,none⟩=some (.int .i64 (p:Int))/\idx.getD a 0=(i:Int)/\per.getD a 0=(p:Int)):=Kh (fun a ha=>by
  have h1:=a8 a (by omega);have h2:=zJ (ir.int a (by omega)) h7;have h3:=zJ (pr.int a (by omega)) h7;obtain⟨i,ei⟩:∃i:Nat,idx.getD a 0=(i:Int):=⟨(idx.getD a 0).toNat,by omega⟩;obtain⟨p,ep⟩:∃p:Nat,per.getD a 0=(p:Int):=⟨(per.getD a 0).toNat,by omega⟩;rw[ei]at h2;rw[ep]at h3
  exact⟨i,p,h2,h3,ei,ep⟩)
 obtain⟨h9,H9,a3,HN⟩:=K4 h7 h4 hP hn;obtain⟨rn,h5⟩:=Nm (lY idx per);obtain⟨rb,h6⟩:=Nm (kP idx per);rw[<-h5,<-h6];have a1:=Kh h5;have a2:=Kh h6
 have H2:Hid (∀a,a<=n->uJ idx per a=none->rn=0/\rb=false):=Kh (fun a ha h=>by
  obtain⟨h1,h2⟩:=eK h (by omega)
  exact⟨by rw[h5,h1],by rw[h6,h2]⟩)
 clear hi hp hl a8 ir pr hn h4 h7 H0 hP q2 h5 h6;go_enter Try.func44,Try.ntmps44;go_upto_region 1 with fail;rw[<-H9.out,<-a3.out];go_wp2
 go_loopg [4,5,9] n (fun gh a4 a5 a9 wr=>∃a c q:Nat,gh+a=n/\a9=.int .i64 a/\a4=.int .i64 (c:Int)/\uJ idx per a=some c/\wr=w1.drewN q)
 case atStart=>exact⟨0,1,0,rfl,rfl,rfl,rfl,rfl⟩
 obtain⟨a,c,q,H5,rfl,rfl,hc,rfl⟩:=hrel;have H3:=Kh H5;have HC:=Kh hc;have H6:=nQ hc;clear H5 hc;by_cases ha:a<n
 ·have H7:(a:Int)<n:=by omega
  obtain⟨i,p,ci,cp,ei,ep⟩:=a6.out a ha;have h8:=Kh (bC HC.out ei ep);clear ei ep;by_cases h1:2000<(i:Int)
  ·have HF:=Kh (H2.out (a+1) (by omega) (by rw[h8.out,if_pos (by omega)]))
   go_wp2;refine bodyPost_ret (v:=.tuple #[.int .i64 0,.bool false]) (by simp[results,Try.results44,go_sem]) rfl ?_;exact⟨by rw[HF.out.1,HF.out.2],zC h9.out (zS w1 _ none)⟩
  by_cases h2:2000<(p:Int)
  ·have HF:=Kh (H2.out (a+1) (by omega) (by rw[h8.out,if_pos (by omega)]))
   go_wp2;refine bodyPost_ret (v:=.tuple #[.int .i64 0,.bool false]) (by simp[results,Try.results44,go_sem]) rfl ?_;exact⟨by rw[HF.out.1,HF.out.2],zC h9.out (zS w1 _ none)⟩
  obtain⟨r,hr⟩:=Nm (i+p);have e0:(i:Int)+(p:Int)=(r:Int):=by omega
  have H4:r<=4000:=by omega
  obtain⟨m,hm⟩:=Nm (c*r);have b0:m<=8000000:=by rw[hm];exact(lR H6 H4).2.2
  have h0:Hid (uJ idx per (a+1)=if 2000<m then none else some m):=Kh (by
   rw[h8.out,<-hr,<-hm];by_cases h:2000<m
   ·rw[if_pos h,if_pos (.inr (.inr h))]
   rw[if_neg h,if_neg (by omega)])
  have H1:=Kh (H2.out (a+1) (by omega));have e1:IntKind.i64.wrap ((i:Int)+(p:Int))=(r:Int):=by rw[e0];exact xR (by omega)
  have e34:=lR H6 H4;rw[<-hm]at e34;have e3:=e34.1;clear e34 hm hr h8 e0;by_cases h3:2000<m
  ·have HF:=Kh (H1.out (by rw[h0.out,if_pos h3]))
   have H8:2000<(m:Int):=(by clear e1 e3;omega);go_wp2
   go_quiet (fail)
   go_wp2;refine bodyPost_ret (v:=.tuple #[.int .i64 0,.bool false]) (by simp[results,Try.results44,go_sem]) rfl ?_;exact⟨by rw[HF.out.1,HF.out.2],zC h9.out (by first|exact zS w1 _ none|exact zC (zS w1 _ none) (zS _ _ none))⟩
  have a0:Hid (uJ idx per (a+1)=some m):=Kh (by rw[h0.out,if_neg h3]);have H8:¬2000<(m:Int):=(by clear e1 e3;omega);clear h0;go_wp2
  go_quiet (fail)
  clear e1 e3;go_wp2;go_roundg (n-(a+1))
  case measure=>have:=H3.out;omega
  exact⟨a+1,m,_,by have:=H3.out;omega,by go_num,rfl,a0.out,by first|rfl|exact World.drewN_drewN _ _ _⟩
 have H7:¬(a:Int)<n:=by omega
 have HE:Hid (rn=c/\rb=true):=Kh (by
  have:=HC.out;rw[show a=idx.length by have:=H3.out;have:=HN.out;omega]at this;obtain⟨h1,h2⟩:=jU this
  exact⟨by rw[a1.out,h1],by rw[a2.out,h2]⟩)
 go_wp2;refine bodyPost_ret (v:=.tuple #[.int .i64 (c:Int),.bool true]) (by simp[results,Try.results44,go_sem]) rfl ?_;exact⟨by rw[HE.out.1,HE.out.2],zC h9.out (zS w1 _ none)⟩
theorem kI (B:Nat)(w:World)(v:Value)(c:CntV)(h:qH B w v c):Calls Try.prog 23 #[v] w fun e w'=>e=.returned (.int .i64 (cntE c))/\w.grownBy w' none:=by
 obtain⟨vi,vp,va,rfl,hi,hp,ha⟩:=h;obtain⟨iA,iC,rfl⟩:=hi.shape;obtain⟨pA,pC,rfl⟩:=hp.shape;obtain⟨aA,aC,rfl⟩:=ha.shape;obtain⟨n,hn⟩:=Nm ((ints c.idx).length);obtain⟨pn,h4⟩:=Nm ((ints c.per).length);obtain⟨an,H1⟩:=Nm ((bls c.acc).length);rw[<-hn]at hi;rw[<-h4]at hp;rw[<-hn,<-h4,<-H1];rw[zK]at hn h4;rw[zX]at H1;obtain⟨w1,h8⟩:=Nm (w.alloc (.cells #[.slice iA n iC,.slice pA pn pC,.slice aA an aC] 28));have h9:w.grownBy w1 none:=by rw[h8];exact Ga w _ none
 have H0:=heap_alloc_new w (.cells #[.slice iA n iC,.slice pA pn pC,.slice aA an aC] 28);obtain⟨P,hP⟩:=Nm w.heap.size;rw[<-h8,<-hP]at H0;obtain⟨q0,q1,q2⟩:=uK H0;obtain⟨E,hE⟩:=Nm (cntE c);rw[<-hE];have b0:Hid (n<1\/6<n->E=1):=Kh (fun h=>by rw[hE];exact qPI (by rw[<-hn];exact h));have a9:Hid (¬(n<1\/6<n)->pn≠n->E=22):=Kh (fun h h2=>by rw[hE];exact qPH (by rw[<-hn];exact h) (by rw[<-hn,<-h4];exact h2));have a8:Hid (¬(n<1\/6<n)->pn=n->¬PosC c.idx c.per->E=22):=Kh (fun h h2 h3=>by rw[hE];exact qPG (by rw[<-hn];exact h) (by rw[<-hn,<-h4];exact h2) h3);have a7:Hid (¬(n<1\/6<n)->pn=n->PosC c.idx c.per->E=if kP c.idx c.per=false then 3 else if (an:Int)≠lY c.idx c.per then 22 else 0):=Kh (fun h h2 h3=>by rw[hE,H1];exact qPF (by rw[<-hn];exact h) (by rw[<-hn,<-h4];exact h2) h3);have HI:=Kh (hi.kept h9 (by simp));have HP:=Kh (hp.kept h9 (by simp));obtain⟨h6,b7,b5,b6,HN,H2⟩:=K6 h9 H0 h8 hP hn h4;clear hi hp ha hn h4 H1 h9 H0 h8 hP hE;have h0:=Kh (xT w1 (n:Int));go_enter Try.func23,Try.ntmps23;go_upto_region 1 with fail;rw[<-b5.out,<-b6.out];by_cases h12:n<1\/6<n
 ·have e0:decide (1<=(n:Int)/\(n:Int)<=6)=false:=decide_eq_false (by omega)
  rw[e0]at h0;clear e0;go_wp2_with fail;refine h0.out.mono ?_;rintro e w9 ⟨rfl,rfl⟩;go_wp2;go_ret;exact⟨yX (b0.out h12).symm,h6.out⟩
 have h1:¬(n:Int)<1:=by omega
 have h2:¬6<(n:Int):=by omega
 have e0:decide (1<=(n:Int)/\(n:Int)<=6)=true:=decide_eq_true (by omega);rw[e0]at h0;clear e0 h12;go_wp2_with fail;refine h0.out.mono ?_;rintro e w9 ⟨rfl,rfl⟩;by_cases h3:pn=n
 case neg =>
  have e3:((pn:Int) != (n:Int))=true:=by rw[bne_iff_ne];omega
  go_wp2;go_ret;exact⟨yX (a9.out (by omega) h3).symm,h6.out⟩
 have e3:((pn:Int) != (n:Int))=false:=by rw[bne_eq_false_iff_eq];omega
 have h7:=Kh (a8.out (by omega) h3);have H7:=Kh (a7.out (by omega) h3);clear b0 a9 a8 a7;subst h3;obtain⟨ib,io,ic,ei,_,i1,i2,ir⟩:=HI.out.some_ (by rw[zK];have:=HN.out;omega);obtain⟨pb,po,pc,ep,_,p1,p2,pr⟩:=HP.out.some_ (by rw[zK];have:=H2.out;omega);simp only[Value.slice.injEq]at ei ep;obtain⟨rfl,b2,rfl⟩:=ei;obtain⟨rfl,b1,rfl⟩:=ep;rw[zK,<-HN.out]at i1;rw[zK,<-H2.out]at p1;unfold maxLen at i2 p2;have IR:=Kh ir;have PR:=Kh pr;clear ir pr b2 b1;go_wp2
 go_loopg [3,21] pn (fun gh a3 a26 wr=>∃a:Nat,gh+a=pn/\a26=.int .i64 a/\qOW c.idx c.per a/\wr=w1)
 case atStart=>exact⟨0,rfl,rfl,fun x hx=>by omega,rfl⟩
 obtain⟨a,a2,rfl,a1,rfl⟩:=hrel;have H5:=Kh a2;have a4:=Kh a1;clear a2 a1;by_cases ha:a<pn
 ·have b3:(a:Int)<pn:=by omega
  have c1:=IR.out.int a (by rw[<-HN.out];exact ha);have c2:=PR.out.int a (by rw[<-H2.out];exact ha);obtain⟨x,hx⟩:=Nm (c.idx.getD a 0);obtain⟨y,hy⟩:=Nm (c.per.getD a 0);rw[<-hx]at c1;rw[<-hy]at c2;have a6:Hid (x<0\/y<1->¬PosC c.idx c.per):=Kh (fun h hp=>by have:=hp a (by rw[<-HN.out];exact ha);omega)
  have b4:Hid (0<=x->1<=y->qOW c.idx c.per (a+1)):=Kh (fun h1 h2 z hz=>by
   rcases Nat.lt_or_ge z a with h|h
   ·exact a4.out z h
   have:z=a:=by omega
   subst this;rw[<-hx,<-hy];exact⟨h1,h2⟩)
  clear hx hy;by_cases hx0:x<0
  ·go_wp2
   go_ret;exact⟨yX (h7.out (a6.out (.inl hx0))).symm,h6.out⟩
  by_cases hy1:y<1
  ·go_wp2
   go_ret;exact⟨yX (h7.out (a6.out (.inr hy1))).symm,h6.out⟩
  go_wp2;go_roundg (pn-(a+1))
  case measure=>have:=H5.out;omega
  exact⟨a+1,by have:=H5.out;omega,by go_num,b4.out (by omega) (by omega),rfl⟩
 have b3:¬(a:Int)<pn:=by omega
 have a5:Hid (PosC c.idx c.per):=Kh (fun z hz=>a4.out z (by have:=H5.out;have:=HN.out;omega));have H8:=Kh (qIK B wr _ _ (.slice aA an aC) c.idx c.per HI.out HP.out (by rw[<-HN.out,<-H2.out]) a5.out (by have:=HN.out;omega));have H3:=Kh (H7.out a5.out);obtain⟨rn,H9⟩:=Nm (lY c.idx c.per);obtain⟨rb,a0⟩:=Nm (kP c.idx c.per);rw[<-H9,<-a0]at H8 H3;clear H9 a0;go_wp2_with fail;refine H8.out.mono ?_;rintro e w2 ⟨rfl,H4⟩;obtain⟨q0,q1,q2⟩:=uK (zB b7.out H4);have H6:=Kh (zC h6.out H4);clear H4 H8;cases rb with
 | false =>
  go_wp2;go_ret;exact⟨yX (by rw[H3.out];simp),H6.out⟩
 | true =>
  by_cases h5:(an:Int)=rn
  ·have e5:((an:Int) != rn)=false:=by rw[bne_eq_false_iff_eq];exact h5
   have HZ:Hid (E=0):=Kh (by rw[H3.out,if_neg (by simp),if_neg (by simpa using h5)]);clear h5;go_wp2;go_ret;exact⟨yX HZ.out.symm,H6.out⟩
  have e5:((an:Int) != rn)=true:=by rw[bne_iff_ne];exact h5
  have HZ:Hid (E=22):=Kh (by rw[H3.out,if_neg (by simp),if_pos h5]);clear h5;go_wp2;go_ret;exact⟨yX HZ.out.symm,H6.out⟩
def digR (c:CntV)(k q b:Nat):List Nat:=(List.range k).map fun a=>if a<b then 0 else digN c q a
theorem nN (c:CntV)(k q b:Nat):(digR c k q b).length=k:=by simp[digR]
theorem qGY (c:CntV)(k q:Nat):digR c k q k=List.replicate k 0:=by
 refine List.ext_getElem (by simp[digR]) fun i h1 h2=>?_;rw[nN]at h1;simp only[digR,List.getElem_map,List.getElem_range,List.getElem_replicate];rw[if_pos h1]
theorem qNY (c:CntV)(k q:Nat):digR c k q 0=(List.range k).map (digN c q):=by simp[digR]
theorem qNX {c:CntV}{k q b:Nat}:(digR c k q (b+1)).set b (digN c q b)=digR c k q b:=by
 refine List.ext_getElem (by simp[digR]) fun i h1 h2=>?_;rw[List.getElem_set];simp only[digR,List.getElem_map,List.getElem_range]
 split
 ·rename_i e;subst e;rw[if_neg (by omega)]
 by_cases h:i<b
 ·rw[if_pos (by omega),if_pos h]
 rw[if_neg (by omega),if_neg h]
theorem qFC {c:CntV}{k q a:Nat}(ha:a<k):((List.range k).map (digN c q)).getD a 0=digN c q a:=by
 rw[zN (by simpa using ha)];simp
theorem qQQ {c:CntV}{k q b r:Nat}(hk:k=c.idx.length)(hb:b<k)(hr:r=radN c b)(hq:q<=2000):∃t d u:Nat,t=q / uR (radN c) (b+1) k/\d=digN c q b/\u=q / uR (radN c) b k/\(t:Int).tmod (r:Int)=(d:Int)/\(t:Int).tdiv (r:Int)=(u:Int)/\t<=2000/\d<=2000/\u<=2000:=by
 have h1:q / uR (radN c) (b+1) k<=q:=Nat.div_le_self _ _;have h2:q / uR (radN c) b k<=q:=Nat.div_le_self _ _;have h3:digN c q b=q / uR (radN c) (b+1) k % r:=by unfold digN stN;rw[<-hk,hr]
 have h4:q / uR (radN c) b k=q / uR (radN c) (b+1) k / r:=by rw[sD hb,Nat.mul_comm,<-Nat.div_div_eq_div_mul,hr]
 have h5:=Nat.mod_le (q / uR (radN c) (b+1) k) r;refine⟨_,_,_,rfl,h3.symm,h4.symm,Int.ofNat_tmod _ _,Int.ofNat_tdiv _ _,by omega,by omega,by rw[<-h4];omega⟩
theorem qQW {c:CntV}(h:CntOk c){k q a:Nat}(hk:k=c.idx.length)(hq:q<c.acc.length)(ha:a<k):atTo c (((List.range k).map (digN c q)).set a (digN c q a+1)) k=qL c q a:=by
 subst hk;have h1:=qEF h.pos (ns:=(List.range c.idx.length).map (digN c q)) (ms:=((List.range c.idx.length).map (digN c q)).set a (digN c q a+1)) ha (fun b hb=>by rw[List.getD_eq_getElem?_getD,List.getD_eq_getElem?_getD,List.getElem?_set_ne (fun e=>hb e.symm)]) (by rw[qFC ha,List.getD_eq_getElem?_getD,List.getElem?_set_self (by simpa using ha)];rfl);rw[qEE h hq]at h1;exact h1
theorem qKN {c:CntV}{k q a:Nat}(ha:a<k):(((List.range k).map (digN c q)).set a (digN c q a+1)).set a (digN c q a)=(List.range k).map (digN c q):=by
 rw[List.set_set];refine List.ext_getElem (by simp) fun i h1 h2=>?_;rw[List.getElem_set]
 split
 ·rename_i e;subst e;simp
 rfl
theorem qCG {c:CntV}{q a:Nat}(ha:a<c.idx.length):((List.range c.idx.length).map fun a=>(qL c q a:Int)).take (a+1)=((List.range c.idx.length).map fun a=>(qL c q a:Int)).take a++[(qL c q a:Int)]:=by
 rw[zZ (d:=0) (by simpa using ha),zN (by simpa using ha)];simp
theorem qIQ (B:Nat)(w:World)(v:Value)(c:CntV)(a9:B<=w.heap.size)(h:qH B w v c):Calls Try.prog 22 #[v] w (qOX c w):=by
 obtain⟨vi,vp,va,rfl,hi,hp,ha⟩:=id h;obtain⟨iA,iC,rfl⟩:=hi.shape;obtain⟨pA,pC,rfl⟩:=hp.shape;obtain⟨aA,aC,rfl⟩:=ha.shape;obtain⟨k,hk⟩:=Nm c.idx.length;obtain⟨pn,f6⟩:=Nm c.per.length;obtain⟨n,hn⟩:=Nm c.acc.length;rw[zK,zK,zX,<-hk,<-f6,<-hn]at h⊢;rw[zK,<-hk]at hi;rw[zK,<-f6]at hp;rw[zX,<-hn]at ha;obtain⟨w1,b6⟩:=Nm (w.alloc (.cells #[.slice iA k iC,.slice pA pn pC,.slice aA n aC] 28));have g1:w.grownBy w1 none:=by rw[b6];exact Ga w _ none
 have n1:=heap_alloc_new w (.cells #[.slice iA k iC,.slice pA pn pC,.slice aA n aC] 28);have e0:w1.heap.size=w.heap.size+1:=by rw[b6];simp
 rw[<-b6]at n1;obtain⟨w2,e8⟩:=Nm (w1.alloc (.cells #[.int .i64 0,.int .i64 0,.slice none 0 0,.slice none 0 0] 37));have g2:w1.grownBy w2 none:=by rw[e8];exact Ga w1 _ none
 have n2:=heap_alloc_new w1 (.cells #[.int .i64 0,.int .i64 0,.slice none 0 0,.slice none 0 0] 37);rw[<-e8,e0]at n2;obtain⟨P,i5⟩:=Nm w.heap.size;rw[<-i5]at n1 n2;have d9:=zQ n2;have g9:=zC g1 g2;have HB:Hid (∀W:World,w2.grownBy W none->(W.heap[P]?=some (.cells #[.slice iA k iC,.slice pA pn pC,.slice aA n aC] 28 (0,0))/\W.heap[P+1]?=some (.cells #[.int .i64 0,.int .i64 0,.slice none 0 0,.slice none 0 0] 37 (0,0)))/\w.grownBy W none):=Kh (fun W hg=>⟨⟨zB (zB n1 g2) hg,zB n2 hg⟩,zC g9 hg⟩);have HI:Hid (∀W:World,w.grownBy W none->Row B W (.slice iA k iC) (ints c.idx)):=Kh (fun W hg=>hi.kept hg (by simp));have HP:Hid (∀W:World,w.grownBy W none->Row B W (.slice pA pn pC) (ints c.per)):=Kh (fun W hg=>hp.kept hg (by simp));have HA:Hid (∀W:World,w.grownBy W none->Row B W (.slice aA n aC) (bls c.acc)):=Kh (fun W hg=>ha.kept hg (by simp));have HC:=Kh h;have HV:=Kh (kI B w2 _ c (h.kept g9));obtain⟨s2,s1,b5,HK,n0,HN⟩:=K6 b6 e8 i5 hk f6 hn;obtain⟨E,hE⟩:=Nm (cntE c);rw[<-hE]at HV;have k0:=Kh hE;have r7:=Kh d9;clear h hi hp ha hk f6 hn g1 n1 e0 g2 n2 g9 b6 e8 i5 hE d9;go_enter Try.func22,Try.ntmps22;go_upto_region 1 with fail;rw[<-s2.out,<-b5.out,<-s1.out];obtain⟨q0,q1,q2⟩:=uK (HB.out _ (zT w2 none)).1.1;go_wp2_with fail;refine HV.out.mono ?_;rintro e w3 ⟨rfl,H2⟩;have a8:=Kh H2;clear q0 q1 q2;by_cases h0:E=0
 ·subst h0
  have h6:=Kh (gH.1 k0.out.symm);have l2:1<=k:=by rw[HK.out];exact h6.out.k1
  have y3:k<=6:=by rw[HK.out];exact h6.out.k6
  have p6:k=pn:=by rw[n0.out,HK.out];exact h6.out.pl.symm
  subst p6;have y1:n<=2000:=by rw[HN.out];exact nQ h6.out.size
  obtain⟨q0,q1,q2⟩:=uK (HB.out _ H2).1.1;obtain⟨fb,fo,fc,ef,_,fc1,fc2,fr⟩:=(HA.out _ (HB.out _ (zT w2 none)).2).some_ (by rw[zX];have:=(nO h6.out).n1;omega);obtain⟨ib,io,ic,ei,_,ic1,ic2,ir⟩:=(HI.out _ (HB.out _ (zT w2 none)).2).some_ (by rw[zK,<-HK.out];exact l2);obtain⟨pb,po,pc,ep,_,pc1,pc2,pr⟩:=(HP.out _ (HB.out _ (zT w2 none)).2).some_ (by rw[zK,h6.out.pl,<-HK.out];exact l2);simp only[Value.slice.injEq]at ef ei ep;obtain⟨rfl,e0,rfl⟩:=ef;obtain⟨rfl,d9,rfl⟩:=ei;obtain⟨rfl,o8,rfl⟩:=ep;rw[zX,<-HN.out]at fc1;rw[zK,<-HK.out]at ic1;rw[zK,<-n0.out]at pc1;unfold maxLen at fc2 ic2 pc2;obtain⟨n9,n4,m9⟩:=K3 fr ir pr
  have s8:Hid (∀b,b<k->∃i p r:Nat,c.idx.getD b 0=(i:Int)/\c.per.getD b 0=(p:Int)/\i<=2000/\p<=2000/\1<=p/\r=i+p/\r=radN c b):=Kh (fun b hb=>by
   obtain⟨i,p,e1,e2,e3,e4,e5⟩:=qMH h6.out (a:=b) (by rw[<-HK.out];exact hb)
   exact⟨i,p,i+p,e1,e2,e3,e5,e4,rfl,by unfold radN iN pN;rw[e1,e2];simp⟩)
  obtain⟨w5,e7⟩:=Nm (w3.alloc (.cells #[.int .i64 (k:Int),.int .i64 0,.slice none 0 0,.slice none 0 0] 37));obtain⟨D,hD⟩:=Nm w3.heap.size;have i1:w3.grownBy w5 none:=by rw[e7];exact Ga w3 _ none
  have i4:w5.heap[D]?=some (.cells #[.int .i64 (k:Int),.int .i64 0,.slice none 0 0,.slice none 0 0] 37 (0,0)):=by rw[e7,hD];exact heap_alloc_new w3 _
  have o3:Hid (Built D w5 D k 0 (c.acc.take 0) ((dfaC c).next.take 0) [] none 0 none 0):=Kh ⟨i4,World.ownsRow_nil _ _ _ _,World.ownsRow_nil _ _ _ _,tN.nil,rfl⟩;have q4:fb<D:=by have:=H2.size;have h9:=fr.1;omega
  have y7:P+1<D:=by have:=H2.size;have:=r7.out;omega
  have c7:=zC H2 i1;have q9:=zQ i4;obtain⟨t7,j9,s0,d8,z0⟩:=K5 i1 c7 e7 hD q9;clear H2 fr ir pr e0 d9 o8 i1 i4 c7 e7 hD;go_upto_region 6 with fail;rw[<-s0.out,<-d8.out];obtain⟨q0,q1,q2⟩:=uK (HB.out _ j9.out).1.1;go_wp2
  go_loopg [29] n (fun gh v29 wr=>∃(q:Nat) (hs:List Value) (sf:Option Addr) (cf:Nat) (sn:Option Addr) (cn:Nat),gh+q=n/\v29=.int .i64 q/\Built D wr D k 0 (c.acc.take q) ((dfaC c).next.take q) hs sf cf sn cn/\w3.grownBy wr (some D))
  case atStart=>exact⟨0,[],none,0,none,0,rfl,rfl,o3.out,vH t7.out⟩
  clear o3 q0 q1 q2;obtain⟨q,hs,sf,cf,sn,cn,l3,rfl,H5,a2⟩:=hrel;obtain⟨j6,o1,n6⟩:=K3 l3 H5 a2;have j2:Hid (∀W:World,wr.grownBy W none->∀x y,w2.heap[x]?=some y->x≠D->W.heap[x]?=some y):=Kh (fun W hW x y hx c4=>zB (zB (zB hx a8.out) a2 (fun e=>c4 (Oj e).symm)) hW);have a7:Hid (∀W:World,wr.grownBy W none->W.heap[P]?=some (.cells #[.slice (some ⟨ib,io,none⟩) k iC,.slice (some ⟨pb,po,none⟩) k pC,.slice (some ⟨fb,fo,none⟩) n aC] 28 (0,0))):=Kh (fun W hW=>j2.out W hW _ _ (HB.out _ (zT w2 none)).1.1 (by omega));have d4:Hid (wr.heap[P+1]?=some (.cells #[.int .i64 0,.int .i64 0,.slice none 0 0,.slice none 0 0] 37 (0,0))):=Kh (j2.out wr (zT wr none) _ _ (HB.out _ (zT w2 none)).1.2 (by omega))
  have j1:Hid (∀W:World,wr.grownBy W none->vM W ib io (ints c.idx)/\vM W pb po (ints c.per)/\vM W fb fo (bls c.acc)/\qH D W (.agg #[.slice (some ⟨ib,io,none⟩) k iC,.slice (some ⟨pb,po,none⟩) k pC,.slice (some ⟨fb,fo,none⟩) n aC]) c):=Kh (fun W hW=>by
   have r4:=((HC.out.kept (zC (HB.out _ (zT w2 none)).2 a8.out (by simp))).mono (show B<=D by have:=b5.out;omega));have c4:∀x,x<w2.heap.size->(some D:Option Nat)≠some x:=fun x hx e=>by have:=Oj e;have:=d8.out;have:=a8.out.size;omega
   exact⟨((n4.out.kept a8.out (by simp)).kept a2 (c4 _ n4.out.1)).kept hW (by simp),((m9.out.kept a8.out (by simp)).kept a2 (c4 _ m9.out.1)).kept hW (by simp),((n9.out.kept a8.out (by simp)).kept a2 (c4 _ n9.out.1)).kept hW (by simp),(r4.keptR a2 (fun k e=>by have:=Oj e;omega)).kept hW⟩)
  have k4:=a2.size;have m4:=Kh k4;clear l3 H5 a2 k4 j2;by_cases hq:q<n
  ·have p5:(q:Int)<n:=by omega
   have b9:Hid (q<c.acc.length):=Kh (by rw[<-HN.out];exact hq);obtain⟨wo,rfl⟩:=Nm (wr:World);go_upto_region 10 with (first|(at_make;refine qC rfl _ _ _ rfl yJ rfl _ _ _ _ k rfl rfl rfl rfl ?b1 ?b2 ?_;(case b1=>omega);(case b2=>(unfold maxLen;omega));intro w4 f8 l5 o7)|fail);rw[<-yM,<-qGY c k q]at f8;obtain⟨g,hg⟩:=Nm wo.heap.size;rw[<-hg]at f8⊢;obtain⟨j7,o6,n8⟩:=K3 hg f8 l5;have m8:Hid (q=q / uR (radN c) k k):=Kh (by rw[oY (Nat.le_refl _),Nat.div_one]);clear f8 l5 o7 hg;go_wp2
   go_loopg [9,10] k (fun gh v9 v10 wx=>∃(b u:Nat) (z:Int),gh=b/\v9=.int .i64 (u:Int)/\v10=.int .i64 z/\z=(b:Int)-1/\b<=k/\u=q / uR (radN c) b k/\Arr wx g 3 (nats (digR c k q b))/\wo.grownBy wx none)
   case atStart=>exact⟨k,q,(k:Int)-1,rfl,rfl,by go_num,rfl,Nat.le_refl _,m8.out,o6.out,n8.out⟩
   clear o6 n8 m8;obtain⟨b,u,z,a5,rfl,rfl,hz,q6,hu,h5,h4⟩:=hrel;obtain⟨t6,g0,n5,HU⟩:=K4 a5 h5 h4 hu;clear a5 hu;rcases b with _|b
   ·obtain rfl:z = -1:=by omega
    have o5:Hid (Arr wr g 3 (nats ((List.range k).map (digN c q)))):=Kh (by rw[<-qNY];exact h5);have p8:=h5.lt;clear h5 g0 hz q6 h4;obtain⟨wa,rfl⟩:=Nm (wr:World);go_wp2
    go_loopg [12,13] k (fun gh v12 v13 wx=>∃(a:Nat) (sr:Option Addr) (cr:Nat),gh+a=k/\v13=.int .i64 a/\v12=.slice sr a cr/\wx.ownsRow wa.heap.size 3 1 (.slice sr a cr) a (ints (((List.range c.idx.length).map fun a=>(qL c q a:Int)).take a))/\Arr wx g 3 (nats ((List.range k).map (digN c q)))/\wo.grownBy wx none/\wa.heap.size<=wx.heap.size)
    case atStart=>exact⟨0,none,0,rfl,rfl,rfl,by simpa [ints] using World.ownsRow_nil _ _ _ _,o5.out,n5.out,Nat.le_refl _⟩
    clear o5;obtain⟨a,sr,cr,l4,rfl,rfl,H1,h5,h4,g4⟩:=hrel;obtain⟨j8,i9,g0,t4,r9⟩:=K5 l4 H1 h5 h4 g4;clear l4;by_cases ha:a<k
    ·have q8:(a:Int)<k:=by omega
     have c9:digN c q a<=2000:=by
      unfold digN;have h1:=Nat.mod_le (q / stN c a) (radN c a);have h2:=Nat.div_le_self q (stN c a);omega
     have ca:=h5.nat a (by simpa using ha);rw[qFC ha]at ca;have fa:=h5.frozen a;obtain⟨d,hd⟩:=Nm (digN c q a);rw[<-hd]at ca c9;have b8:=h5.nat_set a (by simpa using ha) (d+1);rw[show ((d+1:Nat):Int)=(d:Int)+1 by omega]at b8;obtain⟨wb,e6⟩:=Nm (wr.setCell ⟨g,a,none⟩ (.int .i64 ((d:Int)+1)));have H7:wr.grownBy wb (some g):=(by rw[e6];exact zF wr ⟨g,a,none⟩ _);have a5:=yK h4 H7 (by show _<=g;have:=j7.out;omega);rw[<-e6]at b8;have a1:=H1.kept H7 (.inr (fun e=>by have:=(H1.lt g e).1;omega));obtain⟨s6,d7,d5,r8⟩:=K4 b8 a5 a1 e6;have r5:=Kh H7.size
     have o4:Hid (Calls Try.prog 42 #[.agg #[.slice (some ⟨ib,io,none⟩) k iC,.slice (some ⟨pb,po,none⟩) k pC,.slice (some ⟨fb,fo,none⟩) n aC],.slice (some ⟨g,0,none⟩) k k] wb fun e w'=>e=.returned (.int .i64 ((qL c q a:Nat):Int))/\wb.grownBy w' none):=Kh (by
      have h9:=b8.rowT' (cap:=k) (by simp[nats]) (by unfold maxLen;omega);have e9:(nats (((List.range k).map (digN c q)).set a (d+1))).length=k:=by simp[nats]
      rw[e9]at h9
      have h8:=qIS wb.heap.size wb _ (.slice (some ⟨g,0,none⟩) k k) c _ (((j1.out wb a5).2.2.2).mono (by have:=d8.out;have:=a5.size;have:=m4.out;omega)) h6.out h9.row (by simp[HK.out]) (fun x hx=>by
       rcases List.mem_or_eq_of_mem_set hx with hx|hx
       ·obtain⟨y,_,rfl⟩:=List.mem_map.1 hx
        unfold digN;have h1:=Nat.mod_le (q / stN c y) (radN c y);have h2:=Nat.div_le_self q (stN c y);omega
       omega)
      rw[<-HK.out,hd,qQW h6.out HK.out b9.out ha]at h8
      exact h8)
     have HD:=Kh hd;have t9:=Kh c9;clear h5 H1 h4 b8 a5 H7 a1 e6 hd g4;go_upto_region 20 with fail;rw[<-r8.out];obtain⟨q0,q1,q2⟩:=uK (a7.out wb d7.out);clear ca fa;go_wp2_with fail;refine o4.out.mono ?_;rintro e wc ⟨rfl,c5⟩;have p2:=r5.out;have p1:=r9.out;have p0:=c5.size;have H4:=Kh (yB d5.out c5);have k3:=Kh (s6.out.kept c5 (by simp));have t5:=Kh (zC d7.out c5);have g3:wa.heap.size<=wc.heap.size:=by omega
     have y8:=Kh g3;obtain⟨N,hN⟩:=Nm (qL c q a);rw[<-hN];have f9:=Kh hN;clear q0 q1 q2 o4 c5 p2 p1 p0 hN;go_upto_region 21 with (first|(at_builtin;refine app1 rfl _ _ _ rfl yJ wa.heap.size _ a _ rfl H4.out _ rfl rfl ?c1 ?c2 ?c3 ?_;(case c1=>(unfold maxLen;omega));(case c2=>omega);(case c3=>exact g3);intro sa' sc' w6 h7 i0 g8)|fail);have y9:=Kh h7;have c0:(Value.slice sr a cr).ownBlock≠some g:=fun e=>by have:=(H4.out.lt g e).1;omega
     have a0:=k3.out.kept i0 c0;have ca:=a0.nat a (by simpa using ha);rw[List.getD_eq_getElem?_getD,List.getElem?_set_self (by simpa using ha),Option.getD_some,show ((d+1:Nat):Int)=(d:Int)+1 by omega]at ca;have fa:=a0.frozen a;have g5:=a0.nat_set a (by simpa using ha) d;rw[HD.out,qKN ha,<-HD.out]at g5;have s5:=Kh g5;have c6:=zC t5.out i0 (fun j e=>by have:=(H4.out.lt j e).1;have:=n5.out.size;omega);have H3:=zF w6 ⟨g,a,none⟩ (.int .i64 (d:Int));have j3:=Kh (yK c6 H3 (by show _<=g;have:=j7.out;omega));have m3:=h7.kept H3 (.inr (fun e=>by have:=(h7.lt g e).1;omega));have s9:=Kh m3;have k5:wa.heap.size<=(w6.setCell ⟨g,a,none⟩ (.int .i64 (d:Int))).heap.size:=by have:=H3.size;omega
     have r6:=Kh k5;have c9:=t9.out;clear h7 i0 g8 c0 a0 g5 c6 H3 m3 k5 g3;go_wp2;clear ca fa c9;go_roundg (k-(a+1))
     case measure=>have:=j8.out;omega
     refine⟨a+1,sa',sc',by have:=j8.out;omega,by go_num,rfl,?_,s5.out,j3.out,r6.out⟩;rw[qCG (by rw[<-HK.out];exact ha),eE,<-f9.out];exact s9.out
    have q7:a=k:=by have:=j8.out;omega
    have q8:¬(a:Int)<k:=(by omega);subst q7
    have i7:Hid (RowT wr.heap.size 3 wr (.slice sr a cr) (ints ((dfaC c).next.getD q []))):=Kh (by
     rw[aT b9.out,<-List.take_of_length_le (l:=(List.range c.idx.length).map fun a=>(qL c q a:Int)) (i:=a) (by simp[HK.out])]
     exact RowT.of_owns H1)
    have c8:c.acc.take (q+1)=c.acc.take q++[c.acc.getD q false]:=zZ b9.out;have b7:(dfaC c).next.take (q+1)=(dfaC c).next.take q++[(dfaC c).next.getD q []]:=zZ (by rw[(nO h6.out).nl];exact b9.out);have t8:=Kh c8;have s4:=Kh b7;have H5:=o1.out.grow h4;have l1:((dfaC c).next.take q).length=q:=by rw[List.length_take,(nO h6.out).nl,<-HN.out];omega
    have b3:=j1.out wr h4;have l8:=b3.2.2.1.boolQ q b9.out;have l7:=(uK (a7.out wr h4)).2.2;have k8:D<=wr.heap.size:=by have:=d8.out;have:=m4.out;have:=h4.size;omega
    have j4:=Kh h4;clear c8 b7 h5 H1 h4 g0 i9 g4 b3;go_upto_region 22 with fail;refine qIR (base:=D) (D:=D) (b:=c.acc.getD q false) (row:=(dfaC c).next.getD q []) (m:=q) (k:=a) (n:=n) (fb:=fb) (fo:=fo) (fc:=aC) (q:=q) H5 l1 (by omega) i7.out hq ⟨fc1,fc2⟩ k8 (by omega) q4 l7 l8 ?_;intro z84 z85 z86 z87 z88 z89 z90 z91 z92 z93 z94 z95 z96 z97 z98 z99 wz sf' cf' sn' cn' b4 H3;have x0:Hid (Built D wz D a 0 (c.acc.take (q+1)) ((dfaC c).next.take (q+1)) (hs++[.slice sr a cr]) sf' cf' sn' cn'):=Kh (b4.congr t8.out s4.out);have j3:=Kh (H3 w3 (zH n6.out (vH j4.out)) (by have:=d8.out;omega));clear H5 l1 l8 l7 k8 b4 H3;go_wp2;go_roundg (n-(q+1))
    case measure=>have:=j6.out;omega
    exact⟨q+1,_,sf',cf',sn',cn',by have:=j6.out;omega,by go_num,x0.out,j3.out⟩
   obtain rfl:z=(b:Int):=by omega
   have a6:b<k:=(by omega);obtain⟨i,p,r,ei,ep,y4,p7,x8,hr,k9⟩:=s8.out b a6;have b3:=j1.out wr h4;have ci:=b3.1.int b (by rw[<-HK.out];exact a6);have cp:=b3.2.1.int b (by rw[h6.out.pl,<-HK.out];exact a6);rw[ei]at ci;rw[ep]at cp;have er:IntKind.i64.wrap ((i:Int)+(p:Int))=(r:Int):=by rw[hr];exact xR (by omega)
   have y5:(b:Int)<k:=(by omega);have y6:(0:Int)<=b:=by omega
   have x6:1<=r:=by omega
   have x5:r<=4000:=by omega
   obtain⟨t,d,u',ht,hd,k7,f1,f2,x2,c9,x1⟩:=qQQ (q:=q) HK.out a6 k9 (by omega);have p3:u=t:=by rw[HU.out,ht]
   subst p3;have cc:=h5.cell b (by simp[nats,nN];exact a6);have fc':=h5.frozen b;obtain⟨y,hy⟩:∃y,y=(nats (digR c k q (b+1)))[b]'(by simp[nats,nN];exact a6):=⟨_,rfl⟩;rw[<-hy]at cc;have p8:=h5.lt;have s3:=Kh k7
   have d6:Hid (∀m,Arr ((wr.drewN m).setCell ⟨g,b,none⟩ (.int .i64 (d:Int))) g 3 (nats (digR c k q b))/\wo.grownBy ((wr.drewN m).setCell ⟨g,b,none⟩ (.int .i64 (d:Int))) none):=Kh (fun m=>by
    have h1:=(h5.of_heap (w':=wr.drewN m) rfl).nat_set b (by rw[nN];exact a6) d;rw[hd,qNX,<-hd]at h1
    exact⟨h1,yK (zC h4 (zS wr m none)) (zF _ ⟨g,b,none⟩ _) (by show _<=g;have:=j7.out;omega)⟩)
   obtain⟨q0,q1,q2⟩:=uK (a7.out wr h4);have x7:¬(r:Int)=0:=by omega
   have f3:IntKind.i64.wrap (d:Int)=(d:Int):=xR (by omega);have f4:IntKind.i64.wrap (u':Int)=(u':Int):=xR (by omega);clear hy h5 ht hd k7 b3 hr k9 ei ep hz h4 p7 g0 HU;obtain⟨wo3,rfl⟩:=Nm (wr:World);go_wp2
   go_quiet (fail)
   clear er;go_wp2
   go_region
   all_goals (try go_frame)
   all_goals go_wp2
   all_goals
    go_roundg b
    case measure=>have:=t6.out;omega
    refine⟨b,u',(b:Int)-1,rfl,rfl,by go_num,rfl,by omega,s3.out,?_,?_⟩
    ·exact(d6.out _).1
    exact(d6.out _).2
  have g6:q=n:=by have:=j6.out;omega
  have p5:¬(q:Int)<n:=(by omega);have c8:c.acc.take q=c.acc:=List.take_of_length_le (by rw[g6,HN.out];exact Nat.le_refl _);have b7:(dfaC c).next.take q=(dfaC c).next:=List.take_of_length_le (by rw[g6,(nO h6.out).nl,HN.out];exact Nat.le_refl _);have H5:=o1.out;rw[c8,b7]at H5;have i2:=H5.box;have f5:=nO h6.out;have g7:=f5.nl;rw[g7,<-HN.out]at i2;obtain⟨m,hm⟩:=Nm (minD (dfaC c) k)
  have n3:Hid (Calls Try.prog 37 #[.agg #[.int .i64 (k:Int),.int .i64 0,.slice sf n cf,.slice sn n cn]] wr (qRC wr m)):=Kh (by
   have h8:=H5.dfa;rw[HK.out]at h8;have h9:=fZ wr.heap.size wr _ (dfaC c) _ _ (Nat.le_refl _) h8 f5;rw[g7,<-HN.out,<-HK.out,<-hm]at h9
   exact h9)
  obtain⟨N,hN⟩:=Nm (minN (dfaC c) k);have H6:=iZ f5;rw[<-HK.out,<-hm,<-hN]at H6;have m1:m.letters=k:=H6.hk;have l9:m.start=0:=by rw[hm];rfl
  have m2:m.final.length=N:=H6.hn;have m0:m.next.length=N:=H6.nl;obtain⟨HM,f9,m6,m5,s7,i8⟩:=K6 hm hN m1 l9 m2 m0;obtain⟨d0,d1,d2,d3⟩:=zL i2;have j5:Hid (w.grownBy wr none):=Kh (zC (zC (HB.out _ (zT w2 none)).2 a8.out (by simp)) n6.out (fun j e=>by have:=Oj e;have:=b5.out;omega));have m7:=Kh (zQ d4.out);clear H6 hm hN m1 l9 m2 m0 H5 c8 b7 i2 f5 g7 g6;go_wp2_with fail;refine n3.out.mono ?_;rintro e x9 ⟨v9,rfl,l6,f7⟩;have o0:=Kh l6;obtain⟨o9,x4,sf9,cf9,sn9,cn9,rfl,y0,i3⟩:=l6;rw[m6.out,m5.out,s7.out,i8.out]at o0⊢;have H8:=Ga x9 (.cells #[.int .i64 (k:Int),.int .i64 0,.slice sf9 N cf9,.slice sn9 N cn9] 37) none;have H9:=heap_alloc_new x9 (.cells #[.int .i64 (k:Int),.int .i64 0,.slice sf9 N cf9,.slice sn9 N cn9] 37);obtain⟨x10,a3⟩:=Nm (x9.alloc (.cells #[.int .i64 (k:Int),.int .i64 0,.slice sf9 N cf9,.slice sn9 N cn9] 37));obtain⟨o10,a4⟩:=Nm x9.heap.size;rw[<-a3]at H8 H9;rw[<-a4]at H9;have n7:=Kh (zC j5.out f7);have h3:=Kh (zB (zB d4.out f7) H8);obtain⟨i6,j0,b0,k2⟩:=K4 a3 a4 H8 H9;have l0:P+1≠o10:=(by have:=f7.size;have:=m7.out;omega);clear i3 f7 d0 d1 d2 d3 n3 H8 H9 a3 a4;have f0:=zA h3.out 0;have f1:=zA h3.out 1;have f2:=zA h3.out 2;have f3:=zA h3.out 3;have y2:=zQ h3.out;go_upto_region 25 with fail;rw[<-i6.out,<-j0.out];obtain⟨q0,q1,q2,q3⟩:=zL h3.out;obtain⟨t0,t1,t2,t3⟩:=zL k2.out;by_cases h512:(512:Int)<N
  ·go_wp2
   obtain⟨b4,H3⟩:=uB h3.out (.int .i64 0) (.int .i64 0) (.slice none 0 0) (.slice none 0 0);obtain⟨r0,r1,r2,r3⟩:=zL b4;clear q0 q1 q2 q3 f0 f1 f2 f3 t0 t1 t2 t3;refine bodyPost_ret (v:=.tuple #[.agg #[.int .i64 0,.int .i64 0,.slice none 0 0,.slice none 0 0],.int .i64 3]) (by simp[results,Try.results22,go_sem,r0,r1,r2,r3]) rfl ?_;exact⟨.inl ⟨3,rfl,.inr ⟨rfl,h6.out,by rw[<-HK.out,<-f9.out];omega⟩⟩,zC (zC n7.out b0.out) H3 (fun j e=>by have e:P+1=j:=Oj e;have:=b5.out;omega)⟩
  go_wp2;obtain⟨b4,H3⟩:=uB h3.out (.int .i64 (k:Int)) (.int .i64 0) (.slice sf9 N cf9) (.slice sn9 N cn9);obtain⟨r0,r1,r2,r3⟩:=zL b4;clear q0 q1 q2 q3 f0 f1 f2 f3 t0 t1 t2 t3;refine bodyPost_ret (v:=.tuple #[.agg #[.int .i64 (k:Int),.int .i64 0,.slice sf9 N cf9,.slice sn9 N cn9],.int .i64 0]) (by simp[results,Try.results22,go_sem,r0,r1,r2,r3]) rfl ?_;have q5:=(o0.out.grow b0.out).far H3 h3.out m7.out;obtain⟨fv9,nv9,H6,p4⟩:=q5.t;rw[m6.out,m5.out]at H6;simp only[Value.agg.injEq,Array.mk.injEq,List.cons.injEq,true_and,and_true]at H6;obtain⟨rfl,rfl⟩:=H6;exact⟨.inr ⟨_,_,by rw[<-HK.out],h6.out,by rw[<-HK.out,<-f9.out];omega,by rw[<-HK.out,<-HM.out];exact p4⟩,zC (zC n7.out b0.out) H3 (fun j e=>by have e:P+1=j:=Oj e;have:=b5.out;omega)⟩
 have hb:(E != 0)=true:=by rw[bne_iff_ne];exact h0
 obtain⟨r0,r1,r2,r3⟩:=zL (HB.out _ H2).1.2;have f0:=zA (HB.out _ H2).1.2 0;have f1:=zA (HB.out _ H2).1.2 1;have f2:=zA (HB.out _ H2).1.2 2;have f3:=zA (HB.out _ H2).1.2 3;have o2:=Kh (HB.out _ H2);have H0:=Kh h0;clear H2 h0;go_wp2;refine bodyPost_ret (v:=.tuple #[.agg #[.int .i64 0,.int .i64 0,.slice none 0 0,.slice none 0 0],.int .i64 E]) (by simp[results,Try.results22,go_sem,r0,r1,r2,r3]) rfl ?_;obtain⟨x3,p9⟩:=uB o2.out.1.2 (.int .i64 0) (.int .i64 0) (.slice none 0 0) (.slice none 0 0);exact⟨.inl ⟨E,rfl,.inl ⟨k0.out,fun h=>H0.out (k0.out.trans h)⟩⟩,zC o2.out.2 p9 (fun j e=>by have e:P+1=j:=Oj e;have:=b5.out;omega)⟩
theorem qCU (s:ByteArray)(a9:Int)(w:World)(hs:s.size<=maxLen):Calls Try.prog 45 #[.string s,.int .i64 a9] w fun e w'=>e=.returned (.bool (xO s a9))/\w=w':=by
 unfold maxLen at hs;by_cases h1:¬(1<=a9/\a9<=6)
 ·have e1:decide (1<=a9/\a9<=6)=false:=decide_eq_false h1
  go_enter Try.func45,Try.ntmps45;go_wp2_with fail;refine(xT w a9).mono ?_;rintro e w' ⟨rfl,rfl⟩;rw[e1];go_wp2;go_ret;exact⟨yT (by simp[xO];omega),rfl⟩
 have e1:decide (1<=a9/\a9<=6)=true:=by simpa using h1
 by_cases h3:2048<s.size
 ·go_enter Try.func45,Try.ntmps45
  go_wp2_with fail;refine(xT w a9).mono ?_;rintro e w' ⟨rfl,rfl⟩;rw[e1];go_wp2;go_ret;exact⟨yT (by simp[xO];omega),rfl⟩
 go_enter Try.func45,Try.ntmps45;go_wp2_with fail;refine(xT w a9).mono ?_;rintro e w' ⟨rfl,rfl⟩;rw[e1];go_wp2
 go_loop [5] (fun i=>∃k:Nat,k<=s.size/\i=.int .i64 k/\(s.data.toList.take k).all (mL a9)=true) (fun i=>s.size-(intOf i).toNat)
 case atStart=>exact⟨0,Nat.zero_le _,rfl,rfl⟩
 obtain⟨k,hk,rfl,h0⟩:=hrel;have HA:=Kh h0;clear h0;by_cases hlt:k<s.size
 ·go_wp2
  ·go_ret
   exact⟨yT (by rw[eq_comm];exact pG s a9 k hlt (by omega)),rfl⟩
  ·go_round
   case rel=>exact⟨k+1,by omega,by go_num,qFL s a9 k hlt HA.out (by omega)⟩
   simp[intOf];omega
  go_ret;exact⟨yT (by rw[eq_comm];exact pG s a9 k hlt (by omega)),rfl⟩
 go_wp2;go_ret;exact⟨yT (by rw[eq_comm];exact kV s a9 k (by omega) (by omega) HA.out),rfl⟩
theorem qDD (B:Nat)(w:World)(v:Value)(c:CntV)(s:ByteArray)(h:qH B w v c)(hs:s.size<=maxLen):Calls Try.prog 24 #[v,.string s] w fun e w'=>e=.returned (.bool (oF c s))/\w.grownBy w' none:=by
 obtain⟨vi,vp,va,rfl,hi,hp,ha⟩:=id h;obtain⟨iA,iC,rfl⟩:=hi.shape;obtain⟨pA,pC,rfl⟩:=hp.shape;obtain⟨aA,aC,rfl⟩:=ha.shape;obtain⟨n,hn⟩:=Nm ((ints c.idx).length);obtain⟨pn,h3⟩:=Nm ((ints c.per).length);obtain⟨an,h6⟩:=Nm ((bls c.acc).length);rw[<-hn]at hi h;rw[<-h3]at hp h;rw[<-h6]at ha h;rw[<-hn,<-h3,<-h6];rw[zK]at hn h3;rw[zX]at h6;obtain⟨w1,h7⟩:=Nm (w.alloc (.cells #[.slice iA n iC,.slice pA pn pC,.slice aA an aC] 28));have H6:w.grownBy w1 none:=by rw[h7];exact Ga w _ none
 have H1:=heap_alloc_new w (.cells #[.slice iA n iC,.slice pA pn pC,.slice aA an aC] 28);obtain⟨P,hP⟩:=Nm w.heap.size;rw[<-h7,<-hP]at H1;obtain⟨q0,q1,q2⟩:=uK H1;obtain⟨R,hR⟩:=Nm (oF c s);rw[<-hR];have a4:Hid (cntE c≠0->R=false):=Kh (fun h=>by rw[hR];exact qBV h);have a3:Hid (xO s (n:Int)=false->R=false):=Kh (fun h=>by rw[hR];exact cH (by rw[<-hn];exact h));have H3:Hid (cntE c=0->xO s (n:Int)=true->R=c.acc.getD (atTo c (xN n (yS s)) n) false):=Kh (fun h h2=>by rw[hR,hn];exact qBU h (by rw[<-hn];exact h2));have HV:=Kh (kI B w1 _ c (h.kept H6));have f2:=Kh h;have HI:Hid (∀W:World,w.grownBy W none->Row B W (.slice iA n iC) (ints c.idx)):=Kh (fun W hg=>hi.kept hg (by simp));have HP:Hid (∀W:World,w.grownBy W none->Row B W (.slice pA pn pC) (ints c.per)):=Kh (fun W hg=>hp.kept hg (by simp));have HA:Hid (∀W:World,w.grownBy W none->Row B W (.slice aA an aC) (bls c.acc)):=Kh (fun W hg=>ha.kept hg (by simp));obtain⟨f0,c4,d8,e5,HN,e4⟩:=K6 H6 H1 h7 hP hn h3;have a8:=Kh h6;obtain⟨E,hE⟩:=Nm (cntE c);rw[<-hE]at HV a4 H3;have HE:=Kh hE;clear h hi hp ha hn h3 h6 H6 H1 h7 hP hR hE;go_enter Try.func24,Try.ntmps24;go_upto_region 1 with fail;rw[<-d8.out,<-e5.out];go_wp2_with fail;refine HV.out.mono ?_;rintro e w2 ⟨rfl,H0⟩;have h5:=Kh (zC f0.out H0);obtain⟨q0,q1,q2⟩:=uK (zB c4.out H0);have f4:=Kh (zB c4.out H0);clear H0 HV;by_cases hE0:E=0
 case neg =>
  have e1:(E != 0)=true:=by rw[bne_iff_ne];exact hE0
  have HF:=Kh (a4.out hE0);clear hE0;go_wp2;go_ret;exact⟨yT HF.out.symm,h5.out⟩
 have e1:(E != 0)=false:=by rw[bne_eq_false_iff_eq];exact hE0
 have h1:Hid (CntOk c):=Kh (gH.1 (by rw[<-HE.out];exact hE0));have f1:=Kh hE0;clear hE0;have H9:=Kh (qCU s (n:Int) w2 hs);obtain⟨wv,H5⟩:=Nm (xO s (n:Int));rw[<-H5]at H9 a3 H3;have H8:=Kh H5;clear H5;go_wp2_with fail;refine H9.out.mono ?_;rintro e w3 ⟨rfl,rfl⟩;clear H9;cases wv with
 | false =>
  have HF:=Kh (a3.out rfl);go_wp2;go_ret;exact⟨yT HF.out.symm,h5.out⟩
 | true =>
  have b7:=Kh (iU H8.out.symm);have d9:=Kh (H3.out f1.out rfl);have f7:=b7.out.2.2;have b3:1<=n:=by rw[HN.out];exact h1.out.k1
  have f9:n<=6:=by rw[HN.out];exact h1.out.k6
  clear a4 a3 H3;have HC:=f2;obtain⟨ib,io,ic,ei,_,i1,i2,ir⟩:=(HI.out _ h5.out).some_ (by rw[zK,<-HN.out];exact b3);obtain⟨pb,po,pc,ep,_,p1,p2,pr⟩:=(HP.out _ h5.out).some_ (by rw[zK,h1.out.pl,<-HN.out];exact b3)
  have b6:1<=c.acc.length:=by
   have:=qCN h1.out.pos [] _ _ (Nat.le_refl _) h1.out.size;omega
  obtain⟨ab,ao,ac,ea,_,a1,a2,ar⟩:=(HA.out _ h5.out).some_ (by rw[zX];exact b6);simp only[Value.slice.injEq]at ei ep ea;obtain⟨rfl,d1,rfl⟩:=ei;obtain⟨rfl,d0,rfl⟩:=ep;obtain⟨rfl,c9,rfl⟩:=ea;rw[zK,<-HN.out]at i1;rw[zK,h1.out.pl,<-HN.out]at p1;rw[zX,<-a8.out]at a1;have h3:n=pn:=by rw[e4.out,h1.out.pl,HN.out]
  unfold maxLen at i2 p2 a2;obtain⟨IR,PR,AR⟩:=K3 ir pr ar;subst h3;clear ir pr ar d1 d0 c9 b6;obtain⟨wo,rfl⟩:=Nm (w2:World);go_upto_region 4 with (first|(at_make;refine qC rfl _ _ _ rfl yJ rfl _ _ _ _ n rfl rfl rfl rfl ?b1 ?b2 ?_;(case b1=>omega);(case b2=>(unfold maxLen;omega));intro w4 H2 b5 c8)|fail);rw[<-yM,<-iQ]at H2;obtain⟨g,hg⟩:=Nm wo.heap.size;rw[<-hg]at H2⊢;have e7:Hid (wo.heap.size<=g):=Kh (by rw[hg];exact Nat.le_refl _);have c7:Hid (Arr w4 g 3 (nats (xN n ((yS s).take 0)))):=Kh H2;have e8:=Kh b5;clear H2 b5 c8 hg q0 q1 q2;go_wp2
  go_loopg [6] s.size (fun gh a6 wr=>∃j:Nat,gh+j=s.size/\a6=.int .i64 j/\Arr wr g 3 (nats (xN n ((yS s).take j)))/\wo.grownBy wr none)
  case atStart=>exact⟨0,rfl,rfl,c7.out,e8.out⟩
  clear c7;obtain⟨j,b4,rfl,h0,h4⟩:=hrel;obtain⟨b9,c6,e6⟩:=K3 b4 h0 h4;clear b4;by_cases hj:j<s.size
  ·have d2:(j:Int)<s.size:=by omega
   obtain⟨b0,a0,g1,f6,f8,H7,a9⟩:=eN b7.out.2.1 hj;have ca:=h0.nat a0 (by rw[wQ];exact H7);have fa:=h0.frozen a0;rw[oJ H7]at ca;have d6:((yS s).take j).count a0<=2048:=Nat.le_trans List.count_le_length (by rw[List.length_take];omega);have d7:(a0:Int)<n:=(by omega);have H4:=Kh (h0.nat_set a0 (by rw[wQ];exact H7) (((yS s).take j).count a0+1));rw[eL,show (yS s).take j++[a0]=(yS s).take (j+1) by rw[zZ (d:=0) (by rw[wW];exact hj),a9]]at H4;obtain⟨x,hx⟩:=Nm (((yS s).take j).count a0);rw[<-hx]at ca d6 H4;have g0:g<wr.heap.size:=h0.lt;clear h0 a9 hx h4;go_wp2;go_roundg (s.size-(j+1))
   case measure=>have:=b9.out;omega
   refine⟨j+1,by have:=b9.out;omega,by go_num,?_,?_⟩
   ·first|exact H4.out|(have:=H4.out;simpa using this)
   exact zC e6.out (zF wr ⟨g,a0,none⟩ _) (fun q e=>by have e:g=q:=Oj e;rw[<-e];exact e7.out)
  have d2:¬(j:Int)<s.size:=by omega
  have c5:Hid (Arr wr g 3 (nats (xN n (yS s)))):=Kh (by
   rw[<-List.take_of_length_le (l:=yS s) (i:=j) (by rw[wW];omega)];exact c6.out)
  have a5:=Kh (zC h5.out h4);have f3:=Kh (zB f4.out h4);obtain⟨z,hz⟩:=Nm (atTo c (xN n (yS s)) n)
  have d4:z<an:=by
   have hx:=h1.out.size;rw[<-HN.out,<-a8.out]at hx;rw[hz];exact qCN h1.out.pos _ _ _ (by rw[HN.out];exact Nat.le_refl _) hx
  have d3:(z:Int)<an:=by omega
  have b8:Hid (Row wr.heap.size wr (.slice (some ⟨g,0,none⟩) n n) (nats (xN n (yS s)))):=Kh (by
   have h9:=c5.out.rowT' (cap:=n) (by simp[nats,xN]) (by unfold maxLen;omega);have e9:(nats (xN n (yS s))).length=n:=by simp[nats,xN]
   rw[e9]at h9
   exact h9.row)
  have f5:Hid (∀W:World,wr.grownBy W none->Calls Try.prog 42 #[.agg #[.slice (some ⟨ib,io,none⟩) n iC,.slice (some ⟨pb,po,none⟩) n pC,.slice (some ⟨ab,ao,none⟩) an aC],.slice (some ⟨g,0,none⟩) n n] W fun e w'=>e=.returned (.int .i64 (z:Int))/\wr.grownBy w' none):=Kh (fun W hW=>by
   have h9:=(HC.out.kept (zC a5.out hW)).mono (Nat.le_add_right B W.heap.size)
   have h8:=qIS (B+W.heap.size) W _ (.slice (some ⟨g,0,none⟩) n n) c (xN n (yS s)) h9 h1.out (((b8.out.kept hW (by simp)).mono (Nat.le_trans hW.size (Nat.le_add_left _ B)))) (by rw[wQ,HN.out]) (fun x hx=>by
    simp only[xN,List.mem_map]at hx;obtain⟨a,_,rfl⟩:=hx
    exact Nat.le_trans List.count_le_length (by rw[wW];omega))
   rw[<-HN.out,<-hz]at h8
   exact h8.mono fun e w' h=>⟨h.1,zH hW h.2⟩)
  have a7:Hid (∀W:World,wr.grownBy W none->W.cell? ⟨P,0,none⟩=some (.slice (some ⟨ib,io,none⟩) n iC)/\W.cell? ⟨P,1,none⟩=some (.slice (some ⟨pb,po,none⟩) n pC)/\W.cell? ⟨P,2,none⟩=some (.slice (some ⟨ab,ao,none⟩) an aC)/\W.cell? ⟨ab,ao+z,none⟩=some (.bool R)):=Kh (fun W hW=>by
   obtain⟨c0,c1,c2⟩:=uK (zB f3.out hW);have c3:=((AR.out.kept h4 (by simp)).kept hW (by simp)).boolQ z (by rw[<-a8.out];exact d4);rw[hz,<-d9.out]at c3
   exact⟨c0,c1,c2,by rw[hz];exact c3⟩)
  clear h0 h4 c6 hz c5 b8;have d5:=zW wr none;go_upto_region 8 with fail;obtain⟨e0,e1,e2,e3⟩:=a7.out _ d5
  go_region_held3 (fun w'=>w'.cell? ⟨P,0,none⟩=some (.slice (some ⟨ib,io,none⟩) n iC)/\w'.cell? ⟨P,1,none⟩=some (.slice (some ⟨pb,po,none⟩) n pC)/\w'.cell? ⟨P,2,none⟩=some (.slice (some ⟨ab,ao,none⟩) an aC)/\w'.cell? ⟨ab,ao+z,none⟩=some (.bool R))
   (first|go_keep|exact a7.out _ (by assumption)|exact a7.out _ (zW wr none)|exact⟨e0,e1,e2,e3⟩|fail)
   (first|(go_at_call 42;(with_reducible refine(f5.out _ (by assumption)).mono ?_);rintro e w7 ⟨rfl,g2⟩)|fail)
  all_goals
   go_wp2;go_ret
   first
   | exact zC a5.out (by assumption)
   | exact⟨rfl,zC a5.out (by assumption)⟩
theorem iR (B:Nat)(w:World)(v:Value)(c:CntV)(s:ByteArray)(h:qH B w v c)(hs:s.size<=maxLen):Calls Try.prog 10 #[v,.string s] w fun e w'=>e=.returned (.bool (oF c s))/\w.grownBy w' none:=by
 obtain⟨vi,vp,va,rfl,hi,hp,ha⟩:=id h;obtain⟨iA,iC,rfl⟩:=hi.shape;obtain⟨pA,pC,rfl⟩:=hp.shape;obtain⟨aA,aC,rfl⟩:=ha.shape;obtain⟨n,hn⟩:=Nm ((ints c.idx).length);obtain⟨pn,h6⟩:=Nm ((ints c.per).length);obtain⟨an,h9⟩:=Nm ((bls c.acc).length);rw[<-hn]at hi h;rw[<-h6]at hp h;rw[<-h9]at ha h;rw[<-hn,<-h6,<-h9];rw[zK]at hn h6;rw[zX]at h9;obtain⟨w1,H0⟩:=Nm (w.alloc (.cells #[.slice iA n iC,.slice pA pn pC,.slice aA an aC] 28));have H8:w.grownBy w1 none:=by rw[H0];exact Ga w _ none
 have H2:=heap_alloc_new w (.cells #[.slice iA n iC,.slice pA pn pC,.slice aA an aC] 28);obtain⟨P,hP⟩:=Nm w.heap.size;rw[<-H0,<-hP]at H2;obtain⟨q0,q1,q2⟩:=uK H2;obtain⟨R,hR⟩:=Nm (oF c s);rw[<-hR];have b5:Hid (cntE c≠0->R=false):=Kh (fun h=>by rw[hR];exact qBV h);have b4:Hid (xO s (n:Int)=false->R=false):=Kh (fun h=>by rw[hR];exact cH (by rw[<-hn];exact h));have H5:Hid (cntE c=0->xO s (n:Int)=true->R=c.acc.getD (atTo c (xN n (yS s)) n) false):=Kh (fun h h2=>by rw[hR,hn];exact qBU h (by rw[<-hn];exact h2));have HV:=Kh (iP B w1 _ c (h.kept H8));have HI:Hid (∀W:World,w.grownBy W none->Row B W (.slice iA n iC) (ints c.idx)):=Kh (fun W hg=>hi.kept hg (by simp));have HP:Hid (∀W:World,w.grownBy W none->Row B W (.slice pA pn pC) (ints c.per)):=Kh (fun W hg=>hp.kept hg (by simp));have HA:Hid (∀W:World,w.grownBy W none->Row B W (.slice aA an aC) (bls c.acc)):=Kh (fun W hg=>ha.kept hg (by simp));obtain⟨i0,d2,g1,g5,HN,g4⟩:=K6 H8 H2 H0 hP hn h6;have b6:=Kh h9;obtain⟨E,hE⟩:=Nm (cntE c);rw[<-hE]at HV b5 H5;have HE:=Kh hE;clear h hi hp ha hn h6 h9 H8 H2 H0 hP hR hE;go_enter Try.func10,Try.ntmps10;go_upto_region 1 with fail;rw[<-g1.out,<-g5.out];go_wp2_with fail;refine HV.out.mono ?_;rintro e w2 ⟨rfl,H1⟩;have h7:=Kh (zC i0.out H1);obtain⟨q0,q1,q2⟩:=uK (zB d2.out H1);have i4:=Kh (zB d2.out H1);clear H1 HV;by_cases hE0:E=0
 case neg =>
  have e1:(E != 0)=true:=by rw[bne_iff_ne];exact hE0
  have HF:=Kh (b5.out hE0);clear hE0;go_wp2;go_ret;exact⟨yT HF.out.symm,h7.out⟩
 have e1:(E != 0)=false:=by rw[bne_eq_false_iff_eq];exact hE0
 have h1:Hid (CntOk c):=Kh (gH.1 (by rw[<-HE.out];exact hE0));have i3:=Kh hE0;clear hE0;have b3:=Kh (bG s (n:Int) w2 hs);obtain⟨wv,H7⟩:=Nm (xO s (n:Int));rw[<-H7]at b3 b4 H5;have a5:=Kh H7;clear H7;go_wp2_with fail;refine b3.out.mono ?_;rintro e w3 ⟨rfl,rfl⟩;clear b3;cases wv with
 | false =>
  have HF:=Kh (b4.out rfl);go_wp2;go_ret;exact⟨yT HF.out.symm,h7.out⟩
 | true =>
  have d0:=Kh (iU a5.out.symm);have g3:=Kh (H5.out i3.out rfl);have e5:=d0.out.2.2;have c3:1<=n:=by rw[HN.out];exact h1.out.k1
  have j0:n<=6:=by rw[HN.out];exact h1.out.k6
  clear b5 b4 H5;obtain⟨ib,io,ic,ei,_,i1,i2,ir⟩:=(HI.out _ h7.out).some_ (by rw[zK,<-HN.out];exact c3);obtain⟨pb,po,pc,ep,_,p1,p2,pr⟩:=(HP.out _ h7.out).some_ (by rw[zK,h1.out.pl,<-HN.out];exact c3)
  have c7:1<=c.acc.length:=by
   have:=qCN h1.out.pos [] _ _ (Nat.le_refl _) h1.out.size;omega
  obtain⟨ab,ao,ac,ea,_,a1,a2,ar⟩:=(HA.out _ h7.out).some_ (by rw[zX];exact c7);simp only[Value.slice.injEq]at ei ep ea;obtain⟨rfl,d8,rfl⟩:=ei;obtain⟨rfl,d7,rfl⟩:=ep;obtain⟨rfl,d6,rfl⟩:=ea;rw[zK,<-HN.out]at i1;rw[zK,h1.out.pl,<-HN.out]at p1;rw[zX,<-b6.out]at a1;have h6:n=pn:=by rw[g4.out,h1.out.pl,HN.out]
  unfold maxLen at i2 p2 a2;obtain⟨IR,PR,AR⟩:=K3 ir pr ar;subst h6;clear ir pr ar d8 d7 d6 c7;obtain⟨wo,rfl⟩:=Nm (w2:World);go_upto_region 4 with (first|(at_make;refine qC rfl _ _ _ rfl yJ rfl _ _ _ _ n rfl rfl rfl rfl ?b1 ?b2 ?_;(case b1=>omega);(case b2=>(unfold maxLen;omega));intro w4 H4 c4 d5)|fail);rw[<-yM,<-iQ]at H4;obtain⟨g,hg⟩:=Nm wo.heap.size;rw[<-hg]at H4⊢;have g8:Hid (wo.heap.size<=g):=Kh (by rw[hg];exact Nat.le_refl _);have d4:Hid (Arr w4 g 3 (nats (xN n ((yS s).take 0)))):=Kh H4;have g9:=Kh c4;clear H4 c4 d5 hg q0 q1 q2;go_wp2
  go_loopg [6,27] s.size (fun gh a6 a27 wr=>∃j:Nat,gh+j=s.size/\a27=.int .i64 j/\Arr wr g 3 (nats (xN n ((yS s).take j)))/\wo.grownBy wr none)
  case atStart=>exact⟨0,rfl,rfl,d4.out,g9.out⟩
  clear d4;obtain⟨j,h8,rfl,h0,h3⟩:=hrel;obtain⟨h5,d3,g7⟩:=K3 h8 h0 h3;clear h8;by_cases hj:j<s.size
  ·have e8:(j:Int)<s.size:=by omega
   obtain⟨b0,a0,j3,i6,i9,a3,c2⟩:=eN d0.out.2.1 hj;have ca:=h0.nat a0 (by rw[wQ];exact a3);have fa:=h0.frozen a0;rw[oJ a3]at ca;have f7:((yS s).take j).count a0<=2048:=Nat.le_trans List.count_le_length (by rw[List.length_take];omega);have f8:(a0:Int)<n:=(by omega);have H6:=Kh (h0.nat_set a0 (by rw[wQ];exact a3) (((yS s).take j).count a0+1));rw[eL,show (yS s).take j++[a0]=(yS s).take (j+1) by rw[zZ (d:=0) (by rw[wW];exact hj),c2]]at H6;obtain⟨x,hx⟩:=Nm (((yS s).take j).count a0);rw[<-hx]at ca f7 H6;have j2:g<wr.heap.size:=h0.lt;clear h0 c2 hx h3;go_wp2;go_roundg (s.size-(j+1))
   case measure=>have:=h5.out;omega
   refine⟨j+1,by have:=h5.out;omega,by go_num,?_,?_⟩
   ·first|exact H6.out|(have:=H6.out;simpa using this)
   exact zC g7.out (zF wr ⟨g,a0,none⟩ _) (fun q e=>by have e:g=q:=Oj e;rw[<-e];exact g8.out)
  have e8:¬(j:Int)<s.size:=by omega
  have i5:Hid (Arr wr g 3 (nats (xN n (yS s)))):=Kh (by
   rw[<-List.take_of_length_le (l:=yS s) (i:=j) (by rw[wW];omega)];exact d3.out)
  have g6:=Kh (zC h7.out h3);have IRX:=Kh (IR.out.kept h3 (by simp));have PRX:=Kh (PR.out.kept h3 (by simp));have ARX:=Kh (AR.out.kept h3 (by simp));obtain⟨q0,q1,q2⟩:=uK (zB i4.out h3);clear h0 h3 d3;obtain⟨wx,rfl⟩:=Nm (wr:World);go_wp2
  go_loopg [7,8,9,42] n (fun gh a7 a8 a9 a42 wr=>∃a q:Nat,gh+a=n/\a42=.int .i64 a/\a7=.int .i64 ((atTo c (xN n (yS s)) a:Nat):Int)/\wr=wx.drewN q)
  case atStart=>exact⟨0,0,rfl,rfl,rfl,rfl⟩
  obtain⟨a,q,h8,rfl,rfl,rfl⟩:=hrel;have h5:=Kh h8;clear h8;by_cases haN:a<n
  ·have f9:(a:Int)<n:=by omega
   have H3:a<c.idx.length:=(by rw[<-HN.out];exact haN);obtain⟨i,p,ei,ep,j1,e6,i7⟩:=qMH h1.out H3;have ci:=IRX.out.int a H3;have cp:=PRX.out.int a (by rw[h1.out.pl];exact H3);rw[ei]at ci;rw[ep]at cp;have ca:=i5.out.nat a (by rw[wQ];exact haN);obtain⟨N,a4⟩:=Nm ((xN n (yS s)).getD a 0)
   have j4:N<=2048:=by
    rw[a4,oJ haN];exact Nat.le_trans List.count_le_length (by rw[wW];exact e5)
   have h4:=qKY (ns:=xN n (yS s)) ei ep;have hK:=qSB h1.out (xN n (yS s)) (a:=a) (by omega);rw[<-a4]at ca h4;obtain⟨K,c8⟩:=Nm (atTo c (xN n (yS s)) a);rw[<-c8]at hK h4⊢;obtain⟨r,hr⟩:=Nm (i+p);rw[<-hr]at h4;have c1:r<=4000:=by omega
   obtain⟨x,hx⟩:=Nm (asN N i p);rw[<-hx]at h4;have b9:x<=4000:=by have:=qCO (n:=N) (i:=i) e6;omega
   obtain⟨e1,e2,e3⟩:=lR hK c1;clear e2;obtain⟨m,hm⟩:=Nm (K*r);rw[<-hm]at e1 e3 h4;obtain⟨y,hy⟩:=Nm (m+x);rw[<-hy]at h4;obtain⟨d1,c9,g0,j5⟩:=K4 h4 hx b9 e3;have c0:(i:Int)+(p:Int)=(r:Int):=by omega
   have b7:(m:Int)+(x:Int)=(y:Int):=by omega
   have f1:IntKind.i64.wrap ((i:Int)+(p:Int))=(r:Int):=by rw[c0];exact xR (by omega)
   have f2:IntKind.i64.wrap ((m:Int)+(x:Int))=(y:Int):=by rw[b7];exact xR (by omega)
   clear a4 c8 hr hx hm hy h4 c0 b7 e3 hK c1 b9 ei ep H3;by_cases hlt:N<i
   ·have e7:(N:Int)<(i:Int):=by omega
    have e9:¬(i:Int)<=(N:Int):=by omega
    have e0:x=N:=by rw[c9.out,asN,if_pos hlt]
    subst e0;clear hlt;go_wp2
    go_quiet (fail)
    clear e1 f1 f2;go_wp2;go_roundg (n-(a+1))
    case measure=>have:=h5.out;omega
    exact⟨a+1,_,by have:=h5.out;omega,by go_num,by rw[d1.out],by first|rfl|exact World.drewN_drewN _ _ _⟩
   obtain⟨d,hd⟩:=Nm (N-i);obtain⟨t,ht⟩:=Nm (d % p);have d9:x=i+t:=by rw[c9.out,asN,if_neg hlt,ht,hd]
   have c6:(N:Int)-(i:Int)=(d:Int):=by omega
   have e4:t<p:=(by rw[ht];exact Nat.mod_lt _ (by omega));have b8:(i:Int)+(t:Int)=(x:Int):=by omega
   have f3:IntKind.i64.wrap ((N:Int)-(i:Int))=(d:Int):=by rw[c6];exact xR (by omega)
   have f4:(d:Int).tmod (p:Int)=(t:Int):=by rw[ht];exact Int.ofNat_tmod d p
   have f5:IntKind.i64.wrap ((i:Int)+(t:Int))=(x:Int):=by rw[b8];exact xR (by have:=g0.out;omega)
   have f6:IntKind.i64.wrap (t:Int)=(t:Int):=xR (by omega);have i8:¬(p:Int)=0:=by omega
   have e9:(i:Int)<=(N:Int):=by omega
   clear hd ht d9 c6 e4 b8 hlt;go_wp2
   go_quiet (fail)
   go_wp2
   go_quiet (fail)
   clear e1 f1 f2 f3 f4 f5 f6;go_wp2;go_roundg (n-(a+1))
   case measure=>have:=h5.out;omega
   exact⟨a+1,_,by have:=h5.out;omega,by go_num,by rw[d1.out],by first|rfl|exact World.drewN_drewN _ _ _⟩
  have H9:a=n:=by have:=h5.out;omega
  have f9:¬(a:Int)<n:=by omega
  have c5:atTo c (xN n (yS s)) a<an:=by
   rw[H9,b6.out];have hx:=h1.out.size;rw[<-HN.out]at hx;exact qCN h1.out.pos _ _ _ (by rw[HN.out];exact Nat.le_refl _) hx
  have g2:Hid (R=c.acc.getD (atTo c (xN n (yS s)) a) false):=Kh (by rw[H9];exact g3.out);have cz:=ARX.out.boolQ (atTo c (xN n (yS s)) a) (by rw[<-b6.out];exact c5);rw[<-g2.out]at cz;obtain⟨z,hz⟩:=Nm (atTo c (xN n (yS s)) a);rw[<-hz]at cz c5⊢;have f0:(z:Int)<an:=(by omega);clear hz H9;go_wp2;go_ret;exact⟨rfl,zC g6.out (zS wx _ none)⟩
theorem qNU (B1 B2:Nat)(w:World)(v1 v2:Value)(d:DfaV)(n k:Nat)(hd:VD d n k)(h1:tO B1 w v1 d)(h2:tO B2 w v2 d):Calls Try.prog 25 #[v1,v2] w fun e w'=>e=.returned (.bool true)/\w.grownBy w' none:=by
 obtain⟨fb,fo,fc,b,off,cap,RB,RO,RC,rfl,H2⟩:=h1.at hd;obtain⟨fb',fo',fc',b',off',cap',RB',RO',RC',rfl,h3⟩:=h2.at hd;have hn:=hd.nbig;have b0:=hd.k6;obtain⟨S,hS⟩:=Nm (st0 d);have a0:dAgg k (st0 d) fb fo fc b off cap n=.agg #[.int .i64 (k:Int),.int .i64 (S:Int),.slice (some ⟨fb,fo,none⟩) n fc,.slice (some ⟨b,off,none⟩) n cap]:=by rw[hS];rfl
 have H9:dAgg k (st0 d) fb' fo' fc' b' off' cap' n=.agg #[.int .i64 (k:Int),.int .i64 (S:Int),.slice (some ⟨fb',fo',none⟩) n fc',.slice (some ⟨b',off',none⟩) n cap']:=by rw[hS];rfl
 rw[a0,H9];obtain⟨H0,h9,H3,H8⟩:=rY w #[.int .i64 (k:Int),.int .i64 (S:Int),.slice (some ⟨fb,fo,none⟩) n fc,.slice (some ⟨b,off,none⟩) n cap] #[.int .i64 (k:Int),.int .i64 (S:Int),.slice (some ⟨fb',fo',none⟩) n fc',.slice (some ⟨b',off',none⟩) n cap'] 37;obtain⟨wA,H4⟩:=Nm ((w.alloc (.cells #[.int .i64 (k:Int),.int .i64 (S:Int),.slice (some ⟨fb,fo,none⟩) n fc,.slice (some ⟨b,off,none⟩) n cap] 37)).alloc (.cells #[.int .i64 (k:Int),.int .i64 (S:Int),.slice (some ⟨fb',fo',none⟩) n fc',.slice (some ⟨b',off',none⟩) n cap'] 37));rw[<-H4]at H0 h9 H3 H8;obtain⟨P,hP⟩:=Nm w.heap.size;obtain⟨Q,hQ⟩:=Nm (w.heap.size+1);rw[<-hP]at H0;rw[<-hQ]at h9;have a9:=Kh hP;have a8:Hid (Q=P+1):=Kh (by omega);obtain⟨H6,H5,h4,a7,H7,h5⟩:=K6 H0 h9 H3 H4 H2 h3;have a6:=H2.cap;have a5:=h3.cap;have a4:=H2.fcap;have a3:=h3.fcap;unfold maxLen at a6 a5 a4 a3;have q1:=zL H0;have q2:=zL h9;clear H2 h3 hd h1 h2 a0 H9 H0 h9 H3 H8 H4 hP hQ hS;go_enter Try.func25,Try.ntmps25;go_upto_region 1 with fail;rw[<-a7.out,<-a9.out,<-a8.out];obtain⟨p0,p1,p2,p3⟩:=q1;obtain⟨q0,q1,q2,q3⟩:=q2;go_wp2;clear p0 p1 p2 p3 q0 q1 q2 q3
 go_loopg [5,41] n (fun gh s5 i wr=>∃q:Nat,gh+q=n/\i=.int .i64 q/\wA.grownBy wr none)
 case atStart=>exact⟨0,rfl,rfl,zT _ _⟩
 obtain⟨q,h8,rfl,hg⟩:=hrel;have h6:=Kh h8;have HG:=Kh hg;clear h8;obtain⟨p0,p1,p2,p3⟩:=zL (zB H6.out hg);obtain⟨q0,q1,q2,q3⟩:=zL (zB H5.out hg);have ha:=(H7.out.kept h4.out (by simp)).kept hg (by simp);have h0:=(h5.out.kept h4.out (by simp)).kept hg (by simp);by_cases hq:q<n
 ·have H1:(q:Int)<n:=by omega
  have c1:=ha.fin hq;have c2:=h0.fin hq;obtain⟨x,hx⟩:=Nm (d.final.getD q false);rw[<-hx]at c1 c2;clear hx ha h0 hg;go_wp2
  go_quiet (fail)
  go_wp2;go_roundg (n-(q+1))
  case measure=>have:=h6.out;omega
  exact⟨q+1,by have:=h6.out;omega,by go_num,zC HG.out (by first|exact zW _ none|exact zS _ _ none)⟩
 have H1:¬(q:Int)<n:=by omega
 clear ha h0 hg;go_wp2;clear p0 p1 p2 p3 q0 q1 q2 q3
 go_loopg [6,7,59,81] n (fun gh s6 s7 i s81 wr=>∃q:Nat,gh+q=n/\i=.int .i64 q/\wA.grownBy wr none)
 case atStart=>exact⟨0,rfl,rfl,HG.out⟩
 clear HG h6 hq H1;obtain⟨q,h8,rfl,hg⟩:=hrel;have h6:=Kh h8;have HG:=Kh hg;clear h8;obtain⟨p0,p1,p2,p3⟩:=zL (zB H6.out hg);obtain⟨q0,q1,q2,q3⟩:=zL (zB H5.out hg);have ha:=(H7.out.kept h4.out (by simp)).kept hg (by simp);have h0:=(h5.out.kept h4.out (by simp)).kept hg (by simp);by_cases hq:q<n
 ·have H1:(q:Int)<n:=by omega
  have c1:=ha.hd q hq;have c2:=h0.hd q hq;clear ha h0 hg;go_wp2
  go_quiet (fail)
  go_wp2
  go_loopg [7,81] k (fun gh s7 i wr=>∃x:Nat,gh+x=k/\i=.int .i64 x/\wA.grownBy wr none)
  case atStart=>exact⟨0,rfl,rfl,zC HG.out (by first|exact zW _ none|exact zS _ _ none)⟩
  clear HG p0 p1 p2 p3 q0 q1 q2 q3 c1 c2;obtain⟨x,h7,rfl,hg⟩:=hrel;have a1:=Kh h7;have HG:=Kh hg;clear h7;obtain⟨p0,p1,p2,p3⟩:=zL (zB H6.out hg);obtain⟨q0,q1,q2,q3⟩:=zL (zB H5.out hg);have ha:=(H7.out.kept h4.out (by simp)).kept hg (by simp);have h0:=(h5.out.kept h4.out (by simp)).kept hg (by simp);by_cases hx:x<k
  ·have a2:(x:Int)<k:=by omega
   have c1:=ha.hd q hq;have c2:=h0.hd q hq;have e1:=ha.el q x hq hx;have e2:=h0.el q x hq hx;have r1:=ha.rcap q hq;have r2:=h0.rcap q hq;unfold maxLen at r1 r2;obtain⟨y,hy⟩:=Nm (nx d q x);rw[<-hy]at e1 e2;clear hy ha h0 hg;go_wp2
   go_quiet (fail)
   go_wp2;go_roundg (k-(x+1))
   case measure=>have:=a1.out;omega
   exact⟨x+1,by have:=a1.out;omega,by go_num,zC HG.out (by first|exact zW _ none|exact zS _ _ none)⟩
  have a2:¬(x:Int)<k:=by omega
  clear ha h0 hg;go_wp2;go_roundg (n-(q+1))
  case measure=>have:=h6.out;omega
  exact⟨q+1,by have:=h6.out;omega,by go_num,HG.out⟩
 have H1:¬(q:Int)<n:=by omega
 clear ha h0 hg;go_wp2;go_ret;exact⟨rfl,zC h4.out HG.out⟩
theorem qGX (B1 B2:Nat)(w:World)(v1 v2:Value)(h1:tO B1 w v1 qHM)(h2:tO B2 w v2 qHM):Calls Try.prog 25 #[v1,v2] w fun e w'=>e=.returned (.bool true)/\w.grownBy w' none:=by
 obtain⟨fv,nv,rfl,hf,hn⟩:=h1;obtain⟨fv',nv',rfl,h8,h7⟩:=h2;obtain⟨a1,c1,rfl⟩:=hf.shape;obtain⟨a2,c2,rfl⟩:=hn.shape;obtain⟨a3,c3,rfl⟩:=h8.shape;obtain⟨a4,c4,rfl⟩:=h7.shape;show Calls Try.prog 25 #[.agg #[.int .i64 0,.int .i64 0,.slice a1 0 c1,.slice a2 0 c2],.agg #[.int .i64 0,.int .i64 0,.slice a3 0 c3,.slice a4 0 c4]] w _;clear hf hn h8 h7;obtain⟨h3,h0,h4,h6⟩:=rY w #[.int .i64 0,.int .i64 0,.slice a1 0 c1,.slice a2 0 c2] #[.int .i64 0,.int .i64 0,.slice a3 0 c3,.slice a4 0 c4] 37;obtain⟨wA,h5⟩:=Nm ((w.alloc (.cells #[.int .i64 0,.int .i64 0,.slice a1 0 c1,.slice a2 0 c2] 37)).alloc (.cells #[.int .i64 0,.int .i64 0,.slice a3 0 c3,.slice a4 0 c4] 37));rw[<-h5]at h3 h0 h4 h6;obtain⟨P,hP⟩:=Nm w.heap.size;obtain⟨Q,hQ⟩:=Nm (w.heap.size+1);rw[<-hP]at h3;rw[<-hQ]at h0;have H1:=Kh hP;have H0:Hid (Q=P+1):=Kh (by omega);have H2:=Kh h4;have h9:=Kh h5;obtain⟨p0,p1,p2,p3⟩:=zL h3;obtain⟨q0,q1,q2,q3⟩:=zL h0;clear h3 h0 h4 h6 h5 hP hQ;go_enter Try.func25,Try.ntmps25;go_upto_region 1 with fail;rw[<-h9.out,<-H1.out,<-H0.out];go_wp2;refine wp_loop_rounds 1 ?_;rw[rounds_succ];go_wp2;refine wp_loop_rounds 1 ?_;rw[rounds_succ];go_wp2;go_ret;exact⟨rfl,H2.out⟩
end Go.Proofs.Ytobakifdllameaa
