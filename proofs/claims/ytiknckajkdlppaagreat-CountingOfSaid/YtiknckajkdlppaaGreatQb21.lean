/- Part 21 of the proof. -/
import Derived.Test.YtiknckajkdlppaaGreatQb20
import Derived.Deep.Cut
set_option linter.unusedVariables false
set_option linter.unusedSimpArgs false
set_option maxRecDepth 100000
set_option maxHeartbeats 16000000
namespace Go.Proofs.YtiknckajkdlppaaGreat
open Go.RowKit
variable{B k q b a:Nat}{w:World}{v:Value}{c:CntV}{t:List (List Int)}{x:Int}
theorem pK.mono {B':Nat}(h:pK B w v c)(hB:B<=B'):pK B' w v c:=by
 obtain⟨vi,vp,va,rfl,h1,h2,h3⟩:=h;exact⟨vi,vp,va,rfl,h1.mono hB,h2.mono hB,h3.mono hB⟩
theorem pK.keptR {w':World}{row:Option Nat}(h:pK B w v c)(hg:w.grownBy w' row)(hr:∀k,row=some k->B<=k):pK B w' v c:=by
 obtain⟨vi,vp,va,rfl,h1,h2,h3⟩:=h;exact⟨vi,vp,va,rfl,h1.kept hg hr,h2.kept hg hr,h3.kept hg hr⟩
theorem qQP (w:World)(n i p:Nat)(hn:n<=4000)(hi:i<=2000)(hp:1<=p)(a9:p<=2000):Calls Tryz.prog 36 #[.int .i64 (n:Int),.int .i64 (i:Int),.int .i64 (p:Int)] w fun e w'=>e=.returned (.int .i64 ((asN n i p:Nat):Int))/\w=w':=by
 obtain⟨x,hx⟩:=Nm (asN n i p);rw[<-hx];have HX:=Kh hx;have h3:x<i+p:=by rw[hx];exact qCH hp
 clear hx;go_enter Tryz.func36,Tryz.ntmps36;by_cases hlt:n<i
 ·have h0:(n:Int)<(i:Int):=yo
  have h2:x=n:=by rw[HX.out,asN,if_pos hlt]
  subst h2;clear hlt;go_wp2;go_ret;trivial
 have h0:¬(n:Int)<(i:Int):=yo
 obtain⟨d,hd⟩:=Nm (n-i);obtain⟨t,ht⟩:=Nm (d % p);have h1:x=i+t:=by rw[HX.out,asN,if_neg hlt,ht,hd]
 have h4:t<p:=by rw[ht];exact Nat.mod_lt _ yo
 have f3:wrap64 ((i:Int)+((n:Int)-(i:Int)) % (p:Int))=(x:Int):=by
  rw[show (n:Int)-(i:Int)=(d:Int) by omega,show (d:Int) % (p:Int)=(t:Int) by rw[ht];exact(Int.natCast_emod d p).symm,show (i:Int)+(t:Int)=(x:Int) by omega];exact IntWalk.wrap64_in _ yo
 have h5:¬(p:Int)=0:=yo
 have F3:=Kh f3;clear hd ht h1 hlt f3;go_wp2;go_ret;exact⟨congrArg Ending.returned (congrArg (Value.int .i64) F3.out),rfl⟩
theorem qQO (B:Nat)(w:World)(v vn:Value)(c:CntV)(ns:List Nat)(h:pK B w v c)(a9:CntOk c)(hn:Row B w vn (nats ns))(hl:ns.length=c.idx.length)(hb:∀x∈ns,x<=4000):Calls Tryz.prog 20 #[v,vn] w fun e w'=>e=.returned (.int .i64 ((atTo c ns c.idx.length:Nat):Int))/\w.grownBy w' none:=by
 obtain⟨vi,vp,va,rfl,hi,hp,ha⟩:=h;obtain⟨k,hk⟩:=Nm c.idx.length;have H3:1<=k:=by rw[hk];exact a9.k1
 have b5:k<=6:=by rw[hk];exact a9.k6
 have h4:c.per.length=k:=by rw[a9.pl,hk]
 obtain⟨ib,io,ic,rfl,_,i1,i2,ir⟩:=hi.some_ (by rw[zL,<-hk];exact H3);obtain⟨pb,po,pc,rfl,_,p1,p2,pr⟩:=hp.some_ (by rw[zL,h4];exact H3);obtain⟨nb,no,nc,rfl,_,n1,n2,nr⟩:=hn.some_ (by simp only[nats,List.length_map];omega);have e9:(nats ns).length=k:=by simp only[nats,List.length_map];omega
 rw[zL,<-hk]at i1⊢;rw[zL,h4]at p1⊢;rw[e9]at n1⊢;unfold maxLen at i2 p2 n2;obtain⟨w1,h3⟩:=Nm (w.alloc (.cells #[.slice (some ⟨ib,io,none⟩) k ic,.slice (some ⟨pb,po,none⟩) k pc,va] 35));have h1:w.grownBy w1 none:=by rw[h3];exact Ga w _ none
 have h5:=heap_alloc_new w (.cells #[.slice (some ⟨ib,io,none⟩) k ic,.slice (some ⟨pb,po,none⟩) k pc,va] 35);obtain⟨P,hP⟩:=Nm w.heap.size;rw[<-h3,<-hP]at h5;obtain⟨q0,q1,q2⟩:=xZ h5;have b4:=Kh (ir.kept h1 yq);have a8:=Kh (pr.kept h1 yq);have b2:=Kh (nr.kept h1 yq);obtain⟨H8,a4,b1,HK,H7,b0⟩:=Kf h1 h3 hP hk a9 h4;have HL:=Kh hl;have b3:=Kh hb;clear hi hp ha hn ir pr nr h3 h1 h5 hP q2 hk h4 hl hb a9 e9;go_enter Tryz.func20,Tryz.ntmps20;go_upto_region 1 with fail;rw[<-a4.out,<-b1.out];go_wp2
 go_loopg [5,6,10] k (fun gh a5 a6 a10 wr=>∃a q:Nat,gh+a=k/\a10=.int .i64 a/\a5=.int .i64 ((atTo c ns a:Nat):Int)/\wr=w1.drewN q)
 case atStart=>exact⟨0,0,rfl,rfl,rfl,rfl⟩
 obtain⟨a,q,H4,rfl,rfl,rfl⟩:=hrel;have h7:=Kh H4;clear H4;by_cases haN:a<k
 ·have a2:(a:Int)<k:=yo
  have h2:a<c.idx.length:=(by rw[<-HK.out];exact haN);obtain⟨i,p,ei,ep,a1,H2,a0⟩:=qRH H7.out h2;have ci:=b4.out.int a h2;have cp:=a8.out.int a (by rw[b0.out];exact haN);rw[ei]at ci;rw[ep]at cp;have ca:=b2.out.nat a (by rw[HL.out];exact h2);obtain⟨N,h6⟩:=Nm (ns.getD a 0)
  have a3:N<=4000:=by
   rw[h6,zQ (by rw[HL.out];exact h2)];exact b3.out _ (List.getElem_mem _)
  have h0:=qLP (ns:=ns) ei ep;have hK:=qTC H7.out ns (a:=a) yo;rw[<-h6]at ca h0;obtain⟨K,H6⟩:=Nm (atTo c ns a);rw[<-H6]at hK h0⊢;have h8:=Kh (fun W=>qQP W N i p a3 a1 H2 a0);obtain⟨r,hr⟩:=Nm (i+p);rw[<-hr]at h0;have H1:r<=4000:=yo
  obtain⟨x,hx⟩:=Nm (asN N i p);rw[<-hx]at h0 h8;have H9:x<=4000:=by have:=qCH (n:=N) (i:=i) H2;omega
  obtain⟨e1,e2,e3⟩:=oY hK H1;clear e2;obtain⟨m,hm⟩:=Nm (K*r);rw[<-hm]at e1 e3 h0;obtain⟨y,hy⟩:=Nm (m+x);rw[<-hy]at h0;have a7:=Kh h0;have H0:(i:Int)+(p:Int)=(r:Int):=yo
  have h9:(m:Int)+(x:Int)=(y:Int):=yo
  have f1:IntKind.i64.wrap ((i:Int)+(p:Int))=(r:Int):=by rw[H0];exact wK yo
  have f2:IntKind.i64.wrap ((m:Int)+(x:Int))=(y:Int):=by rw[h9];exact wK yo
  clear h6 H6 hr hx hm hy h0 H0 h9 e3 hK H1 H9 ei ep h2;go_wp2
  go_quiet ((go_at_call 36;first|exact dS (h8.out _)|exact kD (h8.out _)))
  clear e1 f1 f2;go_wp2;go_roundg (k-(a+1))
  case measure=>have:=h7.out;omega
  exact⟨a+1,_,by have:=h7.out;omega,by go_num,by rw[a7.out],by first|rfl|exact World.drewN_drewN _ _ _⟩
 have H5:a=k:=by have:=h7.out;omega
 have a2:¬(a:Int)<k:=yo;have hz:((atTo c ns a:Nat):Int)=((atTo c ns k:Nat):Int):=by rw[H5]
 rw[hz];clear H5 hz;go_wp2;go_ret
 first
 | exact zE H8.out (zT w1 _ none)
 | exact⟨rfl,zE H8.out (zT w1 _ none)⟩
theorem qDD (B:Nat)(w:World)(v:Value)(c:CntV)(h:pK B w v c):Calls Tryz.prog 19 #[v] w fun e w'=>e=.returned (.int .i64 (cntE c))/\w.grownBy w' none:=by
 obtain⟨vi,vp,va,rfl,hi,hp,ha⟩:=h;obtain⟨iA,iC,rfl⟩:=hi.shape;obtain⟨pA,pC,rfl⟩:=hp.shape;obtain⟨aA,aC,rfl⟩:=ha.shape;obtain⟨n,hn⟩:=Nm ((ints c.idx).length);obtain⟨pn,h4⟩:=Nm ((ints c.per).length);obtain⟨an,H1⟩:=Nm ((bls c.acc).length);rw[<-hn]at hi;rw[<-h4]at hp;rw[<-hn,<-h4,<-H1];rw[zL]at hn h4;rw[yB]at H1;obtain⟨w1,h8⟩:=Nm (w.alloc (.cells #[.slice iA n iC,.slice pA pn pC,.slice aA an aC] 35));have h9:w.grownBy w1 none:=by rw[h8];exact Ga w _ none
 have H0:=heap_alloc_new w (.cells #[.slice iA n iC,.slice pA pn pC,.slice aA an aC] 35);obtain⟨P,hP⟩:=Nm w.heap.size;rw[<-h8,<-hP]at H0;obtain⟨q0,q1,q2⟩:=xZ H0;obtain⟨E,hE⟩:=Nm (cntE c);rw[<-hE];have b0:Hid (n<1\/6<n->E=1):=Kh (fun h=>by rw[hE];exact qPZ (by rw[<-hn];exact h));have a9:Hid (¬(n<1\/6<n)->pn≠n->E=22):=Kh (fun h h2=>by rw[hE];exact qPY (by rw[<-hn];exact h) (by rw[<-hn,<-h4];exact h2));have a8:Hid (¬(n<1\/6<n)->pn=n->¬PosC c.idx c.per->E=22):=Kh (fun h h2 h3=>by rw[hE];exact qPX (by rw[<-hn];exact h) (by rw[<-hn,<-h4];exact h2) h3);have a7:Hid (¬(n<1\/6<n)->pn=n->PosC c.idx c.per->E=if kR c.idx c.per=false then 3 else if (an:Int)≠lU c.idx c.per then 22 else 0):=Kh (fun h h2 h3=>by rw[hE,H1];exact qPW (by rw[<-hn];exact h) (by rw[<-hn,<-h4];exact h2) h3);have HI:=Kh (hi.kept h9 yq);have HP:=Kh (hp.kept h9 yq);obtain⟨h6,b7,b5,b6,HN,H2⟩:=Kf h9 H0 h8 hP hn h4;clear hi hp ha hn h4 H1 h9 H0 h8 hP hE;have h0:=Kh (vG w1 (n:Int));go_enter Tryz.func19,Tryz.ntmps19;go_upto_region 1 with fail;rw[<-b5.out,<-b6.out];by_cases h12:n<1\/6<n
 ·have e0:decide (1<=(n:Int)/\(n:Int)<=6)=false:=decide_eq_false yo
  rw[e0]at h0;clear e0;go_wp2_with fail;refine h0.out.mono ?_;rintro e w9 ⟨rfl,rfl⟩;go_wp2;go_ret;exact⟨yX (b0.out h12).symm,h6.out⟩
 have h1:¬(n:Int)<1:=yo
 have h2:¬6<(n:Int):=yo
 have e0:decide (1<=(n:Int)/\(n:Int)<=6)=true:=decide_eq_true yo;rw[e0]at h0;clear e0 h12;go_wp2_with fail;refine h0.out.mono ?_;rintro e w9 ⟨rfl,rfl⟩;by_cases h3:pn=n
 case neg =>
  have e3:((pn:Int) != (n:Int))=true:=by rw[bne_iff_ne];omega
  go_wp2;go_ret;exact⟨yX (a9.out yo h3).symm,h6.out⟩
 have e3:((pn:Int) != (n:Int))=false:=by rw[bne_eq_false_iff_eq];omega
 have h7:=Kh (a8.out yo h3);have H7:=Kh (a7.out yo h3);clear b0 a9 a8 a7;subst h3;obtain⟨ib,io,ic,ei,_,i1,i2,ir⟩:=HI.out.some_ (by rw[zL];have:=HN.out;omega);obtain⟨pb,po,pc,ep,_,p1,p2,pr⟩:=HP.out.some_ (by rw[zL];have:=H2.out;omega);simp only[Value.slice.injEq]at ei ep;obtain⟨rfl,b2,rfl⟩:=ei;obtain⟨rfl,b1,rfl⟩:=ep;rw[zL,<-HN.out]at i1;rw[zL,<-H2.out]at p1;unfold maxLen at i2 p2;have IR:=Kh ir;have PR:=Kh pr;clear ir pr b2 b1;go_wp2
 go_loopg [3,21] pn (fun gh a3 a26 wr=>∃a:Nat,gh+a=pn/\a26=.int .i64 a/\qPK c.idx c.per a/\wr=w1)
 case atStart=>exact⟨0,rfl,rfl,fun x hx=>by omega,rfl⟩
 obtain⟨a,a2,rfl,a1,rfl⟩:=hrel;have H5:=Kh a2;have a4:=Kh a1;clear a2 a1;by_cases ha:a<pn
 ·have b3:(a:Int)<pn:=yo
  have c1:=IR.out.int a (by rw[<-HN.out];exact ha);have c2:=PR.out.int a (by rw[<-H2.out];exact ha);obtain⟨x,hx⟩:=Nm (c.idx.getD a 0);obtain⟨y,hy⟩:=Nm (c.per.getD a 0);rw[<-hx]at c1;rw[<-hy]at c2;have a6:Hid (x<0\/y<1->¬PosC c.idx c.per):=Kh (fun h hp=>by have:=hp a (by rw[<-HN.out];exact ha);omega)
  have b4:Hid (0<=x->1<=y->qPK c.idx c.per (a+1)):=Kh (fun h1 h2 z hz=>by
   rcases Nat.lt_or_ge z a with h|h
   ·exact a4.out z h
   have:z=a:=yo
   subst this;rw[<-hx,<-hy];exact⟨h1,h2⟩)
  clear hx hy;by_cases hx0:x<0
  ·go_wp2
   go_ret;exact⟨yX (h7.out (a6.out (.inl hx0))).symm,h6.out⟩
  by_cases hy1:y<1
  ·go_wp2
   go_ret;exact⟨yX (h7.out (a6.out (.inr hy1))).symm,h6.out⟩
  go_wp2;go_roundg (pn-(a+1))
  case measure=>have:=H5.out;omega
  exact⟨a+1,by have:=H5.out;omega,by go_num,b4.out yo yo,rfl⟩
 have b3:¬(a:Int)<pn:=yo
 have a5:Hid (PosC c.idx c.per):=Kh (fun z hz=>a4.out z (by have:=H5.out;have:=HN.out;omega));have H8:=Kh (qAP B wr _ _ (.slice aA an aC) c.idx c.per HI.out HP.out (by rw[<-HN.out,<-H2.out]) a5.out (by have:=HN.out;omega));have H3:=Kh (H7.out a5.out);obtain⟨rn,H9⟩:=Nm (lU c.idx c.per);obtain⟨rb,a0⟩:=Nm (kR c.idx c.per);rw[<-H9,<-a0]at H8 H3;clear H9 a0;go_wp2_with fail;refine H8.out.mono ?_;rintro e w2 ⟨rfl,H4⟩;obtain⟨q0,q1,q2⟩:=xZ (zD b7.out H4);have H6:=Kh (zE h6.out H4);clear H4 H8;cases rb with
 | false =>
  go_wp2;go_ret;exact⟨yX (by rw[H3.out];simp),H6.out⟩
 | true =>
  by_cases h5:(an:Int)=rn
  ·have e5:((an:Int) != rn)=false:=by rw[bne_eq_false_iff_eq];exact h5
   have HZ:Hid (E=0):=Kh (by rw[H3.out,if_neg yq,if_neg (by simpa using h5)]);clear h5;go_wp2;go_ret;exact⟨yX HZ.out.symm,H6.out⟩
  have e5:((an:Int) != rn)=true:=by rw[bne_iff_ne];exact h5
  have HZ:Hid (E=22):=Kh (by rw[H3.out,if_neg yq,if_pos h5]);clear h5;go_wp2;go_ret;exact⟨yX HZ.out.symm,H6.out⟩
def digR (c:CntV)(k q b:Nat):List Nat:=(List.range k).map fun a=>if a<b then 0 else digN c q a
theorem nG (c:CntV)(k q b:Nat):(digR c k q b).length=k:=by simp[digR]
theorem qHK (c:CntV)(k q:Nat):digR c k q k=List.replicate k 0:=by
 refine List.ext_getElem (by simp[digR]) fun i h1 h2=>?_;rw[nG]at h1;simp only[digR,List.getElem_map,List.getElem_range,List.getElem_replicate];rw[if_pos h1]
theorem qOM (c:CntV)(k q:Nat):digR c k q 0=(List.range k).map (digN c q):=by simp[digR]
theorem qOL :(digR c k q (b+1)).set b (digN c q b)=digR c k q b:=by
 refine List.ext_getElem (by simp[digR]) fun i h1 h2=>?_;rw[List.getElem_set];simp only[digR,List.getElem_map,List.getElem_range]
 split
 ·rename_i e;subst e;rw[if_neg yo]
 by_cases h:i<b
 ·rw[if_pos yo,if_pos h]
 rw[if_neg yo,if_neg h]
theorem qFK (ha:a<k):((List.range k).map (digN c q)).getD a 0=digN c q a:=by
 rw[zQ (by simpa using ha)];simp
theorem qRQ {r:Nat}(hk:k=c.idx.length)(hb:b<k)(hr:r=radN c b)(hq:q<=2000):∃t d u:Nat,t=q / rQ (radN c) (b+1) k/\d=digN c q b/\u=q / rQ (radN c) b k/\(t:Int).tmod (r:Int)=(d:Int)/\(t:Int).tdiv (r:Int)=(u:Int)/\t<=2000/\d<=2000/\u<=2000:=by
 have h1:q / rQ (radN c) (b+1) k<=q:=Nat.div_le_self _ _;have h2:q / rQ (radN c) b k<=q:=Nat.div_le_self _ _;have h3:digN c q b=q / rQ (radN c) (b+1) k % r:=by unfold digN stN;rw[<-hk,hr]
 have h4:q / rQ (radN c) b k=q / rQ (radN c) (b+1) k / r:=by rw[lG hb,Nat.mul_comm,<-Nat.div_div_eq_div_mul,hr]
 have h5:=Nat.mod_le (q / rQ (radN c) (b+1) k) r;refine⟨_,_,_,rfl,h3.symm,h4.symm,Int.ofNat_tmod _ _,Int.ofNat_tdiv _ _,yo,yo,by rw[<-h4];omega⟩
theorem qRW (h:CntOk c)(hk:k=c.idx.length)(hq:q<c.acc.length)(ha:a<k):atTo c (((List.range k).map (digN c q)).set a (digN c q a+1)) k=jN c q a:=by
 subst hk;have h1:=qLR h.pos (ns:=(List.range c.idx.length).map (digN c q)) (ms:=((List.range c.idx.length).map (digN c q)).set a (digN c q a+1)) ha (fun b hb=>by rw[List.getD_eq_getElem?_getD,List.getD_eq_getElem?_getD,List.getElem?_set_ne (fun e=>hb e.symm)]) (by rw[qFK ha,List.getD_eq_getElem?_getD,List.getElem?_set_self (by simpa using ha)];rfl);rw[qLQ h hq]at h1;exact h1
theorem qLI (ha:a<k):(((List.range k).map (digN c q)).set a (digN c q a+1)).set a (digN c q a)=(List.range k).map (digN c q):=by
 rw[List.set_set];refine List.ext_getElem yq fun i h1 h2=>?_;rw[List.getElem_set]
 split
 ·rename_i e;subst e;simp
 rfl
theorem qBW (ha:a<c.idx.length):((List.range c.idx.length).map fun a=>(jN c q a:Int)).take (a+1)=((List.range c.idx.length).map fun a=>(jN c q a:Int)).take a++[(jN c q a:Int)]:=by
 rw[yH (d:=0) (by simpa using ha),zQ (by simpa using ha)];simp
theorem qJF (B:Nat)(w:World)(v:Value)(c:CntV)(a9:B<=w.heap.size)(h:pK B w v c):Calls Tryz.prog 7 #[v] w (qSF c w):=by
 obtain⟨vi,vp,va,rfl,hi,hp,ha⟩:=id h;obtain⟨iA,iC,rfl⟩:=hi.shape;obtain⟨pA,pC,rfl⟩:=hp.shape;obtain⟨aA,aC,rfl⟩:=ha.shape;obtain⟨k,hk⟩:=Nm c.idx.length;obtain⟨pn,f6⟩:=Nm c.per.length;obtain⟨n,hn⟩:=Nm c.acc.length;rw[zL,zL,yB,<-hk,<-f6,<-hn]at h⊢;rw[zL,<-hk]at hi;rw[zL,<-f6]at hp;rw[yB,<-hn]at ha;obtain⟨w1,b6⟩:=Nm (w.alloc (.cells #[.slice iA k iC,.slice pA pn pC,.slice aA n aC] 35));have g1:w.grownBy w1 none:=by rw[b6];exact Ga w _ none
 have n1:=heap_alloc_new w (.cells #[.slice iA k iC,.slice pA pn pC,.slice aA n aC] 35);have e0:w1.heap.size=w.heap.size+1:=by rw[b6];simp
 rw[<-b6]at n1;obtain⟨w2,e8⟩:=Nm (w1.alloc (.cells #[.int .i64 0,.int .i64 0,.slice none 0 0,.slice none 0 0] 29));have g2:w1.grownBy w2 none:=by rw[e8];exact Ga w1 _ none
 have n2:=heap_alloc_new w1 (.cells #[.int .i64 0,.int .i64 0,.slice none 0 0,.slice none 0 0] 29);rw[<-e8,e0]at n2;obtain⟨P,i5⟩:=Nm w.heap.size;rw[<-i5]at n1 n2;have d9:=zS n2;have g9:=zE g1 g2;have HB:Hid (∀W:World,w2.grownBy W none->(W.heap[P]?=some (.cells #[.slice iA k iC,.slice pA pn pC,.slice aA n aC] 35 (0,0))/\W.heap[P+1]?=some (.cells #[.int .i64 0,.int .i64 0,.slice none 0 0,.slice none 0 0] 29 (0,0)))/\w.grownBy W none):=Kh (fun W hg=>⟨⟨zD (zD n1 g2) hg,zD n2 hg⟩,zE g9 hg⟩);have HI:Hid (∀W:World,w.grownBy W none->Row B W (.slice iA k iC) (ints c.idx)):=Kh (fun W hg=>hi.kept hg yq);have HP:Hid (∀W:World,w.grownBy W none->Row B W (.slice pA pn pC) (ints c.per)):=Kh (fun W hg=>hp.kept hg yq);have HA:Hid (∀W:World,w.grownBy W none->Row B W (.slice aA n aC) (bls c.acc)):=Kh (fun W hg=>ha.kept hg yq);have HC:=Kh h;have HV:=Kh (qDD B w2 _ c (h.kept g9));obtain⟨s2,s1,b5,HK,n0,HN⟩:=Kf b6 e8 i5 hk f6 hn;obtain⟨E,hE⟩:=Nm (cntE c);rw[<-hE]at HV;have k0:=Kh hE;have r7:=Kh d9;clear h hi hp ha hk f6 hn g1 n1 e0 g2 n2 g9 b6 e8 i5 hE d9;go_enter Tryz.func7,Tryz.ntmps7;go_upto_region 1 with fail;rw[<-s2.out,<-b5.out,<-s1.out];obtain⟨q0,q1,q2⟩:=xZ (HB.out _ (zX w2 none)).1.1;go_wp2_with fail;refine HV.out.mono ?_;rintro e w3 ⟨rfl,H2⟩;have a8:=Kh H2;clear q0 q1 q2;by_cases h0:E=0
 ·subst h0
  have h6:=Kh (qPV.1 k0.out.symm);have l2:1<=k:=by rw[HK.out];exact h6.out.k1
  have y3:k<=6:=by rw[HK.out];exact h6.out.k6
  have p6:k=pn:=by rw[n0.out,HK.out];exact h6.out.pl.symm
  subst p6;have y1:n<=2000:=by rw[HN.out];exact qO h6.out.size
  obtain⟨q0,q1,q2⟩:=xZ (HB.out _ H2).1.1;obtain⟨fb,fo,fc,ef,_,fc1,fc2,fr⟩:=(HA.out _ (HB.out _ (zX w2 none)).2).some_ (by rw[yB];have:=(iS h6.out).n1;omega);obtain⟨ib,io,ic,ei,_,ic1,ic2,ir⟩:=(HI.out _ (HB.out _ (zX w2 none)).2).some_ (by rw[zL,<-HK.out];exact l2);obtain⟨pb,po,pc,ep,_,pc1,pc2,pr⟩:=(HP.out _ (HB.out _ (zX w2 none)).2).some_ (by rw[zL,h6.out.pl,<-HK.out];exact l2);simp only[Value.slice.injEq]at ef ei ep;obtain⟨rfl,e0,rfl⟩:=ef;obtain⟨rfl,d9,rfl⟩:=ei;obtain⟨rfl,o8,rfl⟩:=ep;rw[yB,<-HN.out]at fc1;rw[zL,<-HK.out]at ic1;rw[zL,<-n0.out]at pc1;unfold maxLen at fc2 ic2 pc2;obtain⟨n9,n4,m9⟩:=Kc fr ir pr
  have s8:Hid (∀b,b<k->∃i p r:Nat,c.idx.getD b 0=(i:Int)/\c.per.getD b 0=(p:Int)/\i<=2000/\p<=2000/\1<=p/\r=i+p/\r=radN c b):=Kh (fun b hb=>by
   obtain⟨i,p,e1,e2,e3,e4,e5⟩:=qRH h6.out (a:=b) (by rw[<-HK.out];exact hb)
   exact⟨i,p,i+p,e1,e2,e3,e5,e4,rfl,by unfold radN iN pN;rw[e1,e2];simp⟩)
  obtain⟨w5,e7⟩:=Nm (w3.alloc (.cells #[.int .i64 (k:Int),.int .i64 0,.slice none 0 0,.slice none 0 0] 29));obtain⟨D,hD⟩:=Nm w3.heap.size;have i1:w3.grownBy w5 none:=by rw[e7];exact Ga w3 _ none
  have i4:w5.heap[D]?=some (.cells #[.int .i64 (k:Int),.int .i64 0,.slice none 0 0,.slice none 0 0] 29 (0,0)):=by rw[e7,hD];exact heap_alloc_new w3 _
  have o3:Hid (Built D w5 D k 0 (c.acc.take 0) ((dfaC c).next.take 0) [] none 0 none 0):=Kh ⟨i4,World.ownsRow_nil _ _ _ _,World.ownsRow_nil _ _ _ _,tN.nil,rfl⟩;have q4:fb<D:=by have:=H2.size;have h9:=fr.1;omega
  have y7:P+1<D:=by have:=H2.size;have:=r7.out;omega
  have c7:=zE H2 i1;have q9:=zS i4;obtain⟨t7,j9,s0,d8,z0⟩:=Ke i1 c7 e7 hD q9;clear H2 fr ir pr e0 d9 o8 i1 i4 c7 e7 hD;go_upto_region 6 with fail;rw[<-s0.out,<-d8.out];obtain⟨q0,q1,q2⟩:=xZ (HB.out _ j9.out).1.1;go_wp2
  go_loopg [29] n (fun gh v29 wr=>∃(q:Nat) (hs:List Value) (sf:Option Addr) (cf:Nat) (sn:Option Addr) (cn:Nat),gh+q=n/\v29=.int .i64 q/\Built D wr D k 0 (c.acc.take q) ((dfaC c).next.take q) hs sf cf sn cn/\w3.grownBy wr (some D))
  case atStart=>exact⟨0,[],none,0,none,0,rfl,rfl,o3.out,vM t7.out⟩
  clear o3 q0 q1 q2;obtain⟨q,hs,sf,cf,sn,cn,l3,rfl,H5,a2⟩:=hrel;obtain⟨j6,o1,n6⟩:=Kc l3 H5 a2;have j2:Hid (∀W:World,wr.grownBy W none->∀x y,w2.heap[x]?=some y->x≠D->W.heap[x]?=some y):=Kh (fun W hW x y hx c4=>zD (zD (zD hx a8.out) a2 (fun e=>c4 (Oj e).symm)) hW);have a7:Hid (∀W:World,wr.grownBy W none->W.heap[P]?=some (.cells #[.slice (some ⟨ib,io,none⟩) k iC,.slice (some ⟨pb,po,none⟩) k pC,.slice (some ⟨fb,fo,none⟩) n aC] 35 (0,0))):=Kh (fun W hW=>j2.out W hW _ _ (HB.out _ (zX w2 none)).1.1 yo);have d4:Hid (wr.heap[P+1]?=some (.cells #[.int .i64 0,.int .i64 0,.slice none 0 0,.slice none 0 0] 29 (0,0))):=Kh (j2.out wr (zX wr none) _ _ (HB.out _ (zX w2 none)).1.2 yo)
  have j1:Hid (∀W:World,wr.grownBy W none->uE W ib io (ints c.idx)/\uE W pb po (ints c.per)/\uE W fb fo (bls c.acc)/\pK D W (.agg #[.slice (some ⟨ib,io,none⟩) k iC,.slice (some ⟨pb,po,none⟩) k pC,.slice (some ⟨fb,fo,none⟩) n aC]) c):=Kh (fun W hW=>by
   have r4:=((HC.out.kept (zE (HB.out _ (zX w2 none)).2 a8.out yq)).mono (show B<=D by have:=b5.out;omega));have c4:∀x,x<w2.heap.size->(some D:Option Nat)≠some x:=fun x hx e=>by have:=Oj e;have:=d8.out;have:=a8.out.size;omega
   exact⟨((n4.out.kept a8.out yq).kept a2 (c4 _ n4.out.1)).kept hW yq,((m9.out.kept a8.out yq).kept a2 (c4 _ m9.out.1)).kept hW yq,((n9.out.kept a8.out yq).kept a2 (c4 _ n9.out.1)).kept hW yq,(r4.keptR a2 (fun k e=>by have:=Oj e;omega)).kept hW⟩)
  have k4:=a2.size;have m4:=Kh k4;clear l3 H5 a2 k4 j2;by_cases hq:q<n
  ·have p5:(q:Int)<n:=yo
   have b9:Hid (q<c.acc.length):=Kh (by rw[<-HN.out];exact hq);obtain⟨wo,rfl⟩:=Nm (wr:World);go_upto_region 10 with (first|(at_make;refine pL rfl _ _ _ rfl yJ rfl _ _ _ _ k rfl rfl rfl rfl ?b1 ?b2 ?_;(case b1=>omega);(case b2=>(unfold maxLen;omega));intro w4 f8 l5 o7)|fail);rw[<-yW,<-qHK c k q]at f8;obtain⟨g,hg⟩:=Nm wo.heap.size;rw[<-hg]at f8⊢;obtain⟨j7,o6,n8⟩:=Kc hg f8 l5;have m8:Hid (q=q / rQ (radN c) k k):=Kh (by rw[lF (Nat.le_refl _),Nat.div_one]);clear f8 l5 o7 hg;go_wp2
   go_loopg [9,10] k (fun gh v9 v10 wx=>∃(b u:Nat) (z:Int),gh=b/\v9=.int .i64 (u:Int)/\v10=.int .i64 z/\z=(b:Int)-1/\b<=k/\u=q / rQ (radN c) b k/\Arr wx g 3 (nats (digR c k q b))/\wo.grownBy wx none)
   case atStart=>exact⟨k,q,(k:Int)-1,rfl,rfl,by go_num,rfl,Nat.le_refl _,m8.out,o6.out,n8.out⟩
   clear o6 n8 m8;obtain⟨b,u,z,a5,rfl,rfl,hz,q6,hu,h5,h4⟩:=hrel;obtain⟨t6,g0,n5,HU⟩:=Kd a5 h5 h4 hu;clear a5 hu;rcases b with _|b
   ·obtain rfl:z = -1:=yo
    have o5:Hid (Arr wr g 3 (nats ((List.range k).map (digN c q)))):=Kh (by rw[<-qOM];exact h5);have p8:=h5.lt;clear h5 g0 hz q6 h4;obtain⟨wa,rfl⟩:=Nm (wr:World);go_wp2
    go_loopg [12,13] k (fun gh v12 v13 wx=>∃(a:Nat) (sr:Option Addr) (cr:Nat),gh+a=k/\v13=.int .i64 a/\v12=.slice sr a cr/\wx.ownsRow wa.heap.size 3 1 (.slice sr a cr) a (ints (((List.range c.idx.length).map fun a=>(jN c q a:Int)).take a))/\Arr wx g 3 (nats ((List.range k).map (digN c q)))/\wo.grownBy wx none/\wa.heap.size<=wx.heap.size)
    case atStart=>exact⟨0,none,0,rfl,rfl,rfl,by simpa [ints] using World.ownsRow_nil _ _ _ _,o5.out,n5.out,Nat.le_refl _⟩
    clear o5;obtain⟨a,sr,cr,l4,rfl,rfl,H1,h5,h4,g4⟩:=hrel;obtain⟨j8,i9,g0,t4,r9⟩:=Ke l4 H1 h5 h4 g4;clear l4;by_cases ha:a<k
    ·have q8:(a:Int)<k:=yo
     have c9:digN c q a<=2000:=by
      unfold digN;have h1:=Nat.mod_le (q / stN c a) (radN c a);have h2:=Nat.div_le_self q (stN c a);omega
     have ca:=h5.nat a (by simpa using ha);rw[qFK ha]at ca;have fa:=h5.frozen a;obtain⟨d,hd⟩:=Nm (digN c q a);rw[<-hd]at ca c9;have b8:=h5.nat_set a (by simpa using ha) (d+1);rw[show ((d+1:Nat):Int)=(d:Int)+1 by omega]at b8;obtain⟨wb,e6⟩:=Nm (wr.setCell ⟨g,a,none⟩ (.int .i64 ((d:Int)+1)));have H7:wr.grownBy wb (some g):=(by rw[e6];exact zH wr ⟨g,a,none⟩ _);have a5:=yM h4 H7 (by show _<=g;have:=j7.out;omega);rw[<-e6]at b8;have a1:=H1.kept H7 (.inr (fun e=>by have:=(H1.lt g e).1;omega));obtain⟨s6,d7,d5,r8⟩:=Kd b8 a5 a1 e6;have r5:=Kh H7.size
     have o4:Hid (Calls Tryz.prog 20 #[.agg #[.slice (some ⟨ib,io,none⟩) k iC,.slice (some ⟨pb,po,none⟩) k pC,.slice (some ⟨fb,fo,none⟩) n aC],.slice (some ⟨g,0,none⟩) k k] wb fun e w'=>e=.returned (.int .i64 ((jN c q a:Nat):Int))/\wb.grownBy w' none):=Kh (by
      have h9:=b8.rowT' (cap:=k) (by simp[nats]) jm;have e9:(nats (((List.range k).map (digN c q)).set a (d+1))).length=k:=by simp[nats]
      rw[e9]at h9
      have h8:=qQO wb.heap.size wb _ (.slice (some ⟨g,0,none⟩) k k) c _ (((j1.out wb a5).2.2.2).mono (by have:=d8.out;have:=a5.size;have:=m4.out;omega)) h6.out h9.row (by simp[HK.out]) (fun x hx=>by
       rcases List.mem_or_eq_of_mem_set hx with hx|hx
       ·obtain⟨y,_,rfl⟩:=List.mem_map.1 hx
        unfold digN;have h1:=Nat.mod_le (q / stN c y) (radN c y);have h2:=Nat.div_le_self q (stN c y);omega
       omega)
      rw[<-HK.out,hd,qRW h6.out HK.out b9.out ha]at h8
      exact h8)
     have HD:=Kh hd;have t9:=Kh c9;clear h5 H1 h4 b8 a5 H7 a1 e6 hd g4;go_upto_region 20 with fail;rw[<-r8.out];obtain⟨q0,q1,q2⟩:=xZ (a7.out wb d7.out);clear ca fa;go_wp2_with fail;refine o4.out.mono ?_;rintro e wc ⟨rfl,c5⟩;have p2:=r5.out;have p1:=r9.out;have p0:=c5.size;have H4:=Kh (zZ d5.out c5);have k3:=Kh (s6.out.kept c5 yq);have t5:=Kh (zE d7.out c5);have g3:wa.heap.size<=wc.heap.size:=yo
     have y8:=Kh g3;obtain⟨N,hN⟩:=Nm (jN c q a);rw[<-hN];have f9:=Kh hN;clear q0 q1 q2 o4 c5 p2 p1 p0 hN;go_upto_region 21 with (first|(at_builtin;refine app1 rfl _ _ _ rfl yJ wa.heap.size _ a _ rfl H4.out _ rfl rfl ?c1 ?c2 ?c3 ?_;(case c1=>(unfold maxLen;omega));(case c2=>omega);(case c3=>exact g3);intro sa' sc' w6 h7 i0 g8)|fail);have y9:=Kh h7;have c0:(Value.slice sr a cr).ownBlock≠some g:=fun e=>by have:=(H4.out.lt g e).1;omega
     have a0:=k3.out.kept i0 c0;have ca:=a0.nat a (by simpa using ha);rw[List.getD_eq_getElem?_getD,List.getElem?_set_self (by simpa using ha),Option.getD_some,show ((d+1:Nat):Int)=(d:Int)+1 by omega]at ca;have fa:=a0.frozen a;have g5:=a0.nat_set a (by simpa using ha) d;rw[HD.out,qLI ha,<-HD.out]at g5;have s5:=Kh g5;have c6:=zE t5.out i0 (fun j e=>by have:=(H4.out.lt j e).1;have:=n5.out.size;omega);have H3:=zH w6 ⟨g,a,none⟩ (.int .i64 (d:Int));have j3:=Kh (yM c6 H3 (by show _<=g;have:=j7.out;omega));have m3:=h7.kept H3 (.inr (fun e=>by have:=(h7.lt g e).1;omega));have s9:=Kh m3;have k5:wa.heap.size<=(w6.setCell ⟨g,a,none⟩ (.int .i64 (d:Int))).heap.size:=by have:=H3.size;omega
     have r6:=Kh k5;have c9:=t9.out;clear h7 i0 g8 c0 a0 g5 c6 H3 m3 k5 g3;go_wp2;clear ca fa c9;go_roundg (k-(a+1))
     case measure=>have:=j8.out;omega
     refine⟨a+1,sa',sc',by have:=j8.out;omega,by go_num,rfl,?_,s5.out,j3.out,r6.out⟩;rw[qBW (by rw[<-HK.out];exact ha),eH,<-f9.out];exact s9.out
    have q7:a=k:=by have:=j8.out;omega
    have q8:¬(a:Int)<k:=yo;subst q7
    have i7:Hid (RowT wr.heap.size 3 wr (.slice sr a cr) (ints ((dfaC c).next.getD q []))):=Kh (by
     rw[aS b9.out,<-List.take_of_length_le (l:=(List.range c.idx.length).map fun a=>(jN c q a:Int)) (i:=a) (by simp[HK.out])]
     exact RowT.of_owns H1)
    have c8:c.acc.take (q+1)=c.acc.take q++[c.acc.getD q false]:=yH b9.out;have b7:(dfaC c).next.take (q+1)=(dfaC c).next.take q++[(dfaC c).next.getD q []]:=yH (by rw[(iS h6.out).nl];exact b9.out);have t8:=Kh c8;have s4:=Kh b7;have H5:=o1.out.grow h4;have l1:((dfaC c).next.take q).length=q:=by rw[List.length_take,(iS h6.out).nl,<-HN.out];omega
    have b3:=j1.out wr h4;have l8:=b3.2.2.1.boolQ q b9.out;have l7:=(xZ (a7.out wr h4)).2.2;have k8:D<=wr.heap.size:=by have:=d8.out;have:=m4.out;have:=h4.size;omega
    have j4:=Kh h4;clear c8 b7 h5 H1 h4 g0 i9 g4 b3;go_upto_region 22 with fail;refine qJG (base:=D) (D:=D) (b:=c.acc.getD q false) (row:=(dfaC c).next.getD q []) (m:=q) (k:=a) (n:=n) (fb:=fb) (fo:=fo) (fc:=aC) (q:=q) H5 l1 yo i7.out hq ⟨fc1,fc2⟩ k8 yo q4 l7 l8 ?_;intro z84 z85 z86 z87 z88 z89 z90 z91 z92 z93 z94 z95 z96 z97 z98 z99 wz sf' cf' sn' cn' b4 H3;have x0:Hid (Built D wz D a 0 (c.acc.take (q+1)) ((dfaC c).next.take (q+1)) (hs++[.slice sr a cr]) sf' cf' sn' cn'):=Kh (b4.congr t8.out s4.out);have j3:=Kh (H3 w3 (zI n6.out (vM j4.out)) (by have:=d8.out;omega));clear H5 l1 l8 l7 k8 b4 H3;go_wp2;go_roundg (n-(q+1))
    case measure=>have:=j6.out;omega
    exact⟨q+1,_,sf',cf',sn',cn',by have:=j6.out;omega,by go_num,x0.out,j3.out⟩
   obtain rfl:z=(b:Int):=yo
   have a6:b<k:=yo;obtain⟨i,p,r,ei,ep,y4,p7,x8,hr,k9⟩:=s8.out b a6;have b3:=j1.out wr h4;have ci:=b3.1.int b (by rw[<-HK.out];exact a6);have cp:=b3.2.1.int b (by rw[h6.out.pl,<-HK.out];exact a6);rw[ei]at ci;rw[ep]at cp;have er:IntKind.i64.wrap ((i:Int)+(p:Int))=(r:Int):=by rw[hr];exact wK yo
   have y5:(b:Int)<k:=yo;have y6:(0:Int)<=b:=yo
   have x6:1<=r:=yo
   have x5:r<=4000:=yo
   obtain⟨t,d,u',ht,hd,k7,f1,f2,x2,c9,x1⟩:=qRQ (q:=q) HK.out a6 k9 yo;have p3:u=t:=by rw[HU.out,ht]
   subst p3;have cc:=h5.cell b (by simp[nats,nG];exact a6);have fc':=h5.frozen b;obtain⟨y,hy⟩:∃y,y=(nats (digR c k q (b+1)))[b]'(by simp[nats,nG];exact a6):=⟨_,rfl⟩;rw[<-hy]at cc;have p8:=h5.lt;have s3:=Kh k7
   have d6:Hid (∀m,Arr ((wr.drewN m).setCell ⟨g,b,none⟩ (.int .i64 (d:Int))) g 3 (nats (digR c k q b))/\wo.grownBy ((wr.drewN m).setCell ⟨g,b,none⟩ (.int .i64 (d:Int))) none):=Kh (fun m=>by
    have h1:=(h5.of_heap (w':=wr.drewN m) rfl).nat_set b (by rw[nG];exact a6) d;rw[hd,qOL,<-hd]at h1
    exact⟨h1,yM (zE h4 (zT wr m none)) (zH _ ⟨g,b,none⟩ _) (by show _<=g;have:=j7.out;omega)⟩)
   obtain⟨q0,q1,q2⟩:=xZ (a7.out wr h4);have x7:¬(r:Int)=0:=yo
   have f3:IntKind.i64.wrap (d:Int)=(d:Int):=wK yo;have f4:IntKind.i64.wrap (u':Int)=(u':Int):=wK yo;clear hy h5 ht hd k7 b3 hr k9 ei ep hz h4 p7 g0 HU;obtain⟨wo3,rfl⟩:=Nm (wr:World);go_wp2
   go_quiet (fail)
   clear er;go_wp2
   go_region
   all_goals (try go_frame)
   all_goals go_wp2
   all_goals
    go_roundg b
    case measure=>have:=t6.out;omega
    refine⟨b,u',(b:Int)-1,rfl,rfl,by go_num,rfl,yo,s3.out,?_,?_⟩
    ·exact(d6.out _).1
    exact(d6.out _).2
  have g6:q=n:=by have:=j6.out;omega
  have p5:¬(q:Int)<n:=yo;have c8:c.acc.take q=c.acc:=List.take_of_length_le (by rw[g6,HN.out];exact Nat.le_refl _);have b7:(dfaC c).next.take q=(dfaC c).next:=List.take_of_length_le (by rw[g6,(iS h6.out).nl,HN.out];exact Nat.le_refl _);have H5:=o1.out;rw[c8,b7]at H5;have i2:=H5.box;have f5:=iS h6.out;have g7:=f5.nl;rw[g7,<-HN.out]at i2;obtain⟨m,hm⟩:=Nm (minD (dfaC c) k)
  have n3:Hid (Calls Tryz.prog 21 #[.agg #[.int .i64 (k:Int),.int .i64 0,.slice sf n cf,.slice sn n cn]] wr (qSD wr m)):=Kh (by
   have h8:=H5.dfa;rw[HK.out]at h8;have h9:=eC wr.heap.size wr _ (dfaC c) _ _ (Nat.le_refl _) h8 f5;rw[g7,<-HN.out,<-HK.out,<-hm]at h9
   exact h9)
  obtain⟨N,hN⟩:=Nm (minN (dfaC c) k);have H6:=cJ f5;rw[<-HK.out,<-hm,<-hN]at H6;have m1:m.letters=k:=H6.hk;have l9:m.start=0:=by rw[hm];rfl
  have m2:m.final.length=N:=H6.hn;have m0:m.next.length=N:=H6.nl;obtain⟨HM,f9,m6,m5,s7,i8⟩:=Kf hm hN m1 l9 m2 m0;obtain⟨d0,d1,d2,d3⟩:=zM i2;have j5:Hid (w.grownBy wr none):=Kh (zE (zE (HB.out _ (zX w2 none)).2 a8.out yq) n6.out (fun j e=>by have:=Oj e;have:=b5.out;omega));have m7:=Kh (zS d4.out);clear H6 hm hN m1 l9 m2 m0 H5 c8 b7 i2 f5 g7 g6;go_wp2_with fail;refine n3.out.mono ?_;rintro e x9 ⟨v9,rfl,l6,f7⟩;have o0:=Kh l6;obtain⟨o9,x4,sf9,cf9,sn9,cn9,rfl,y0,i3⟩:=l6;rw[m6.out,m5.out,s7.out,i8.out]at o0⊢;have H8:=Ga x9 (.cells #[.int .i64 (k:Int),.int .i64 0,.slice sf9 N cf9,.slice sn9 N cn9] 29) none;have H9:=heap_alloc_new x9 (.cells #[.int .i64 (k:Int),.int .i64 0,.slice sf9 N cf9,.slice sn9 N cn9] 29);obtain⟨x10,a3⟩:=Nm (x9.alloc (.cells #[.int .i64 (k:Int),.int .i64 0,.slice sf9 N cf9,.slice sn9 N cn9] 29));obtain⟨o10,a4⟩:=Nm x9.heap.size;rw[<-a3]at H8 H9;rw[<-a4]at H9;have n7:=Kh (zE j5.out f7);have h3:=Kh (zD (zD d4.out f7) H8);obtain⟨i6,j0,b0,k2⟩:=Kd a3 a4 H8 H9;have l0:P+1≠o10:=(by have:=f7.size;have:=m7.out;omega);clear i3 f7 d0 d1 d2 d3 n3 H8 H9 a3 a4;have f0:=zB h3.out 0;have f1:=zB h3.out 1;have f2:=zB h3.out 2;have f3:=zB h3.out 3;have y2:=zS h3.out;go_upto_region 25 with fail;rw[<-i6.out,<-j0.out];obtain⟨q0,q1,q2,q3⟩:=zM h3.out;obtain⟨t0,t1,t2,t3⟩:=zM k2.out;by_cases h512:(512:Int)<N
  ·go_wp2
   obtain⟨b4,H3⟩:=vS h3.out (.int .i64 0) (.int .i64 0) (.slice none 0 0) (.slice none 0 0);obtain⟨r0,r1,r2,r3⟩:=zM b4;clear q0 q1 q2 q3 f0 f1 f2 f3 t0 t1 t2 t3;refine bodyPost_ret (v:=.tuple #[.agg #[.int .i64 0,.int .i64 0,.slice none 0 0,.slice none 0 0],.int .i64 3]) (by simp[results,Tryz.results7,go_sem,r0,r1,r2,r3]) rfl ?_;exact⟨.inl ⟨3,rfl,.inr ⟨rfl,h6.out,by rw[<-HK.out,<-f9.out];omega⟩⟩,zE (zE n7.out b0.out) H3 (fun j e=>by have e:P+1=j:=Oj e;have:=b5.out;omega)⟩
  go_wp2;obtain⟨b4,H3⟩:=vS h3.out (.int .i64 (k:Int)) (.int .i64 0) (.slice sf9 N cf9) (.slice sn9 N cn9);obtain⟨r0,r1,r2,r3⟩:=zM b4;clear q0 q1 q2 q3 f0 f1 f2 f3 t0 t1 t2 t3;refine bodyPost_ret (v:=.tuple #[.agg #[.int .i64 (k:Int),.int .i64 0,.slice sf9 N cf9,.slice sn9 N cn9],.int .i64 0]) (by simp[results,Tryz.results7,go_sem,r0,r1,r2,r3]) rfl ?_;have q5:=(o0.out.grow b0.out).far H3 h3.out m7.out;obtain⟨fv9,nv9,H6,p4⟩:=q5.t;rw[m6.out,m5.out]at H6;simp only[Value.agg.injEq,Array.mk.injEq,List.cons.injEq,true_and,and_true]at H6;obtain⟨rfl,rfl⟩:=H6;exact⟨.inr ⟨_,_,by rw[<-HK.out],h6.out,by rw[<-HK.out,<-f9.out];omega,by rw[<-HK.out,<-HM.out];exact p4⟩,zE (zE n7.out b0.out) H3 (fun j e=>by have e:P+1=j:=Oj e;have:=b5.out;omega)⟩
 have hb:(E != 0)=true:=by rw[bne_iff_ne];exact h0
 obtain⟨r0,r1,r2,r3⟩:=zM (HB.out _ H2).1.2;have f0:=zB (HB.out _ H2).1.2 0;have f1:=zB (HB.out _ H2).1.2 1;have f2:=zB (HB.out _ H2).1.2 2;have f3:=zB (HB.out _ H2).1.2 3;have o2:=Kh (HB.out _ H2);have H0:=Kh h0;clear H2 h0;go_wp2;refine bodyPost_ret (v:=.tuple #[.agg #[.int .i64 0,.int .i64 0,.slice none 0 0,.slice none 0 0],.int .i64 E]) (by simp[results,Tryz.results7,go_sem,r0,r1,r2,r3]) rfl ?_;obtain⟨x3,p9⟩:=vS o2.out.1.2 (.int .i64 0) (.int .i64 0) (.slice none 0 0) (.slice none 0 0);exact⟨.inl ⟨E,rfl,.inl ⟨k0.out,fun h=>H0.out (k0.out.trans h)⟩⟩,zE o2.out.2 p9 (fun j e=>by have e:P+1=j:=Oj e;have:=b5.out;omega)⟩
def aW (B tb:Nat)(w:World)(letters most:Nat)(e:Ending)(w':World):Prop :=
 ∃(v:Value) (m:DfaV) (n:Nat),e=.returned v/\qFU w w' v m/\VD m n letters/\n<=most/\wJ B w' tb/\w.grownBy w' (some tb)
theorem qFG (B tb:Nat)(w:World)(letters most:Nat)(h1:1<=letters)(h6:letters<=6)(a9:1<=most)(hm:most<=500)(hT:wJ B w tb):Calls Tryz.prog 18 #[.pointer (some ⟨tb,0,none⟩),.int .i64 (letters:Int),.int .i64 (most:Int)] w (aW B tb w letters most):=by
 have l5:=hT.lt;have o6:=hT.ge;obtain⟨wA,d7⟩:=Nm ((w.alloc (.cells #[.int .i64 0,.int .i64 0,.slice none 0 0,.slice none 0 0] 29)).alloc (.cells #[.int .i64 letters,.int .i64 0,.slice none 0 0,.slice none 0 0] 29));obtain⟨a8,b9,b5,g0⟩:=rK w #[.int .i64 0,.int .i64 0,.slice none 0 0,.slice none 0 0] #[.int .i64 letters,.int .i64 0,.slice none 0 0,.slice none 0 0] 29;rw[<-d7]at a8 b9 b5 g0;obtain⟨P,hP⟩:=Nm w.heap.size;have h8:=Kh hP;rw[<-hP]at a8 b9 g0 l5;have j2:=hT.kept b5 yq;obtain⟨n8,n7,n3,m4,m6⟩:=Ke a8 b9 b5 d7 j2;clear a8 b9 b5 d7 j2 hT;go_enter Tryz.func18,Tryz.ntmps18;go_upto_region 2 with fail;rw[<-m4.out,<-h8.out];clear hP;go_wp2_with fail;refine(uS B tb _ _ yo m6.out).mono ?_;rintro e w1 ⟨r,rfl,l7,c9,j6,i5⟩;replace c9:=c9 yo;obtain⟨n,rfl⟩:∃n:Nat,r=(n:Int)-1:=⟨(r+1).toNat,yo⟩;have l9:1<=n:=yo
 have l8:n<=most:=yo
 have m0:(1:Int)+((n:Int)-1)=n:=yo
 obtain⟨k1,k6,o7⟩:=Kc j6 i5 m0;clear l7 c9 j6 i5;go_wp2_with fail;refine(uS B tb _ _ yo k1.out).mono ?_;rintro e w2 ⟨s,rfl,l6,c8,j5,i4⟩;replace c8:=c8 yo;obtain⟨s,rfl⟩:∃s':Nat,s=s':=⟨s.toNat,yo⟩;have H4:=zI k6.out i4;have b8:=zD n7.out H4 (by simp;omega);obtain⟨c0,c1,c2,c3⟩:=zM b8;have f1:=frozen_of_row w2 (P+1) 1 _ _ b8;have k0:=Kh j5;have f6:=Kh H4;clear j5 i4 H4 k1 k6;go_wp2;obtain⟨w3,b3⟩:=Nm (w2.setCell ⟨P+1,1,none⟩ (.int .i64 (s:Int)));have i7:w3.heap[P+1]?=some (.cells #[.int .i64 (letters:Int),.int .i64 (s:Int),.slice none 0 0,.slice none 0 0] 29 (0,0)):=by rw[b3,heap_setCell_same w2 (P+1) 1 _ _ _ b8];simp
 have b7:w2.grownBy w3 (some (P+1)):=by rw[b3];exact zH w2 ⟨P+1,1,none⟩ _
 have a6:=zD (zD n8.out f6.out (by simp;omega)) b7;have j4:=k0.out.kept b7 (fun k e=>by have:=Oj e;subst this;omega);have i1:w.grownBy w3 (some tb):=zE (zI (zE (zX w (some tb)) n3.out) f6.out) b7 (fun x e=>by have:=Oj e;have:=h8.out;omega);have j7:Half (P+1) w3 (P+1) letters s [] [] [] none 0 none 0:=⟨i7,World.ownsRow_nil _ _ _ _,World.ownsRow_nil _ _ _ _,OwnsT.nil⟩;obtain⟨H3,k9,j9,k5⟩:=Kd j7 a6 j4 i1;rw[<-b3];clear b3 i7 b7 a6 j4 i1 j7 c0 c1 c2 c3 f1 b8 k0 f6
 go_loopg [9,10,11] n (fun gh i v10 v11 wr=>∃(q:Nat) (fs:List Bool) (t:List (List Int)) (hs:List Value) (sf:Option Addr) (cf:Nat) (sn:Option Addr) (cn:Nat),gh+q=n/\i=.int .i64 q/\fs.length=q/\t.length=q/\pJ t n letters/\Half (P+1) wr (P+1) letters s fs t hs sf cf sn cn/\wJ B wr tb/\wr.heap[P]?=some (.cells #[.int .i64 0,.int .i64 0,.slice none 0 0,.slice none 0 0] 29 (0,0))/\w.grownBy wr (some tb))
 case atStart=>exact⟨0,[],[],[],none,0,none,0,yo,rfl,rfl,rfl,(fun r hr=>by simp at hr),H3.out,j9.out,k9.out,k5.out⟩
 obtain⟨q,fs,t,hs,sf,cf,sn,cn,hg,rfl,rfl,H7,g7,hH,j0,a7,i2⟩:=hrel;obtain⟨HG,HH,c5,h0,f4,k2⟩:=Kf hg hH j0 a7 i2 g7;clear hg hH j0 a7 i2 g7 H3 k9 j9 k5;by_cases hq:fs.length<n
 ·have o3:(fs.length:Int)<n:=yo
  obtain⟨w5,c7⟩:=Nm wr.drew;have a3:wr.grownBy w5 none:=(by rw[c7];exact zY wr none);have j8:=Kh c7;have e9:=Kh (HH.out.grow a3);have e5:=Kh (c5.out.kept a3 yq);have k4:=Kh (zE f4.out a3);have k8:=Kh (zD h0.out a3);obtain⟨d0,d1,d2,d3⟩:=zM e9.out.box;have C2:=Kh d2;clear c7 a3 d0 d1 d2 d3 HH c5 f4 h0;go_upto_region 7 with fail;refine wp_region_noPanic ?_;refine yI (G:=xM 8 (fun _=>True) (fun W=>W.cell? ⟨P+1,2,none⟩=some (.slice sf fs.length cf))) yk ?_;rw[<-j8.out];refine zP 0 ?_;refine xD 1 ?_;refine zP 2 ?_;refine jg 3 fun K hK=>?_;go_simp
  go_at_call 5
  refine(uS B tb _ _ yo e5.out).mono ?_;rintro e w6 ⟨b,rfl,o4,a8,j3,b6⟩;have c4:=e9.out.tape e5.out b6;obtain⟨d0,d1,d2,d3⟩:=zM c4.box;have C2:=Kh d2;refine hK.out _ _ ⟨trivial,fun _=>C2.out⟩ ?_;clear hK K d0 d1 d2 d3
  try simp only[Act.put,sPa,sPb,sPc]
  refine zP 4 ?_;refine jg 5 fun K hK=>?_;go_simp;have h7:=c4.grow (Ga w6 (.cells #[.bool (decide (b=1))] 4) none);have i3:=heap_alloc_new w6 (.cells #[.bool (decide (b=1))] 4);obtain⟨d0,d1,d2,d3⟩:=zM h7.box;refine hK.out _ _ ⟨trivial,fun _=>d2⟩ ?_;clear hK K d0 d1 d2 d3
  try simp only[Act.put,sPa,sPb,sPc]
  have o0:P+2<=w6.heap.size:=by have:=zS c4.box;omega
  refine jg 6 fun K hK=>?_;refine mB rfl (.tmp 28) (.tmp 32) 26 rfl xK (P+1) _ _ _ rfl h7.ownF _ _ _ rfl i3 rfl ?g1 ?g2 ?g3 ?_
  case g1=>unfold maxLen;omega
  case g2=>omega
  case g3=>rw[zW];omega
  intro sa' sc' w8 H1 H8;have H6:=zD h7.box H8 (fun e=>zR h7.ownF h7.box jd e);obtain⟨d0,d1,d2,d3⟩:=zM H6;have f2:=zB H6 2;refine hK.out _ _ ⟨trivial,fun _=>d2⟩ ?_;clear hK K
  try simp only[Act.put,sPa,sPb,sPc]
  have C2:=Kh d2;refine zP 7 ?_;refine jg 8 fun K hK=>?_;go_simp;refine hK.out _ _ ⟨trivial,fun h=>by simp at h⟩ ?_;clear hK K d0 d1 d2 d3 f2 H6
  try simp only[Act.put,sPa,sPb,sPc]
  refine uY yk ?_ _;refine NoPanic.normal ?_;obtain⟨hF,m3⟩:=h7.pushF H1 H8 rfl;have d8:=((j3.kept (Ga w6 (.cells #[.bool (decide (b=1))] 4) none) yq).kept H8 (fun k e=>by have:=(h7.ownF.lt k e).1;omega)).kept (zH w8 ⟨P+1,2,none⟩ (.slice sa' (fs.length+1) sc')) (fun k e=>by have e:P+1=k:=Oj e;omega);have d6:=zD (zD (zD (zD k8.out b6 (by simp;omega)) (Ga w6 (.cells #[.bool (decide (b=1))] 4) none)) H8 (fun e=>by have:=(h7.ownF.lt _ e).1;omega)) (zH w8 ⟨P+1,2,none⟩ (.slice sa' (fs.length+1) sc'));have d5:w.grownBy (w8.setCell ⟨P+1,2,none⟩ (.slice sa' (fs.length+1) sc')) (some tb):=zE (zE (zE (zI k4.out b6) (Ga w6 (.cells #[.bool (decide (b=1))] 4) none)) H8 (fun k e=>by have:=(h7.ownF.lt k e).1;have:=h8.out;omega)) (zH w8 ⟨P+1,2,none⟩ (.slice sa' (fs.length+1) sc')) (fun k e=>by have e:P+1=k:=Oj e;have:=h8.out;omega);obtain⟨w9,g4⟩:=Nm (w8.setCell ⟨P+1,2,none⟩ (.slice sa' (fs.length+1) sc'));rw[<-g4]at hF d8 d6 d5⊢;obtain⟨HF,b1,k7,k3⟩:=Kd hF d8 d6 d5;clear g4 m3 hF d8 d6 d5 H1 H8 i3 h7 c4 j3 b6 C2 e9 e5 k4 k8 j8;go_wp2
  go_loopg [10,11] letters (fun gh ov i wx=>∃(a:Nat) (row:List Int) (sr:Option Addr) (cr:Nat),gh+a=letters/\i=.int .i64 a/\row.length=a/\ov=.slice sr row.length cr/\(∀x∈row,0<=x/\x<n)/\wx.ownsRow w9.heap.size 3 1 (.slice sr row.length cr) row.length (ints row)/\wJ B wx tb/\w9.grownBy wx (some tb))
  case atStart=>exact⟨0,[],none,0,yo,rfl,rfl,rfl,(fun x hx=>by simp at hx),World.ownsRow_nil _ _ _ _,b1.out,zX _ _⟩
  obtain⟨a,row,sr,cr,hg,rfl,rfl,rfl,g6,a1,i9,i0⟩:=hrel;obtain⟨b2,h9,d9,H9⟩:=Kd hg a1 i9 i0;clear hg a1 i9 i0;by_cases ha:row.length<letters
  ·have o5:(row.length:Int)<letters:=yo
   have o1:=d9.out.lt;go_wp2_with fail;refine(uS B tb _ _ yo d9.out).mono ?_;rintro e wy ⟨x,rfl,l3,c6,i8,b4⟩;replace c6:=c6 yo;have l1:tb<w9.heap.size:=b1.out.lt;have H0:=yY h9.out b4 (by simpa using l1);have l0:=(zI H9.out b4).size;have e7:=Kh H0;have m5:=Kh i8;have n0:=Kh (zI H9.out b4);clear H0 i8 b4;go_wp2_with (first|(at_builtin;refine app1 rfl _ _ _ rfl yJ w9.heap.size _ row.length (ints row) rfl e7.out _ rfl rfl ?c1 ?c2 ?c3 ?_)|fail)
   case c1=>unfold maxLen;omega
   case c2=>omega
   case c3=>exact l0
   intro sr' cr' w10 h5 H5 g9;have e8:=Kh h5;have e6:=Kh (m5.out.kept H5 (fun k e=>by have:=(e7.out.lt k e).1;omega));have f7:=Kh (zE n0.out H5 (fun k e=>(e7.out.lt k e).1));clear h5 H5;go_wp2;go_roundg (letters-(row.length+1))
   case measure=>have:=b2.out;omega
   refine⟨row.length+1,row++[x],sr',cr',yo,by go_num,yq,yq,?_,?_,e6.out,f7.out⟩
   ·intro y hy
    rcases List.mem_append.1 hy with hy|hy
    ·exact g6 y hy
    rw[List.mem_singleton]at hy;subst hy;exact⟨l3,c6⟩
   rw[show ints (row++[x])=ints row++[.int .i64 x] by simp[ints],List.length_append,List.length_singleton];exact e8.out
  have g5:row.length=letters:=by have:=b2.out;omega
  have hH:=HF.out.tape b1.out H9.out;have l2:P+1<=w9.heap.size:=Nat.le_of_lt (zS HF.out.box);have a0:=xO h9.out l2
  have a5:∀i (hi:i<hs.length),∀k,hs[i].ownBlock=some k->(Value.slice sr row.length cr).ownBlock≠some k:=fun i hi k hk e=>by
   have h1:=(HF.out.rows.lt hi hk).2;have h2:=(h9.out.lt k e).1;omega
  have f8:=Kh a5;obtain⟨d0,d1,d2,d3⟩:=zM hH.box;have n9:=zS hH.box;have m1:=b1.out.lt;obtain⟨H2,m7,m8⟩:=Kc hH a0 g5;have n1:=Kh (zI k3.out H9.out);have n5:=Kh (zD k7.out H9.out (by simp;omega));clear hH a0 g5 a5 d0 d1 d2 h9 H9 HF b1 k3 k7;have m9:=Kh H2.out.ownN;have b0:=Kh H7;clear H7;go_wp2_with (first|(at_builtin;refine app1 rfl _ _ _ rfl xT (P+1) _ t.length hs rfl m9.out _ rfl rfl ?c1 ?c2 ?c3 ?_)|fail)
  case c1=>have:=b0.out;unfold maxLen;omega
  case c2=>have:=b0.out;omega
  case c3=>omega
  intro sn' cn' w11 h4 h3 g8;have H6:=zD H2.out.box h3 (fun e=>zR H2.out.ownN H2.out.box jd e);obtain⟨d0,d1,d2,d3⟩:=zM H6;have f2:=zB H6 3;obtain⟨hN,m2⟩:=H2.out.pushN h4 h3 m7.out f8.out rfl;have j1:=(d9.out.kept h3 (fun k e=>by have:=(H2.out.ownN.lt k e).1;omega)).kept (zH w11 ⟨P+1,3,none⟩ (.slice sn' (t.length+1) cn')) (fun k e=>by have e:P+1=k:=Oj e;omega);have i6:=zD (zD n5.out h3 (fun e=>by have:=(H2.out.ownN.lt _ e).1;omega)) (zH w11 ⟨P+1,3,none⟩ (.slice sn' (t.length+1) cn'));have a2:w.grownBy (w11.setCell ⟨P+1,3,none⟩ (.slice sn' (t.length+1) cn')) (some tb):=zE (zE n1.out h3 (fun k e=>by have:=(H2.out.ownN.lt k e).1;have:=h8.out;omega)) (zH w11 ⟨P+1,3,none⟩ (.slice sn' (t.length+1) cn')) (fun k e=>by have e:P+1=k:=Oj e;have:=h8.out;omega);obtain⟨n2,e4,f9,f5⟩:=Kd hN j1 i6 a2;clear m2 H6 hN j1 i6 a2 h4 h3;go_wp2;go_roundg (n-(fs.length+1))
  case measure=>have:=HG.out;omega
  refine⟨fs.length+1,fs++[decide (b=1)],t++[row],_,sa',sc',sn',cn',yo,by go_num,yq,by simp[b0.out],?_,n2.out,e4.out,f9.out,f5.out⟩;intro r hr;rcases List.mem_append.1 hr with hr|hr
  ·exact k2.out r hr
  rw[List.mem_singleton]at hr;subst hr;exact⟨m8.out,g6⟩
 have a4:fs.length=n:=by have:=HG.out;omega
 have hB:=HH.out;have n4:=Kh a4;have n6:=Kh hB;obtain⟨d0,d1,d2,d3⟩:=zM HH.out.box;obtain⟨e0,e1,e2,e3⟩:=zM h0.out;have f0:=zB h0.out 0;have f1:=zB h0.out 1;have f2:=zB h0.out 2;have f3:=zB h0.out 3;have b0:=Kh H7;clear hB a4 H7;go_wp2;refine bodyPost_ret (v:=.agg #[.int .i64 letters,.int .i64 s,.slice sf fs.length cf,.slice sn t.length cn]) (by simp[results,Tryz.results18,go_sem,e0,e1,e2,e3]) rfl ?_;obtain⟨o2,d4⟩:=vS h0.out (.int .i64 letters) (.int .i64 s) (.slice sf fs.length cf) (.slice sn t.length cn);have l4:=c5.out.lt;have a4:=n4.out;have H7:=b0.out;refine⟨_,⟨letters,s,fs,t⟩,n,rfl,⟨P+1,hs,sf,cf,sn,cn,rfl,by have:=h8.out;omega,(n6.out.base (by have:=h8.out;omega)).far d4 h0.out yo⟩,k2.out.vd h1 h6 l9 yo a4 (H7.trans a4) l6 c8,l8,c5.out.kept d4 (fun k e=>by have e:P=k:=Oj e;omega),yM f4.out d4 (by show _<=P;have:=h8.out;omega)⟩
def iG (R:DfaV->Nat->Prop)(B tb:Nat)(w:World)(letters most:Nat)(e:Ending)(w':World):Prop :=
 ∃(v:Value) (m:DfaV) (n:Nat),e=.returned v/\qFU w w' v m/\VD m n letters/\n<=most/\R m n/\wJ B w' tb/\w.grownBy w' (some tb)
def qIA (t:List (List Int))(k q a:Nat):Prop:=∀q' a',a'<k->(q'<q\/(q'=q/\a'<a))->(q':Int)<=ent t q' a'
def OrdD (m:DfaV)(n:Nat):Prop:=m.start=0/\∀k:Nat,m.letters=k->qIA m.next k n 0
theorem lP {q' a':Nat}(hq:q<t.length)(ha:a<(t.getD q []).length):ent (t.set q ((t.getD q []).set a x)) q' a'=if q'=q/\a'=a then x else ent t q' a':=by
 unfold ent;by_cases h:q'=q
 ·subst h
  rw[kO _ _ _ _ hq];by_cases h2:a'=a
  ·subst h2;rw[kO _ _ _ _ ha];simp
  rw[getD_set_ne _ _ _ _ _ (Ne.symm h2)];simp[h2]
 rw[getD_set_ne _ _ _ _ _ (Ne.symm h)];simp[h]
theorem qIA.step (h:qIA t k q a)(hq:q<t.length)(ha:a<(t.getD q []).length)(hx:(q:Int)<=x):qIA (t.set q ((t.getD q []).set a x)) k q (a+1):=by
 intro q' a' h1 h2;rw[lP hq ha]
 split
 ·rename_i h3;rw[h3.1];exact hx
 rename_i h3
 refine h q' a' h1 ?_;rcases h2 with h2|⟨h2,h4⟩
 ·exact .inl h2
 exact .inr ⟨h2,by
  rcases Nat.lt_or_ge a' a with h5|h5
  ·exact h5
  exact absurd ⟨h2,yo⟩ h3⟩
theorem pJ.ent {n:Nat}(h:pJ t n k)(hq:q<t.length)(ha:a<k):0<=ent t q a/\ent t q a<n:=by
 have h:=h (t.getD q []) (wT hq);have h0:a<(t.getD q []).length:=yo
 exact h.2 ((t.getD q []).getD a 0) (wT h0)
theorem Half.start {base o:Nat}{W:World}{L S:Int}{fs:List Bool}{hs:List Value}{sf sn:Option Addr}{cf cn:Nat}(h:Half base W o L S fs t hs sf cf sn cn)(S':Int):Half base (W.setCell ⟨o,1,none⟩ (.int .i64 S')) o L S' fs t hs sf cf sn cn:=by
 have h0:=zH W ⟨o,1,none⟩ (.int .i64 S');have s1:=heap_setCell_same W o 1 _ _ (.int .i64 S') h.box;refine⟨by rw[s1];simp,h.ownF.kept h0 (.inr (zR h.ownF h.box jd)),h.ownN.kept h0 (.inr (zR h.ownN h.box jd)),h.rows.kept h0 (fun k e=>.inr ?_)⟩;have e:o=k:=Oj e;subst e;exact⟨_,_,_,h.box,jd⟩
theorem qNP (B tb:Nat)(w:World)(letters most:Nat)(h1:1<=letters)(h6:letters<=6)(a9:1<=most)(hm:most<=500)(hT:wJ B w tb):Calls Tryz.prog 15 #[.pointer (some ⟨tb,0,none⟩),.int .i64 (letters:Int),.int .i64 (most:Int)] w (iG OrdD B tb w letters most):=by
 have f6:=hT.lt;have i4:=hT.ge;obtain⟨P,hP⟩:=Nm w.heap.size;have H6:=Kh hP;obtain⟨wA,b6⟩:=Nm (w.alloc (.cells #[.int .i64 0,.int .i64 0,.slice none 0 0,.slice none 0 0] 29));have a7:=heap_alloc_new w (.cells #[.int .i64 0,.int .i64 0,.slice none 0 0,.slice none 0 0] 29);have a5:=Ga w (.cells #[.int .i64 0,.int .i64 0,.slice none 0 0,.slice none 0 0] 29) none;have b9:=zW w (.cells #[.int .i64 0,.int .i64 0,.slice none 0 0,.slice none 0 0] 29);rw[<-b6]at a7 a5 b9;rw[<-hP]at a7 b9 f6;have c7:=Kh (hT.kept a5 yq);obtain⟨f2,g3,g2⟩:=Kc a7 a5 b6;have HD:=Kh (qFG B tb wA letters most h1 h6 a9 hm c7.out);clear a7 a5 b6 hT;go_enter Tryz.func15,Tryz.ntmps15;go_upto_region 1 with fail;rw[<-g2.out,<-H6.out];clear hP;go_wp2_with fail;refine HD.out.mono ?_;rintro e w1 ⟨v,⟨L,S,fs,t⟩,n,rfl,b2,h5,f8,c5,a6⟩;obtain⟨o,hs,sf,cf,sn,cn,rfl,ho,hH⟩:=b2;have hL:L=letters:=h5.hk;subst hL;have c3:fs.length=n:=h5.hn;have h3:t.length=n:=h5.nl
 have h0:pJ t n letters:=fun r hr=>by
  obtain⟨q,hq,rfl⟩:=List.getElem_of_mem hr;have e:t.getD q []=t[q]:=by simp[List.getD_eq_getElem?_getD,hq]
  have hl:t[q].length=letters:=by rw[<-e];exact h5.row q yo
  refine⟨hl,fun x hx=>?_⟩;obtain⟨a,ha,rfl⟩:=List.getElem_of_mem hx;have e2:ent t q a=t[q][a]:=by unfold Proofs.YtiknckajkdlppaaGreat.ent;rw[e];simp[List.getD_eq_getElem?_getD,ha]
  rw[<-e2];exact⟨h5.lo q a yo yo,h5.hi q a yo yo⟩
 have f9:=h5.n1;have g7:=h5.nbig;obtain⟨e9,c9,HH,d5,b8,f0⟩:=Kf a6 c5 hH h0 h3 c3;have f4:=Kh (zD f2.out a6 (by simp;omega));have HO:=Kh ho;have g4:=a6.size;clear a6 c5 hH h0 h5 ho HD c7 f2;go_upto_region 2 with fail;obtain⟨Q,hQ⟩:=Nm w1.heap.size;have H5:=Ga w1 (.cells #[.int .i64 letters,.int .i64 S,.slice sf n cf,.slice sn n cn] 29) none;have H9:=heap_alloc_new w1 (.cells #[.int .i64 letters,.int .i64 S,.slice sf n cf,.slice sn n cn] 29);obtain⟨w2,c2⟩:=Nm (w1.alloc (.cells #[.int .i64 letters,.int .i64 S,.slice sf n cf,.slice sn n cn] 29));rw[<-c2]at H9 H5⊢;rw[<-hQ]at H9⊢;have c6:=(HH.out.grow H5).move (L':=letters) (S':=S) (o':=Q) (by rw[f0.out,b8.out];exact H9);have d7:=Kh c6;have f3:=Kh (zD f4.out H5);have c8:=Kh (c9.out.kept H5 yq);have d9:=Kh (zE (zI (zE (zX w (some tb)) g3.out) e9.out) H5);obtain⟨d0,d1,d2,d3⟩:=zM H9;have b7:P<Q:=yo
 clear H5 H9 c2 c6 HH f4 c9 e9 d0 d1 d2 h3 c3;have HQ:=Kh hQ;clear hQ;go_wp2
 go_loopg [8,9,10,18] n (fun gh v8 v9 v10 i wr=>∃(q:Nat) (t:List (List Int)),gh+q=n/\i=.int .i64 q/\t.length=n/\pJ t n letters/\qIA t letters q 0/\Half wA.heap.size wr Q letters S fs t hs sf cf sn cn/\wJ B wr tb/\wr.heap[P]?=some (.cells #[.int .i64 0,.int .i64 0,.slice none 0 0,.slice none 0 0] 29 (0,0))/\w.grownBy wr (some tb))
 case atStart=>exact⟨0,t,yo,rfl,b8.out,d5.out,fun q' a' _ h=>by omega,d7.out,c8.out,f3.out,d9.out⟩
 obtain⟨q,t,hg,rfl,h3,h0,h4,hH,a0,H8,H7⟩:=hrel;obtain⟨HG,HH,a8,h8,b0,H2⟩:=Kf hg hH a0 H8 H7 h0;have H3:=Kh h4;have H1:=Kh h3;clear hg a0 H8 H7 d9 c8 f3 d7 d5 b8 h4;by_cases hq:q<n
 ·have g6:(q:Int)<n:=yo
  have H4:(t.getD q []).length=letters:=(h0 _ (wT yo)).1;obtain⟨kb,g,c,rfl,e1,e2,e3,e4,e5,e6,e7,e8⟩:=hH.at (q:=q) yo yo;obtain⟨d0,d1,d2,d3⟩:=zM hH.box;rw[H4]at e3 e4 e5;rw[h3]at d3 e1;obtain⟨E3,E2,E6,E7⟩:=Kd e3 e2 e6 e7;have i1:cn<=9223372036854775807:=(by unfold maxLen at e2;omega)
  have hc:c<=9223372036854775807:=(by unfold maxLen at e6;omega)
  clear d0 d1 d2 e8 e3 e2 e6 H4 h0 h3 hH;go_wp2;obtain⟨wo,c1⟩:=Nm wr;rw[<-c1]at HH a8 h8 b0⊢;clear d3 e4 c1 wr
  go_loopg [9,10,27] letters (fun gh v9 v10 i wx=>∃(a:Nat) (t':List (List Int)),gh+a=letters/\i=.int .i64 a/\t'.length=n/\pJ t' n letters/\qIA t' letters q a/\Half wA.heap.size wx Q letters S fs t' hs sf cf (some ⟨kb,0,none⟩) cn/\wJ B wx tb/\wx.heap[P]?=some (.cells #[.int .i64 0,.int .i64 0,.slice none 0 0,.slice none 0 0] 29 (0,0))/\w.grownBy wx (some tb))
  case atStart=>exact⟨0,t,yo,rfl,H1.out,H2.out,H3.out,HH.out,a8.out,h8.out,b0.out⟩
  obtain⟨a,t',hg,rfl,h3,h0,h4,hH,a0,H8,H7⟩:=hrel;obtain⟨d8,d6,a1,a4,a3,a2⟩:=Kf hg hH a0 H8 H7 h0;have H0:=Kh h4;have h7:=Kh h3;clear hg a0 H8 H7 b0 a8 h8 HH H2 H1 H3 h4;by_cases ha:a<letters
  ·have i3:(a:Int)<letters:=yo
   have H4:(t'.getD q []).length=letters:=(h0 _ (wT yo)).1;obtain⟨kb',g',c',e0,e1',e2,e3,e4,e5',e6,e7',e8⟩:=hH.at (q:=q) yo yo;have e0:kb=kb':=by simpa using e0
   subst e0;rw[H4]at e3 e4 e5';rw[E3.out]at e3;simp only[Option.some.injEq,Value.slice.injEq,Addr.mk.injEq,and_true,true_and]at e3;obtain⟨rfl,rfl⟩:=e3;obtain⟨d0,d1,d2,d3⟩:=zM hH.box;rw[h3]at d3 e1';have h9:=e8.int a yo;have i0:=e8.frozen a;have g0:=h0.ent (q:=q) (a:=a) yo ha;have hx:(t'.getD q []).getD a 0=ent t' q a:=rfl;rw[hx]at h9;obtain⟨x,c0⟩:=Nm (ent t' q a);rw[<-c0]at h9 g0;obtain⟨x,rfl⟩:∃y:Nat,x=y:=⟨x.toNat,yo⟩;have E8:=Kh e8;have d4:=Kh H4;clear d0 d1 d2 e8 e2 e6 H4 h0 h3 hH hx c0;go_wp2
   all_goals
    go_roundg (letters-(a+1))
    case measure=>have:=d8.out;omega
    obtain⟨y,hy⟩:=Nm (max (q:Int) (x:Int):Int)
    first
    |
     have b1:(x:Int)=y:=yo
     rw[b1]
    |
     have b1:(q:Int)=y:=yo
     rw[b1]
    | rw[<-hy]
    have b5:=zH wr ⟨g,a,none⟩ (.int .i64 y);have g8:P<g:=yo;have g9:w.heap.size<=g:=by have:=H6.out;omega
    have f5:tb≠g:=yo;refine⟨a+1,t'.set q ((t'.getD q []).set a y),yo,by go_num,by rw[List.length_set];exact h7.out,a2.out.set (by have:=h7.out;omega) yo yo,H0.out.step (by have:=h7.out;omega) (by have:=d4.out;omega) yo,d6.out.poke E3.out E8.out (by have:=d4.out;omega) _,a1.out.kept b5 (fun k e=>by have e:g=k:=Oj e;omega),zD a4.out b5 (fun e=>by have e:g=P:=Oj e;omega),yM a3.out b5 (by show _<=g;omega)⟩
  have i2:a=letters:=by have:=d8.out;omega
  clear h0 h3 hH;go_wp2;go_roundg (n-(q+1))
  case measure=>have:=HG.out;omega
  refine⟨q+1,t',yo,by go_num,h7.out,a2.out,fun q' a' h1 h2=>H0.out q' a' h1 yo,d6.out,a1.out,a4.out,a3.out⟩
 have f7:q=n:=by have:=HG.out;omega
 obtain⟨d0,d1,d2,d3⟩:=zM hH.box;obtain⟨x0,x1,x2,x3⟩:=zM h8.out;have f1:=zB hH.box 1;have y0:=zB h8.out 0;have y1:=zB h8.out 1;have y2:=zB h8.out 2;have y3:=zB h8.out 3;clear h0 h3 hH;go_wp2;refine bodyPost_ret (v:=.agg #[.int .i64 letters,.int .i64 0,.slice sf fs.length cf,.slice sn t.length cn]) (by simp[results,Tryz.results15,go_sem,x0,x1,x2,x3,b7,Nat.ne_of_lt b7,Nat.ne_of_gt b7]) rfl ?_;have g1:=HH.out.start 0;have b4:=zH wr ⟨Q,1,none⟩ (.int .i64 0);have c4:=zD h8.out b4 (fun e=>by have e:Q=P:=Oj e;omega);obtain⟨g5,b3⟩:=vS c4 (.int .i64 letters) (.int .i64 0) (.slice sf fs.length cf) (.slice sn t.length cn);refine⟨_,⟨letters,0,fs,t⟩,n,rfl,⟨Q,hs,sf,cf,sn,cn,rfl,by have:=H6.out;omega,(g1.base (by have:=H6.out;omega)).far b3 c4 yo⟩,H2.out.vd h1 h6 f9 yo f0.out H1.out yo yo,f8,⟨rfl,fun k hk=>?_⟩,(a8.out.kept b4 (fun k e=>by have e:Q=k:=Oj e;omega)).kept b3 (fun k e=>by have e:P=k:=Oj e;omega),yM (yM b0.out b4 (by show _<=Q;have:=H6.out;omega)) b3 (by show _<=P;have:=H6.out;omega)⟩;have hk:letters=k:=Int.ofNat.inj hk;subst hk;subst f7;exact H3.out
end Go.Proofs.YtiknckajkdlppaaGreat
