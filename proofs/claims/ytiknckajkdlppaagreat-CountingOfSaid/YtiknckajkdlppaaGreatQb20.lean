/- Part 20 of the proof. -/
import Derived.Test.YtiknckajkdlppaaGreatQb19
import Derived.Deep.Cut
set_option linter.unusedVariables false
set_option linter.unusedSimpArgs false
set_option maxRecDepth 100000
set_option maxHeartbeats 16000000
namespace Go.Proofs.YtiknckajkdlppaaGreat
open Go.RowKit
variable{n:Nat}{l:List Int}
theorem qDA (B:Nat)(w:World)(v:Value)(t:List (List Int))(h:Mat B w v t):Calls Tryz.prog 52 #[v] w fun e w'=>e=.returned (.int .i64 (tJ t))/\w=w':=by
 by_cases h0:0<t.length
 ·obtain⟨b,off,cap,A,C,rfl,H6,H2,hm⟩:=h.some_ h0
  have H5:cap<=9223372036854775807:=(by unfold maxLen at H2;omega)
  have HM:=Kh hm;clear hm;by_cases h4:400<t.length
  ·go_enter Tryz.func52,Tryz.ntmps52
   go_wp2;go_ret;exact⟨yX (dN h4).symm,rfl⟩
  have H4:((t.length:Int) == 0)=false:=by rw[beq_eq_false_iff_ne];omega
  go_enter Tryz.func52,Tryz.ntmps52;go_wp2
  go_loopg [15] t.length (fun g i wr=>∃k:Nat,g+k=t.length/\i=.int .i64 k/\qQC t k/\w=wr)
  case atStart=>exact⟨0,rfl,rfl,fun x hx=>absurd hx yo,rfl⟩
  obtain⟨k,hg,rfl,h6,rfl⟩:=hrel;have OK:=Kh h6;clear h6;by_cases hk:k<t.length
  ·have h8:=HM.out.hd k hk
   have h3:=HM.out.row k hk;have h7:=h3.len_le;rw[zL]at h7;unfold maxLen at h7;obtain⟨r,hr⟩:=Nm (t.getD k []);rw[<-hr]at h8 h3 h7;have HG:=Kh hg;have HR:=Kh hr;clear hg hr;by_cases hl:r.length=t.length
   ·have h5:=Kh hl
    have H0:((r.length:Int) != t.length)=false:=by rw[hl];simp
    obtain⟨rb,ro,rc,e,hb,h1,h2,h9⟩:=h3.some_ (by rw[zL];omega);simp only[Value.slice.injEq]at e;obtain⟨eA,-,rfl⟩:=e;rw[eA]at h8;have HA:=Kh eA;have RA:=Kh h9;rw[hl]at h8;rw[zL,hl]at h1;clear eA h9 hl;go_wp2
    go_loopg [26] t.length (fun g j wr'=>∃y:Nat,g+y=t.length/\j=.int .i64 y/\qCK t.length r y/\w=wr')
    case atStart=>exact⟨0,rfl,rfl,fun x hx=>absurd hx yo,rfl⟩
    obtain⟨y,hg,rfl,h6,rfl⟩:=hrel;have OKY:=Kh h6;clear h6;by_cases hy:y<t.length
    ·have H1:=RA.out.int y (by rw[h5.out];exact hy)
     obtain⟨z,hz⟩:=Nm (r.getD y 0);rw[<-hz]at H1;have HZ:=Kh hz;have H3:=Kh hg;clear hz hg;by_cases hb1:z<0
     ·go_wp2
      go_ret;exact⟨yX (qS h4 hk (jE (y:=y) (by rw[<-HR.out,h5.out];exact hy) (by rw[<-HR.out,<-HZ.out];exact .inl hb1))).symm,rfl⟩
     by_cases hb2:(t.length:Int)<=z
     ·go_wp2
      go_ret;exact⟨yX (qS h4 hk (jE (y:=y) (by rw[<-HR.out,h5.out];exact hy) (by rw[<-HR.out,<-HZ.out];exact .inr hb2))).symm,rfl⟩
     go_wp2;go_roundg (t.length-(y+1))
     case measure=>have:=H3.out;omega
     refine⟨y+1,yo,by go_num,fun x hx=>?_,rfl⟩;rcases Nat.lt_succ_iff_lt_or_eq.1 hx with hx|rfl
     ·exact OKY.out x hx
     rw[<-HZ.out];omega
    go_wp2;go_roundg (t.length-(k+1))
    case measure=>have:=HG.out;omega
    refine⟨k+1,yo,by go_num,fun x hx=>?_,rfl⟩;rcases Nat.lt_succ_iff_lt_or_eq.1 hx with hx|rfl
    ·exact OK.out x hx
    rw[<-HR.out,pB];exact⟨h5.out,fun z hz=>OKY.out z (by rw[h5.out]at hz;omega)⟩
   have H0:((r.length:Int) != t.length)=true:=by rw[bne_iff_ne];omega
   have h5:=Kh hl;clear hl;go_wp2;go_ret;exact⟨yX (qS h4 hk (by rw[<-HR.out];exact qAQ h5.out)).symm,rfl⟩
  go_wp2;go_ret;exact⟨yX (fQ h4 h0 (fun x hx=>OK.out x yo)).symm,rfl⟩
 obtain⟨a,c,e⟩:=h.shape;have ht:t=[]:=List.eq_nil_of_length_eq_zero yo;subst ht;subst e;clear h0;go_enter Tryz.func52,Tryz.ntmps52;go_wp2;go_ret;exact⟨rfl,rfl⟩
def inB (n:Nat)(l:List Int):Bool:=l.all fun x=>decide (0<=x/\x<n)
theorem qKX :inB n l=true↔∀y,y<l.length->0<=l.getD y 0/\l.getD y 0<n:=by
 simp only[inB,List.all_eq_true,decide_eq_true_eq];refine⟨fun h y hy=>?_,fun h x hx=>?_⟩
 ·have:=h (l[y]) (List.getElem_mem hy)
  simpa [List.getD,List.getElem?_eq_getElem hy] using this
 obtain⟨y,hy,rfl⟩:=List.getElem_of_mem hx;have:=h y hy;simpa [List.getD,List.getElem?_eq_getElem hy] using this
theorem qKY {y:Nat}(hy:y<l.length)(h:l.getD y 0<0\/n<=l.getD y 0):inB n l=false:=by
 rw[<-Bool.not_eq_true];intro hr;have:=qKX.1 hr y hy;omega
theorem qOC (B:Nat)(w:World)(a:Option Addr)(n cap:Nat)(v:Value)(l:List Int)(hn:n<=9223372036854775807)(h:Row B w v (ints l)):Calls Tryz.prog 53 #[.slice a n cap,v] w fun e w'=>e=.returned (.bool (inB n l))/\w=w':=by
 by_cases h0:0<l.length
 ·obtain⟨b,off,c,rfl,_,h7,h4,h1⟩:=h.some_ (by rw[zL];exact h0)
  rw[zL]at *;have h6:c<=9223372036854775807:=(by unfold maxLen at h4;omega)
  have RA:=Kh h1;clear h1 h;go_enter Tryz.func53,Tryz.ntmps53;go_wp2
  go_loopg [9] l.length (fun g i wr=>∃k:Nat,g+k=l.length/\i=.int .i64 k/\qCK n l k/\w=wr)
  case atStart=>exact⟨0,rfl,rfl,fun x hx=>absurd hx yo,rfl⟩
  obtain⟨y,hg,rfl,h2,rfl⟩:=hrel;have OKY:=Kh h2;have h5:=Kh hg;clear h2 hg;by_cases hy:y<l.length
  ·have h3:=RA.out.int y hy
   obtain⟨z,hz⟩:=Nm (l.getD y 0);rw[<-hz]at h3;have HZ:=Kh hz;clear hz;by_cases hb1:z<0
   ·go_wp2
    go_ret;exact⟨yQ (qKY hy (by rw[<-HZ.out];exact .inl hb1)).symm,rfl⟩
   by_cases hb2:(n:Int)<=z
   ·go_wp2
    go_ret;exact⟨yQ (qKY hy (by rw[<-HZ.out];exact .inr hb2)).symm,rfl⟩
   go_wp2;go_roundg (l.length-(y+1))
   case measure=>have:=h5.out;omega
   refine⟨y+1,yo,by go_num,fun x hx=>?_,rfl⟩;rcases Nat.lt_succ_iff_lt_or_eq.1 hx with hx|rfl
   ·exact OKY.out x hx
   rw[<-HZ.out];omega
  go_wp2;go_ret;exact⟨yQ (qKX.2 (fun x hx=>OKY.out x yo)).symm,rfl⟩
 have hl:l=[]:=List.eq_nil_of_length_eq_zero yo;subst hl;obtain⟨a',c,rfl⟩:=h.nil_ rfl;clear h h0;go_enter Tryz.func53,Tryz.ntmps53;go_wp2;refine wp_loop_rounds 1 ?_;rw[rounds_succ];go_wp2;go_ret;exact⟨rfl,rfl⟩
open Go.Maps
def mY (a b:SynI)(w:World)(e:Ending)(w':World):Prop:=∃r:Bool,e=.returned (.bool r)/\(r=true↔a=b)/\w.grownBy w' none
theorem mY.no {a b:SynI}{w w':World}(h:¬a=b)(hg:w.grownBy w' none):mY a b w (.returned (.bool false)) w':=⟨false,rfl,⟨fun h=>(by cases h),fun e=>absurd e h⟩,hg⟩
theorem qDB (B C:Nat)(w:World)(va vb:Value)(a b:SynI)(ha:pX B w va a)(hb:pX C w vb b)(hl:a.tab.length<=4000):Calls Tryz.prog 55 #[va,vb] w (mY a b w):=by
 obtain⟨a1,a2,a3,a4,a5,rfl,a9,a8,a7,a6,a0⟩:=ha;obtain⟨b1,b2,b3,b4,b5,rfl,H9,H8,H7,H6,H0⟩:=hb;obtain⟨ka,h3⟩:=Nm a.k;obtain⟨kb,h2⟩:=Nm b.k;rw[<-h3,<-h2];obtain⟨w1,h0⟩:=Nm (w.alloc (.cells #[.int .i64 ka,a1,a2,a3,a4,a5] 39));have g1:w.grownBy w1 none:=by rw[h0];exact Ga w _ none
 have n1:=heap_alloc_new w (.cells #[.int .i64 ka,a1,a2,a3,a4,a5] 39);have h9:w1.heap.size=w.heap.size+1:=by rw[h0];simp
 obtain⟨w2,h1⟩:=Nm (w1.alloc (.cells #[.int .i64 kb,b1,b2,b3,b4,b5] 39));have g2:w1.grownBy w2 none:=by rw[h1];exact Ga w1 _ none
 have n2:=heap_alloc_new w1 (.cells #[.int .i64 kb,b1,b2,b3,b4,b5] 39);rw[<-h0]at n1;rw[<-h1,h9]at n2;obtain⟨P,hP⟩:=Nm w.heap.size;rw[<-hP]at n1 n2;obtain⟨p0,p1,p2,p3,p4,p5⟩:=zU (zD n1 g2);obtain⟨q0,q1,q2,q3,q4,q5⟩:=zU n2;have hg:=zE g1 g2;have H1:=Kh (fun(W:World) (h:w.grownBy W none)=>qAO B C W a1 b1 a.tab b.tab (a9.kept h yq) (H9.kept h yq) hl);have H2:=Kh (fun(W:World) (h:w.grownBy W none)=>qGG B C W a2 b2 a.words b.words (a8.kept h yq) (H8.kept h yq));have H3:=Kh (fun(W:World) (h:w.grownBy W none)=>qT B C W a3 b3 a.images b.images (a7.kept h yq) (H7.kept h yq));have H4:=Kh (fun(W:World) (h:w.grownBy W none)=>fR B C W a4 b4 a.accept b.accept (a6.kept h yq) (H6.kept h yq));have H5:=Kh (fun(W:World) (h:w.grownBy W none)=>fR B C W a5 b5 a.plus b.plus (a0.kept h yq) (H0.kept h yq))
 have HE:Hid (a=b↔ka=kb/\a.tab=b.tab/\a.words=b.words/\a.images=b.images/\a.accept=b.accept/\a.plus=b.plus):=Kh (by
  rw[h3,h2];obtain⟨x1,x2,x3,x4,x5,x6⟩:=a;obtain⟨y1,y2,y3,y4,y5,y6⟩:=b
  simp)
 obtain⟨d1,h8⟩:=Nm (decide (a.tab=b.tab));obtain⟨d2,h7⟩:=Nm (decide (a.words=b.words));obtain⟨d3,h6⟩:=Nm (decide (a.images=b.images));obtain⟨d4,h5⟩:=Nm (decide (a.accept=b.accept));obtain⟨d5,h4⟩:=Nm (decide (a.plus=b.plus));rw[<-h8]at H1;rw[<-h7]at H2;rw[<-h6]at H3;rw[<-h5]at H4;rw[<-h4]at H5;obtain⟨b9,b8,b7,b6,b0,HG⟩:=Kf h8 h7 h6 h5 h4 hg;obtain⟨c1,c0,HP⟩:=Kc h0 h1 hP;have HD:Hid (∀q,w.grownBy (w2.drewN q) none):=Kh (fun q=>zE hg (zT w2 q none));clear a9 a8 a7 a6 a0 H9 H8 H7 H6 H0 h0 h1 g1 g2 n1 n2 h9 hP hg h8 h7 h6 h5 h4 hl h3 h2;go_enter Tryz.func55,Tryz.ntmps55;go_upto_region 1 with fail;rw[<-c1.out,<-HP.out,<-c0.out];by_cases hk:ka=kb
 case neg =>
  have e1:(ka == kb)=false:=by rw[beq_eq_false_iff_ne];exact hk
  go_wp2;go_ret;exact mY.no (fun e=>hk (HE.out.1 e).1) HG.out
 subst hk;have e1:(ka == ka)=true:=yq
 go_wp2_with fail;refine(H1.out w2 HG.out).mono ?_;rintro e w3 ⟨rfl,m3,rfl⟩;cases d1 with
 | false =>
  go_wp2;go_ret;exact mY.no (fun e=>of_decide_eq_false b9.out.symm (HE.out.1 e).2.1) (HD.out _)
 | true =>
  go_wp2_with fail;refine(H2.out _ (HD.out _)).mono ?_;rintro e w4 ⟨rfl,m4,rfl⟩;cases d2 with
  | false =>
   go_wp2;go_ret;exact mY.no (fun e=>of_decide_eq_false b8.out.symm (HE.out.1 e).2.2.1) (HD.out _)
  | true =>
   go_wp2_with fail;refine(H3.out _ (HD.out _)).mono ?_;rintro e w5 ⟨rfl,m5,rfl⟩;cases d3 with
   | false =>
    go_wp2;go_ret;exact mY.no (fun e=>of_decide_eq_false b7.out.symm (HE.out.1 e).2.2.2.1) (HD.out _)
   | true =>
    go_wp2_with fail;refine(H4.out _ (HD.out _)).mono ?_;rintro e w6 ⟨rfl,m6,rfl⟩;cases d4 with
    | false =>
     go_wp2;go_ret;exact mY.no (fun e=>of_decide_eq_false b6.out.symm (HE.out.1 e).2.2.2.2.1) (HD.out _)
    | true =>
     go_wp2_with fail;refine(H5.out _ (HD.out _)).mono ?_;rintro e w7 ⟨rfl,m7,rfl⟩;go_wp2;go_ret;exact⟨_,rfl,⟨fun h=>HE.out.2 ⟨by trivial,of_decide_eq_true b9.out.symm,of_decide_eq_true b8.out.symm,of_decide_eq_true b7.out.symm,of_decide_eq_true b6.out.symm,of_decide_eq_true (b0.out.symm.trans h)⟩,fun h=>by rw[b0.out];exact decide_eq_true (HE.out.1 h).2.2.2.2.2⟩,HD.out _⟩
theorem qAR {r:List Int}:gL n r=true↔r.length=n/\inR n r=true:=by
 unfold gL inR;rw[Bool.and_eq_true,decide_eq_true_eq]
theorem qGF {t:List (List Int)}(h:tJ t=0):1<=t.length/\t.length<=400/\∀r∈t,r.length=t.length/\inR t.length r=true:=by
 unfold tJ at h
 split at h
 ·cases h
 split at h
 ·cases h
 split at h
 ·rename_i h1 h2 h3
  exact⟨yo,yo,fun r hr=>qAR.1 (List.all_eq_true.1 h3 r hr)⟩
 cases h
theorem qCY {I:SynI}:uP I=true↔tJ I.tab=0/\(1<=I.k/\I.k<=6)/\(I.images.length:Int)=I.k/\inB I.tab.length I.images=true/\I.accept.length=I.tab.length/\I.words.length=I.tab.length/\I.plus.length=I.tab.length:=by
 constructor
 ·intro h
  obtain⟨⟨h1,h2,h3,h4⟩,⟨h5,h6,h7,h8⟩,h9,h0⟩:=sZ h;exact⟨fQ yo yo (fun x hx=>qAR.2 (h9 _ (wT hx))),⟨h1,h2⟩,h8,h0,h6,h5,h7⟩
 rintro ⟨h1,h2,h3,h4,h5,h6,h7⟩;obtain⟨a,b,c⟩:=qGF h1;unfold uP;rw[Bool.and_eq_true,Bool.and_eq_true,decide_eq_true_eq,List.all_eq_true];exact⟨⟨⟨⟨h2.1,h2.2,a,b⟩,h6,h5,h7,h3⟩,fun r hr=>by rw[Bool.and_eq_true,decide_eq_true_eq];exact c r hr⟩,h4⟩
theorem qGH (B:Nat)(w:World)(v:Value)(I:SynI)(a9:B<=w.heap.size)(h:pX B w v I):Calls Tryz.prog 29 #[v] w (rJ I w):=by
 obtain⟨vT,vW,vI,vA,vP,rfl,hT,hW,hI,hA,hP⟩:=id h;have a1:=hT.len_le;obtain⟨tA,tC,rfl⟩:=hT.shape;obtain⟨wA,wC,rfl⟩:=hW.shape;obtain⟨iA,iC,rfl⟩:=hI.shape;obtain⟨aA,aC,rfl⟩:=hA.shape;obtain⟨pA,pC,rfl⟩:=hP.shape;obtain⟨n,hn⟩:=Nm I.tab.length;obtain⟨wn,H8⟩:=Nm I.words.length;obtain⟨iN,H4⟩:=Nm I.images.length;obtain⟨an,a8⟩:=Nm I.accept.length;obtain⟨pn,H9⟩:=Nm I.plus.length;obtain⟨k,hk⟩:=Nm I.k;rw[<-hn,tI,zL,yB,yB,<-H8,<-H4,<-a8,<-H9,<-hk]at h⊢;rw[<-hn]at hT a1;rw[zL,<-H4]at hI;obtain⟨w1,H1⟩:=Nm (w.alloc (.cells #[.int .i64 k,.slice tA n tC,.slice wA wn wC,.slice iA iN iC,.slice aA an aC,.slice pA pn pC] 39));have h4:w.grownBy w1 none:=by rw[H1];exact Ga w _ none
 have H6:=heap_alloc_new w (.cells #[.int .i64 k,.slice tA n tC,.slice wA wn wC,.slice iA iN iC,.slice aA an aC,.slice pA pn pC] 39);obtain⟨P,b0⟩:=Nm w.heap.size;rw[<-H1,<-b0]at H6;have e2:=Kh (qDA B w1 _ I.tab (hT.kept h4 yq));have e6:=Kh (qOC B w1 tA n tC _ I.images (by unfold maxLen at a1;omega) (hI.kept h4 yq));have e4:=Kh (vG w1 k);have e0:Hid (∀W:World,w.grownBy W none->pX B W (.agg #[.int .i64 k,.slice tA n tC,.slice wA wn wC,.slice iA iN iC,.slice aA an aC,.slice pA pn pC]) I):=Kh (fun W hW=>h.kept hW);have h0:Hid (uP I=true↔tJ I.tab=0/\(1<=k/\k<=6)/\(iN:Int)=k/\inB n I.images=true/\an=n/\wn=n/\pn=n):=Kh (by rw[hk,H4,hn,a8,H8,H9];exact qCY);have h2:Hid (¬uP I=true->rJ I w (.returned (.int .i64 8)) w1):=Kh (fun hs=>rJ.no (fun h9=>hs h9.1) h4);obtain⟨sE,c8⟩:=Nm (tJ I.tab);obtain⟨b2,a7⟩:=Nm (decide (1<=k/\k<=6));obtain⟨b4,d9⟩:=Nm (inB n I.images);rw[<-c8]at e2 h0;rw[<-a7]at e4;rw[<-d9]at e6 h0;obtain⟨e9,c2,f2,f6,g0,HN⟩:=Kf a7 h4 H1 b0 H6 hn;have HK:=Kh hk;obtain⟨q0,q1,q2,q3,q4,q5⟩:=zU H6;clear h hT hW hI hA hP hn H8 H4 a8 H9 h4 H6 H1 b0 hk c8 a7 d9 a1;go_enter Tryz.func29,Tryz.ntmps29;go_upto_region 1 with fail;rw[<-f2.out,<-f6.out];go_wp2_with fail;refine e2.out.mono ?_;rintro e w2 ⟨rfl,rfl⟩;by_cases hs:sE=0
 case neg =>
  have e1:(sE != 0)=true:=by rw[bne_iff_ne];exact hs
  go_wp2;go_ret;exact h2.out (fun h=>hs (h0.out.1 h).1)
 subst hs;go_wp2_with fail;refine e4.out.mono ?_;rintro e w2 ⟨rfl,rfl⟩;cases b2 with
 | false =>
  go_wp2;go_ret;exact h2.out (fun h=>of_decide_eq_false e9.out.symm (h0.out.1 h).2.1)
 | true =>
 by_cases h3:(iN:Int)=k
 case neg =>
  have e1:((iN:Int) != k)=true:=by rw[bne_iff_ne];exact h3
  go_wp2;go_ret;exact h2.out (fun h=>h3 (h0.out.1 h).2.2.1)
 have e3:((iN:Int) != k)=false:=by rw[h3];simp
 have H3:=Kh h3;clear h3;go_wp2_with fail;refine e6.out.mono ?_;rintro e w2 ⟨rfl,rfl⟩;cases b4 with
 | false =>
  go_wp2;go_ret;exact h2.out (fun h=>by have:=(h0.out.1 h).2.2.2.1;cases this)
 | true =>
 by_cases h5:an=n
 case neg =>
  have e1:((an:Int) != n)=true:=by rw[bne_iff_ne];omega
  go_wp2;go_ret;exact h2.out (fun h=>h5 (h0.out.1 h).2.2.2.2.1)
 subst h5;have e5:((an:Int) != an)=false:=yq
 by_cases h6:wn=an
 case neg =>
  have e1:((wn:Int) != an)=true:=by rw[bne_iff_ne];omega
  go_wp2;go_ret;exact h2.out (fun h=>h6 (h0.out.1 h).2.2.2.2.2.1)
 subst h6;by_cases h7:pn=wn
 case neg =>
  have e1:((pn:Int) != wn)=true:=by rw[bne_iff_ne];omega
  go_wp2;go_ret;exact h2.out (fun h=>h7 (h0.out.1 h).2.2.2.2.2.2)
 subst h7;have H2:uP I=true:=h0.out.2 ⟨by trivial,of_decide_eq_true e9.out.symm,H3.out,by trivial,by trivial,by trivial,by trivial⟩;have f5:=Kh H2;have h8:=Kh (sZ H2);have f0:=Kh (qGJ B w1 _ I (Nat.le_trans a9 c2.out.size) (e0.out _ c2.out) H2);clear H2;go_wp2_with fail;refine f0.out.mono ?_;rintro e w3 ⟨v3,rfl,d8,a4⟩;have b9:=Kh (qDK w3.heap.size w3 v3 (autI I) (Nat.le_refl _) d8);have e8:=Kh (zE c2.out a4);have f9:=Kh (zD g0.out a4);clear a4 d8 q0 q1 q2 q3 q4 q5 f0;go_wp2_with fail;refine b9.out.mono ?_;rintro e w4 a0;rcases a0.ret with ⟨c,rfl,hc0,hcv,hc3,hg4⟩|⟨S,v4,rfl,hSO,hSA,hg4⟩
 ·have c1:Hid (¬sD I):=Kh (fun⟨_,S,h1,_⟩=>by
   have hv:=h1.valid (by have:=h8.out.2.1.2.1;have:=h8.out.1.2.2.2;simp only[autI];omega)
   exact(hc3 hv).2 S h1)
  have g1:(c != 0)=true:=by rw[bne_iff_ne];exact hc0
  have f7:=Kh (zE e8.out hg4);clear hcv hc3 hc0 hg4 b9 a0;go_wp2;go_ret;exact rJ.no c1.out (zE f7.out (Ga _ _ none))
 have a2:=hSO.lens;obtain⟨jT,jW,jI,jA,jP,rfl,b3,b1,b7,b8,b6⟩:=hSA.toI;have H7:=hSA.toI;obtain⟨J,hJ⟩:=Nm S.I
 have c9:J.tab.length<=4000:=by
  have:J.tab.length=S.tab.length:=by rw[hJ];exact xS _
  omega
 have c1:Hid (J≠I->¬sD I):=Kh (fun hne=>qEP hSO (by rw[<-hJ];exact hne));have HV:Hid (J=I->sD I):=Kh (fun e=>⟨f5.out,S,hSO,by rw[<-hJ];exact e⟩);rw[<-hJ]at b3 b1 b7 b8 b6 H7⊢;obtain⟨xA,xC,rfl⟩:=b3.shape;obtain⟨uA,uC,rfl⟩:=b1.shape;obtain⟨iA2,iC2,rfl⟩:=b7.shape;obtain⟨zA,zC,rfl⟩:=b8.shape;obtain⟨yA,yC,rfl⟩:=b6.shape;obtain⟨x1,c7⟩:=Nm J.tab.length;obtain⟨x2,c6⟩:=Nm ((uZ J.words).length);obtain⟨x3,c5⟩:=Nm ((ints J.images).length);obtain⟨x4,c4⟩:=Nm ((bls J.accept).length);obtain⟨x5,c3⟩:=Nm ((bls J.plus).length);obtain⟨jk,d6⟩:=Nm J.k;rw[<-c7,<-c6,<-c5,<-c4,<-c3,<-d6]at H7⊢;obtain⟨w5,H0⟩:=Nm (w4.alloc (.cells #[.int .i64 jk,.slice xA x1 xC,.slice uA x2 uC,.slice iA2 x3 iC2,.slice zA x4 zC,.slice yA x5 yC] 39));have H5:w4.grownBy w5 none:=by rw[H0];exact Ga w4 _ none
 have a6:=heap_alloc_new w4 (.cells #[.int .i64 jk,.slice xA x1 xC,.slice uA x2 uC,.slice iA2 x3 iC2,.slice zA x4 zC,.slice yA x5 yC] 39);obtain⟨b5,a5⟩:=Nm w4.heap.size;rw[<-H0,<-a5]at a6;have a3:=zE (zE e8.out hg4) H5;have f4:=Kh (qDB w4.heap.size B w5 _ _ J I (H7.kept H5) (e0.out _ a3) c9);obtain⟨e7,f1,f8⟩:=Kc a3 H0 a5;obtain⟨d0,d1,d2,d3,d4,d5⟩:=zU a6;obtain⟨q0,q1,q2,q3,q4,q5⟩:=zU (zD (zD f9.out hg4) H5);clear a2 b3 b1 b7 b8 b6 H7 hJ c9 c7 c6 c5 c4 c3 d6 H0 H5 a6 a5 a3 hg4 b9 a0 hSA hSO;go_upto_region 5 with fail;rw[<-f1.out,<-f8.out];go_wp2_with fail;refine f4.out.mono ?_;rintro e w6 ⟨r,rfl,hr,d7⟩;cases r with
 | false =>
  have c0:=Kh (c1.out (fun e=>by have:=hr.2 e;cases this));clear hr;go_wp2;go_ret;exact rJ.no c0.out (zE e7.out d7)
 | true =>
  have f3:=Kh (HV.out (hr.1 rfl));clear hr;go_wp2;go_ret;exact rJ.yes f3.out (zE e7.out d7)
end Go.Proofs.YtiknckajkdlppaaGreat
namespace Go.Proofs.YtiknckajkdlppaaGreat
open Go.RowKit
theorem qAP (B:Nat)(w:World)(vi vp va:Value)(idx per:List Int)(hi:Row B w vi (ints idx))(hp:Row B w vp (ints per))(hl:per.length=idx.length)(a8:PosC idx per)(a7:1<=idx.length):Calls Tryz.prog 30 #[.agg #[vi,vp,va]] w fun e w'=>e=.returned (.tuple #[.int .i64 (lU idx per),.bool (kR idx per)])/\w.grownBy w' none:=by
 obtain⟨ib,io,ic,rfl,_,i1,i2,ir⟩:=hi.some_ (by rw[zL];omega);obtain⟨pb,po,pc,rfl,_,p1,p2,pr⟩:=hp.some_ (by rw[zL];omega);rw[zL]at i1 p1⊢;rw[zL,hl];rw[hl]at p1;unfold maxLen at i2 p2;obtain⟨n,hn⟩:=Nm idx.length;rw[<-hn]at i1 p1⊢;obtain⟨w1,h4⟩:=Nm (w.alloc (.cells #[.slice (some ⟨ib,io,none⟩) n ic,.slice (some ⟨pb,po,none⟩) n pc,va] 35));have h7:w.grownBy w1 none:=by rw[h4];exact Ga w _ none
 have H0:=heap_alloc_new w (.cells #[.slice (some ⟨ib,io,none⟩) n ic,.slice (some ⟨pb,po,none⟩) n pc,va] 35);obtain⟨P,hP⟩:=Nm w.heap.size;rw[<-h4,<-hP]at H0;obtain⟨q0,q1,q2⟩:=xZ H0
 have a6:Hid (∀a,a<n->∃i p:Nat,w1.cell? ⟨ib,io+a,none⟩=some (.int .i64 (i:Int))/\w1.cell? ⟨pb,po+a,none⟩=some (.int .i64 (p:Int))/\idx.getD a 0=(i:Int)/\per.getD a 0=(p:Int)):=Kh (fun a ha=>by
  have h1:=a8 a yo;have h2:=zN (ir.int a yo) h7;have h3:=zN (pr.int a yo) h7;obtain⟨i,ei⟩:∃i:Nat,idx.getD a 0=(i:Int):=⟨(idx.getD a 0).toNat,yo⟩;obtain⟨p,ep⟩:∃p:Nat,per.getD a 0=(p:Int):=⟨(per.getD a 0).toNat,yo⟩;rw[ei]at h2;rw[ep]at h3
  exact⟨i,p,h2,h3,ei,ep⟩)
 obtain⟨h9,H9,a3,HN⟩:=Kd h7 h4 hP hn;obtain⟨rn,h5⟩:=Nm (lU idx per);obtain⟨rb,h6⟩:=Nm (kR idx per);rw[<-h5,<-h6];have a1:=Kh h5;have a2:=Kh h6
 have H2:Hid (∀a,a<=n->uD idx per a=none->rn=0/\rb=false):=Kh (fun a ha h=>by
  obtain⟨h1,h2⟩:=iD h yo
  exact⟨by rw[h5,h1],by rw[h6,h2]⟩)
 clear hi hp hl a8 ir pr hn h4 h7 H0 hP q2 h5 h6;go_enter Tryz.func30,Tryz.ntmps30;go_upto_region 1 with fail;rw[<-H9.out,<-a3.out];go_wp2
 go_loopg [4,5,9] n (fun gh a4 a5 a9 wr=>∃a c q:Nat,gh+a=n/\a9=.int .i64 a/\a4=.int .i64 (c:Int)/\uD idx per a=some c/\wr=w1.drewN q)
 case atStart=>exact⟨0,1,0,rfl,rfl,rfl,rfl,rfl⟩
 obtain⟨a,c,q,H5,rfl,rfl,hc,rfl⟩:=hrel;have H3:=Kh H5;have HC:=Kh hc;have H6:=qO hc;clear H5 hc;by_cases ha:a<n
 ·have H7:(a:Int)<n:=yo
  obtain⟨i,p,ci,cp,ei,ep⟩:=a6.out a ha;have h8:=Kh (iT HC.out ei ep);clear ei ep;by_cases h1:2000<(i:Int)
  ·have HF:=Kh (H2.out (a+1) yo (by rw[h8.out,if_pos yo]))
   go_wp2;refine bodyPost_ret (v:=.tuple #[.int .i64 0,.bool false]) (by simp[results,Tryz.results30,go_sem]) rfl ?_;exact⟨by rw[HF.out.1,HF.out.2],zE h9.out (zT w1 _ none)⟩
  by_cases h2:2000<(p:Int)
  ·have HF:=Kh (H2.out (a+1) yo (by rw[h8.out,if_pos yo]))
   go_wp2;refine bodyPost_ret (v:=.tuple #[.int .i64 0,.bool false]) (by simp[results,Tryz.results30,go_sem]) rfl ?_;exact⟨by rw[HF.out.1,HF.out.2],zE h9.out (zT w1 _ none)⟩
  obtain⟨r,hr⟩:=Nm (i+p);have e0:(i:Int)+(p:Int)=(r:Int):=yo
  have H4:r<=4000:=yo
  obtain⟨m,hm⟩:=Nm (c*r);have b0:m<=8000000:=by rw[hm];exact(oY H6 H4).2.2
  have h0:Hid (uD idx per (a+1)=if 2000<m then none else some m):=Kh (by
   rw[h8.out,<-hr,<-hm];by_cases h:2000<m
   ·rw[if_pos h,if_pos (.inr (.inr h))]
   rw[if_neg h,if_neg yo])
  have H1:=Kh (H2.out (a+1) yo);have e1:IntKind.i64.wrap ((i:Int)+(p:Int))=(r:Int):=by rw[e0];exact wK yo
  have e34:=oY H6 H4;rw[<-hm]at e34;have e3:=e34.1;clear e34 hm hr h8 e0;by_cases h3:2000<m
  ·have HF:=Kh (H1.out (by rw[h0.out,if_pos h3]))
   have H8:2000<(m:Int):=(by clear e1 e3;omega);go_wp2
   go_quiet (fail)
   go_wp2;refine bodyPost_ret (v:=.tuple #[.int .i64 0,.bool false]) (by simp[results,Tryz.results30,go_sem]) rfl ?_;exact⟨by rw[HF.out.1,HF.out.2],zE h9.out (by first|exact zT w1 _ none|exact zE (zT w1 _ none) (zT _ _ none))⟩
  have a0:Hid (uD idx per (a+1)=some m):=Kh (by rw[h0.out,if_neg h3]);have H8:¬2000<(m:Int):=(by clear e1 e3;omega);clear h0;go_wp2
  go_quiet (fail)
  clear e1 e3;go_wp2;go_roundg (n-(a+1))
  case measure=>have:=H3.out;omega
  exact⟨a+1,m,_,by have:=H3.out;omega,by go_num,rfl,a0.out,by first|rfl|exact World.drewN_drewN _ _ _⟩
 have H7:¬(a:Int)<n:=yo
 have HE:Hid (rn=c/\rb=true):=Kh (by
  have:=HC.out;rw[show a=idx.length by have:=H3.out;have:=HN.out;omega]at this;obtain⟨h1,h2⟩:=mQ this
  exact⟨by rw[a1.out,h1],by rw[a2.out,h2]⟩)
 go_wp2;refine bodyPost_ret (v:=.tuple #[.int .i64 (c:Int),.bool true]) (by simp[results,Tryz.results30,go_sem]) rfl ?_;exact⟨by rw[HE.out.1,HE.out.2],zE h9.out (zT w1 _ none)⟩
open Go.Maps
theorem qGI (B:Nat)(w:World)(v:Value)(I:SynI)(a8:B<=w.heap.size)(h:pX B w v I):Calls Tryz.prog 12 #[v] w (qCL I w):=by
 obtain⟨vT,vW,vI,vA,vP,rfl,hT,hW,hI,hA,hP⟩:=id h;obtain⟨tA,tC,rfl⟩:=hT.shape;obtain⟨wA,wC,rfl⟩:=hW.shape;obtain⟨iA,iC,rfl⟩:=hI.shape;obtain⟨aA,aC,rfl⟩:=hA.shape;obtain⟨pA,pC,rfl⟩:=hP.shape;obtain⟨n,hn⟩:=Nm I.tab.length;obtain⟨wn,n6⟩:=Nm ((uZ I.words).length);obtain⟨k,hk⟩:=Nm I.images.length;obtain⟨an,i9⟩:=Nm I.accept.length;obtain⟨pn,c9⟩:=Nm ((bls I.plus).length);rw[<-hn,<-n6,zL,<-hk,yB,<-i9,<-c9]at h⊢;rw[<-hn]at hT;rw[zL,<-hk]at hI;rw[yB,<-i9]at hA;obtain⟨w1,c8⟩:=Nm (w.alloc (.cells #[.int .i64 I.k,.slice tA n tC,.slice wA wn wC,.slice iA k iC,.slice aA an aC,.slice pA pn pC] 39));have g1:w.grownBy w1 none:=by rw[c8];exact Ga w _ none
 have n1:=heap_alloc_new w (.cells #[.int .i64 I.k,.slice tA n tC,.slice wA wn wC,.slice iA k iC,.slice aA an aC,.slice pA pn pC] 39);have h7:w1.heap.size=w.heap.size+1:=by rw[c8];simp
 rw[<-c8]at n1;obtain⟨w2,g9⟩:=Nm (w1.alloc (.cells #[.slice none 0 0,.slice none 0 0,.slice none 0 0] 35));have g2:w1.grownBy w2 none:=by rw[g9];exact Ga w1 _ none
 have n2:=heap_alloc_new w1 (.cells #[.slice none 0 0,.slice none 0 0,.slice none 0 0] 35);rw[<-g9,h7]at n2;obtain⟨P,l8⟩:=Nm w.heap.size;rw[<-l8]at n1 n2;have l5:=zD n1 g2;have i4:=zE g1 g2;obtain⟨ik,k7⟩:=Nm I.k;rw[<-k7]at c8 l5 h⊢;have c4:=Kh k7;have y3:=Kh (h.kept i4);have HT:Hid (∀W:World,w.grownBy W none->Mat B W (.slice tA n tC) I.tab):=Kh (fun W hg=>hT.kept hg yq);have HI:Hid (∀W:World,w.grownBy W none->Row B W (.slice iA k iC) (ints I.images)):=Kh (fun W hg=>hI.kept hg yq);have HA:Hid (∀W:World,w.grownBy W none->Row B W (.slice aA an aC) (bls I.accept)):=Kh (fun W hg=>hA.kept hg yq);obtain⟨s0,y9,HG,x2,x1,f9⟩:=Kf l5 n2 i4 c8 g9 l8;obtain⟨HN,HK,n0⟩:=Kc hn hk i9;have HV:=Kh (qGH B w2 _ I (Nat.le_trans a8 i4.size) y3.out);clear h hT hW hI hA hP hn n6 hk i9 c9 k7 g1 n1 h7 g2 n2 l5 i4 c8 g9 l8;go_enter Tryz.func12,Tryz.ntmps12;go_upto_region 1 with fail;rw[<-x2.out,<-f9.out,<-x1.out];obtain⟨q0,q1,q2,q3,q4,q5⟩:=zU s0.out;go_wp2_with fail;refine HV.out.mono ?_;rintro e w3 ⟨⟨z,rfl,hz⟩,i6⟩;have g3:=Kh (zE HG.out i6);have m9:=Kh (zD s0.out i6);have h5:=Kh (zD y9.out i6);obtain⟨p0,p1,p2⟩:=xZ h5.out;have f0:=zB h5.out 0;have f1:=zB h5.out 1;have f2:=zB h5.out 2;clear i6 HV q0 q1 q2 q3 q4 q5;rcases hz with ⟨rfl,H0⟩|⟨rfl,hnv⟩
 case inr =>
  have x7:=Kh hnv;clear hnv;go_wp2;refine bodyPost_ret (v:=.tuple #[.agg #[.slice none 0 0,.slice none 0 0,.slice none 0 0],.int .i64 8]) (by simp[results,Tryz.results12,go_sem,p0,p1,p2]) rfl ?_;obtain⟨s7,b8⟩:=pU h5.out (.slice none 0 0) (.slice none 0 0) (.slice none 0 0);exact⟨.inl ⟨8,rfl,.inl ⟨rfl,x7.out⟩⟩,zE g3.out b8 (fun j e=>by have e:P+1=j:=Oj e;have:=f9.out;omega)⟩
 clear p0 p1 p2 f0 f1 f2;have c0:=Kh H0;have c1:=Kh H0.tab;have h6:=Kh (sZ H0.1);clear H0;have s9:ik=(k:Int):=by rw[c4.out,HK.out];exact h6.out.2.1.2.2.2.symm
 subst s9;have o9:1<=k:=by have:=h6.out.1.1;have:=c4.out;omega
 have z8:k<=6:=by have:=h6.out.1.2.1;have:=c4.out;omega
 have z7:n<=400:=by rw[HN.out];exact h6.out.1.2.2.2
 have s8:1<=n:=by rw[HN.out];exact h6.out.1.2.2.1
 obtain⟨ib,io,ic,ei,_,i1,i2,ir⟩:=(HI.out _ g3.out).some_ (by rw[zL,<-HK.out];exact o9);obtain⟨tb,tf,tc,RB,RO,RC,et,t1,t2,hq⟩:=(HT.out _ g3.out).sq c1.out.1;obtain⟨ab,ao,ac,ea,_,a1,a2,ar⟩:=(HA.out _ g3.out).some_ (by rw[yB,h6.out.2.1.2.1,<-HN.out];exact s8);simp only[Value.slice.injEq]at ei et ea;obtain⟨rfl,h7,rfl⟩:=ei;obtain⟨rfl,s3,rfl⟩:=et;obtain⟨rfl,s2,rfl⟩:=ea;rw[zL,<-HK.out]at i1;rw[<-HN.out]at t1;rw[yB,<-n0.out]at a1;have t2':tC<=9223372036854775807:=(by unfold maxLen at t2;omega)
 unfold maxLen at i2 a2;have l6:an=n:=by rw[n0.out,h6.out.2.1.2.1,HN.out]
 subst l6;obtain⟨IR,HQ,AR⟩:=Kc ir hq ar;have h9:Hid (∀W:World,w3.grownBy W none->W.heap[P]?=some (.cells #[.int .i64 (k:Int),.slice (some ⟨tb,tf,none⟩) an tC,.slice wA wn wC,.slice (some ⟨ib,io,none⟩) k iC,.slice (some ⟨ab,ao,none⟩) an aC,.slice pA pn pC] 39 (0,0))/\W.heap[P+1]?=some (.cells #[.slice none 0 0,.slice none 0 0,.slice none 0 0] 35 (0,0))/\w.grownBy W none):=Kh (fun W hW=>⟨zD m9.out hW,zD h5.out hW,zE g3.out hW⟩);clear ir hq ar h7 s3 s2 HI HT HA t2
 have r4:Hid (∀a,a<k->∃x:Nat,x<an/\I.images.getD a 0=(x:Int)/\(imI I).getD a 0=x):=Kh (fun a ha=>by
  obtain⟨x,ex,c6⟩:=iQ h6.out.2.2.2 (i:=a) (by rw[<-HK.out];exact ha)
  exact⟨x,by rw[HN.out];exact c6,ex,by rw[imI,xY (x:=0) (by rw[<-HK.out];exact ha),ex,Int.toNat_natCast]⟩)
 have t8:Hid (∀a,a<k->(imI I).getD a 0<I.tab.length):=Kh (fun a ha=>by obtain⟨x,h1,h2,h3⟩:=r4.out a ha;rw[h3,<-HN.out];exact h1);obtain⟨q0,q1,q2,q3,q4,q5⟩:=zU (h9.out w3 (zX _ _)).1;clear q0 q2 q3 q4 q5;go_wp2
 go_loopg [5,6,31] an (fun gh a5 a6 a31 wr=>∃x:Nat,gh+x=an/\a31=.int .i64 x/\(∀y,y<x->cenB I.tab y=true)/\∃q,wr=w3.drewN q)
 case atStart=>exact⟨0,rfl,rfl,fun y hy=>by omega,0,rfl⟩
 obtain⟨x,e4,rfl,f5,q,rfl⟩:=hrel;have c5:=Kh e4;have g5:=Kh f5;clear e4 f5;by_cases hx:x<an
 ·have j5:(x:Int)<an:=yo
  go_wp2
  go_loopg [6,37] an (fun gh a6 a37 wr=>∃y:Nat,gh+y=an/\a37=.int .i64 y/\qPN I.tab x y/\∃q,wr=w3.drewN q)
  case atStart=>exact⟨0,rfl,rfl,fun y hy=>by omega,q,rfl⟩
  obtain⟨y,p3,rfl,H4,q2,rfl⟩:=hrel;have m4:=Kh p3;have j4:=Kh H4;clear p3 H4;by_cases hy:y<an
  ·have n4:(y:Int)<an:=yo
   have cx:=HQ.out.hd x (by rw[<-HN.out];exact hx);have cy:=HQ.out.hd y (by rw[<-HN.out];exact hy);have exy:=HQ.out.el x y (by rw[<-HN.out];exact hx) (by rw[<-HN.out];exact hy);have eyx:=HQ.out.el y x (by rw[<-HN.out];exact hy) (by rw[<-HN.out];exact hx);have kx:=HQ.out.cap x (by rw[<-HN.out];exact hx);have ky:=HQ.out.cap y (by rw[<-HN.out];exact hy);rw[<-HN.out]at cx cy kx ky;unfold maxLen at kx ky;obtain⟨kx1,kx2⟩:=kx;obtain⟨ky1,ky2⟩:=ky;obtain⟨u,hu⟩:=Nm (entN I.tab x y);obtain⟨v,hv⟩:=Nm (entN I.tab y x);rw[<-hu]at exy;rw[<-hv]at eyx;have HU:=Kh hu;have q8:=Kh hv;clear hu hv;by_cases huv:u=v
   ·have m5:Hid (qPN I.tab x (y+1)):=Kh (fun z hz=>by
     rcases Nat.lt_or_ge z y with h|h
     ·exact j4.out z h
     ·have:z=y:=yo
      rw[this,<-HU.out,<-q8.out,huv])
    have e1:((u:Int) != (v:Int))=false:=by rw[huv];simp
    clear huv;go_wp2
    go_quiet (fail)
    go_wp2;go_roundg (an-(y+1))
    case measure=>have:=m4.out;omega
    case rel=>exact⟨y+1,by have:=m4.out;omega,by go_num,m5.out,_,rfl⟩
   have x9:Hid (nH I.tab=false):=Kh (by
    rw[<-Bool.not_eq_true,nH,List.all_eq_true];intro ha;have:=ha x (List.mem_range.2 (by rw[<-HN.out];exact hx));rw[qFQ (by rw[<-HN.out];exact hy) (by rw[<-HU.out,<-q8.out];exact huv)]at this
    cases this)
   have e1:((u:Int) != (v:Int))=true:=by rw[bne_iff_ne];omega
   clear huv;go_wp2
   go_quiet (fail)
   obtain⟨p0,p1,p2⟩:=xZ h5.out;have f0:=zB h5.out 0;have f1:=zB h5.out 1;have f2:=zB h5.out 2;clear cx cy exy eyx q1;go_wp2;refine bodyPost_ret (v:=.tuple #[.agg #[.slice none 0 0,.slice none 0 0,.slice none 0 0],.int .i64 20]) (by simp[results,Tryz.results12,go_sem,p0,p1,p2]) rfl ?_;exact⟨.inl ⟨20,rfl,.inr (.inl ⟨rfl,c0.out,x9.out⟩)⟩,zE (h9.out _ (zT w3 _ none)).2.2 (pU (h9.out _ (zT w3 _ none)).2.1 _ _ _).2 (fun j e=>by have e:P+1=j:=Oj e;have:=f9.out;omega)⟩
  have y7:Hid (cenB I.tab x=true):=Kh (qCF (by rw[<-HN.out,show an=y by have:=m4.out;omega];exact j4.out));have n4:¬(y:Int)<an:=yo;go_wp2;go_roundg (an-(x+1))
  case measure=>have:=c5.out;omega
  refine⟨x+1,by have:=c5.out;omega,by go_num,fun z hz=>?_,q2,rfl⟩;rcases Nat.lt_or_ge z x with h|h
  ·exact g5.out z h
  have:z=x:=yo
  rw[this];exact y7.out
 have g7:Hid (nH I.tab=true):=Kh (by
  rw[nH,List.all_eq_true];intro y hy
  exact g5.out y (by have:=List.mem_range.1 hy;rw[<-HN.out]at this;have:=c5.out;omega))
 have j5:¬(x:Int)<an:=yo;obtain⟨w4,j8⟩:=Nm (w3.drewN q);have e7:w3.grownBy w4 none:=(by rw[j8];exact zT w3 q none);rw[<-j8];have IR:=Kh (IR.out.kept e7 yq);have HQ:=Kh (HQ.out.kept e7 (row:=none) yq);have AR:=Kh (AR.out.kept e7 yq);have h9:Hid (∀W:World,w4.grownBy W none->W.heap[P]?=some (.cells #[.int .i64 (k:Int),.slice (some ⟨tb,tf,none⟩) an tC,.slice wA wn wC,.slice (some ⟨ib,io,none⟩) k iC,.slice (some ⟨ab,ao,none⟩) an aC,.slice pA pn pC] 39 (0,0))/\W.heap[P+1]?=some (.cells #[.slice none 0 0,.slice none 0 0,.slice none 0 0] 35 (0,0))/\w.grownBy W none):=Kh (fun W hW=>h9.out W (zE e7 hW));obtain⟨w5,g8⟩:=Nm (w4.alloc (.cells #[.slice none 0 0,.slice none 0 0,.slice none 0 0] 35));have e6:w4.grownBy w5 none:=(by rw[g8];exact Ga w4 _ none);have l4:=heap_alloc_new w4 (.cells #[.slice none 0 0,.slice none 0 0,.slice none 0 0] 35);obtain⟨o,ho⟩:=Nm w4.heap.size;rw[<-g8,<-ho]at l4;have p8:BoxS w4.heap.size (fun _=>False) o 35 w4 w5 [] #[.slice none 0 0,.slice none 0 0,.slice none 0 0] w5:=⟨⟨fun r hr=>by simp at hr,List.Pairwise.nil,fun r hr=>by simp at hr,fun k hk=>hk.elim⟩,fun r hr=>by simp at hr,l4,fun h=>h,Nat.le_refl _,by rw[ho];exact Nat.le_refl _,e6.size,e6,wG.refl _ _,Nat.le_refl _⟩;obtain⟨q0,q1',q2,q3,q4,q5⟩:=zU (h9.out w5 e6).1;obtain⟨x4,x0,HO,A6⟩:=Kd p8 g8 ho e6;clear g8 e6 l4 p8 ho j8 e7 q1 q1' q2 q3 q4 q5;go_upto_region 15 with fail;rw[<-x0.out,<-HO.out];go_upto_region 16 with (first|(at_make;refine eD rfl _ _ _ rfl xT rfl .i64 .i64 _ _ k rfl rfl rfl rfl ?b1 ?b2 ?_;(case b1=>omega);(case b2=>(unfold maxLen;omega));intro w6 a4 p6 k4)|fail);obtain⟨pg,o7⟩:=Nm w5.heap.size;have l7:=((x4.out.add p6 a4 jd).nil (e:=3) (sz:=1) jd).nil (e:=3) (sz:=1) jd;rw[<-o7]at l7⊢;have m8:Hid (CoS I w4 o k pg (List.replicate k (.slice none 0 0)) [] [] none 0 none 0 (.slice none 0 0) [] w6):=Kh ⟨_,l7.rebase,xX.nil⟩;obtain⟨q0',q1,q2,q3,q4,q5⟩:=zU (h9.out w6 m8.out.g).1;clear a4 p6 k4 l7 o7 q0 q0' q1 q2 q4 q5;go_wp2
 go_loopg [9,10,11,12,13,14,15,66] k (fun gh a9 a10 a11 a12 a13 a14 a15 a66 wr=>∃(a:Nat) (H3:List Value) (Ls js:List Nat) (sI:Option Addr) (cI:Nat) (sP:Option Addr) (cP:Nat),gh+a=k/\a66=.int .i64 a/\PowsR I Ls js a/\CoS I w4 o k pg H3 Ls js sI cI sP cP (.slice none 0 0) [] wr)
 case atStart=>exact⟨0,_,[],[],none,0,none,0,rfl,rfl,⟨rfl,rfl,fun b hb=>by omega⟩,m8.out⟩
 clear m8 q3;obtain⟨a,H3,Ls,js,sI,cI,sP,cP,e4,rfl,b5,h4⟩:=hrel;have c5:=Kh e4;have d5:=Kh b5;have d3:Ls.length=a:=b5.l1;have c3:=Kh d3;clear e4;by_cases ha:a<k
 ·have t4:(a:Int)<k:=yo
  obtain⟨x,c6,ex,exi⟩:=r4.out a ha;have ci:=(IR.out.kept h4.g yq).int a (by rw[<-HK.out];exact ha);rw[ex]at ci;have q6:=Kh exi;have j0:Hid (x<I.tab.length):=Kh (by rw[<-HN.out];exact c6);obtain⟨_,_,d9,_,_⟩:=h4.cells;have j2:=Kh d9;have hg:=Ga wr (.cells #[.int .i64 0] 3) none;have H1:(wr.alloc (.cells #[.int .i64 0] 3)).ownsRow wr.heap.size 3 1 (.slice (some ⟨wr.heap.size,0,none⟩) 1 1) 1 (nats (vQ I.tab x 1)):=jL (heap_alloc_new wr (.cells #[.int .i64 0] 3)) (Nat.le_refl _) rfl jm;obtain⟨w7,j7⟩:=Nm (wr.alloc (.cells #[.int .i64 0] 3));obtain⟨lb,k5⟩:=Nm wr.heap.size;rw[<-j7]at hg H1;have m7:=Kh (h4.addL hg H1);rw[<-k5]at m7;have t9:=Kh j7;have y1:=Kh k5;clear h4 hg H1 j7 k5 ex exi d9 d3 b5;go_upto_region 20 with fail;rw[<-t9.out,<-y1.out];clear ci;go_wp2
  go_loopg [11,12,13,14,15] an (fun gh a11 a12 a13 a14 a15 wr=>∃(L cl:Nat) (sl:Option Addr) (z:Int),a11=.slice sl L cl/\a12=.int .i64 z/\(vQ I.tab x L).Nodup/\1<=L/\((z = -1/\gh+L=an+1)\/∃j:Nat,z=j/\j<L/\powN I.tab x L=powN I.tab x j/\gh=0)/\CoS I w4 o k pg H3 Ls js sI cI sP cP (.slice none 0 0) [⟨w4.heap.size,3,.slice sl L cl,L,nats (vQ I.tab x L),1⟩] wr)
  case atStart=>exact⟨1,1,_,-1,rfl,rfl,by simp[vQ],Nat.le_refl _,.inl ⟨rfl,yo⟩,m7.out⟩
  clear m7;obtain⟨L,cl,sl,z,rfl,rfl,i3,t6,hz,h4⟩:=hrel;have m3:=Kh i3;have H2:=Kh h4;obtain⟨j9,s5⟩:=h4.tl;have t5:L<=an:=by rw[HN.out];exact lI c1.out.1 j0.out i3
  rcases hz with ⟨rfl,hgL⟩|⟨j,rfl,hjL,a3,hg0⟩
  ·have r5:=Kh hgL
   obtain⟨M,rfl⟩:∃M,L=M+1:=⟨L-1,yo⟩;obtain⟨lb2,rfl,l1,l2,larr⟩:=yV j9 yo;have y2:=Kh larr;obtain⟨y,hy⟩:=Nm (powN I.tab x M);have cy:=larr.nat M (by rw[vJ];omega);rw[jG yo,<-hy]at cy;have d8:y<an:=(by rw[hy,HN.out];exact kK c1.out.1 j0.out M);have H5:=HQ.out.kept h4.g (row:=none) yq;have cr:=H5.hd y (by rw[<-HN.out];exact d8);have cx:=H5.el y x (by rw[<-HN.out];exact d8) j0.out;have kk:=H5.cap y (by rw[<-HN.out];exact d8);rw[<-HN.out]at cr kk;unfold maxLen at kk l2;obtain⟨kk1,kk2⟩:=kk;obtain⟨nx,k1⟩:=Nm (entN I.tab y x);rw[<-k1]at cx;have j1:Hid (nx=powN I.tab x (M+1)):=Kh (by rw[k1,hy];rfl);have z6:nx<an:=(by rw[j1.out,HN.out];exact kK c1.out.1 j0.out _);obtain⟨rv,b4⟩:=Nm (RB y);obtain⟨rw',b3⟩:=Nm (RO y);obtain⟨rz,b0⟩:=Nm (RC y);rw[<-b4,<-b3]at cx;rw[<-b4,<-b3,<-b0]at cr;rw[<-b0]at kk1 kk2;obtain⟨q0,q1,q2,q3,q4,q5⟩:=zU (h9.out wr h4.g).1;have em:IntKind.i64.wrap (((M+1:Nat):Int)-1)=(M:Int):=by rw[show ((M+1:Nat):Int)-1=(M:Int) by omega];exact wK yo
   have A3:(M:Int)<((M+1:Nat):Int):=yo;have n4:(y:Int)<an:=yo;have j5:(x:Int)<an:=yo;obtain⟨wo,rfl⟩:=Nm (wr:World);clear i3 h4 j9 larr hgL H5 b4 b3 b0 k1 hy q0 q2 q3 q4 q5;go_wp2
   go_quiet (fail)
   clear em;go_wp2
   go_loopg [12,14,15,89] (M+1) (fun gh a12 a14 a15 a89 wx=>∃(i:Nat) (z:Int),gh+i=M+1/\a89=.int .i64 i/\a12=.int .i64 z/\AtR I.tab x nx i z/\∃q,wx=wo.drewN q)
   case atStart=>exact⟨0,-1,rfl,rfl,rfl,.inl ⟨rfl,fun q hq=>by omega⟩,_,rfl⟩
   clear cy cr cx q1;obtain⟨i,z,e0,rfl,rfl,f8,q,rfl⟩:=hrel;have a0:=Kh e0;have s1:=Kh f8;clear e0 f8;by_cases hi:i<M+1
   ·have k9:(i:Int)<((M+1:Nat):Int):=yo
    have cu:=y2.out.nat i (by rw[vJ];exact hi);rw[jG hi]at cu;obtain⟨u,hu⟩:=Nm (powN I.tab x i);rw[<-hu]at cu;have HU:=Kh hu;clear hu;by_cases hun:u=nx
    ·have n3:Hid (AtR I.tab x nx (i+1) (i:Int)):=Kh (.inr ⟨i,yo,rfl,by rw[<-HU.out];exact hun⟩)
     have e1:((u:Int) == (nx:Int))=true:=by rw[hun];simp
     clear hun;go_wp2;go_roundg (M+1-(i+1))
     case measure=>have:=a0.out;omega
     exact⟨i+1,i,by have:=a0.out;omega,by go_num,rfl,n3.out,q,rfl⟩
    have n3:=Kh (s1.out.no (by rw[<-HU.out];exact hun));have e1:((u:Int) == (nx:Int))=false:=by rw[beq_eq_false_iff_ne];omega
    clear hun;go_wp2;go_roundg (M+1-(i+1))
    case measure=>have:=a0.out;omega
    exact⟨i+1,z,by have:=a0.out;omega,by go_num,rfl,n3.out,q,rfl⟩
   have k8:i=M+1:=by have:=a0.out;omega
   have k9:¬(i:Int)<((M+1:Nat):Int):=yo;have f8:=s1.out;rw[k8]at f8;have e9:=H2.out.grow (zT wo q none);rcases f8 with ⟨rfl,hno⟩|⟨j,hjM,rfl,a3⟩
   ·have m2:Hid ((vQ I.tab x (M+1+1)).Nodup):=Kh (qAX m3.out (by rw[<-j1.out];exact qJJ hno))
    obtain⟨h8,h7⟩:=e9.tl;have j3:=Kh e9;clear hno e9 k8;go_wp2_with (first|(at_builtin;refine sM rfl _ _ _ rfl yJ.toN w4.heap.size (.slice (some ⟨lb2,0,none⟩) (M+1) cl) (M+1) _ rfl h8 [.int .i64 (nx:Int)] rfl rfl ?z1 ?z2 ?z3 h7 ?_;(case z1=>(intro v hv;simp only[List.mem_cons,List.not_mem_nil,or_false]at hv;subst hv;rfl));(case z2=>(unfold maxLen;omega));(case z3=>(show (M+1+1)*8<=140737488355328;omega));intro sl2 cl2 wM H1 p5 o8)|fail)
    have z0:Hid (CoS I w4 o k pg H3 Ls js sI cI sP cP (.slice none 0 0) [⟨w4.heap.size,3,.slice sl2 (M+1+1) cl2,M+1+1,nats (vQ I.tab x (M+1+1)),1⟩] wM):=Kh (by
     have:=j3.out.pushT H1 p5 o8;rw[show nats (vQ I.tab x (M+1))++[.int .i64 (nx:Int)]=nats (vQ I.tab x (M+1+1)) by rw[<-lH I.tab x (M+1),<-j1.out];simp[nats]]at this
     exact this)
    clear H1 p5 o8 h8 h7 j3;go_wp2;go_roundg (an+1-(M+1+1))
    case measure=>have:=r5.out;omega
    exact⟨M+1+1,cl2,sl2,-1,rfl,rfl,m2.out,yo,.inl ⟨rfl,yo⟩,z0.out⟩
   have e1:((j:Int) == -1)=false:=by rw[beq_eq_false_iff_ne];omega
   have j3:=Kh e9;have m1:=Kh (j1.out.symm.trans a3.symm);clear a3 e9 k8;go_wp2;go_roundg 0
   case measure=>have:=r5.out;omega
   exact⟨M+1,cl,_,j,rfl,rfl,m3.out,t6,.inr ⟨j,rfl,hjM,m1.out,rfl⟩,j3.out⟩
  have e1:((j:Int) == -1)=false:=by rw[beq_eq_false_iff_ne];omega
  obtain⟨_,l9,_,_,_⟩:=h4.cells;have c7:=l9.cell a (by rw[j2.out];exact ha);have f7:=l9.frozen a;obtain⟨u7,n9⟩:∃u,u=H3[a]'(by rw[j2.out];exact ha):=⟨_,rfl⟩;rw[<-n9]at c7;obtain⟨w8,j6⟩:=Nm (wr.setCell ⟨pg,a,none⟩ (.slice sl L cl));have k3:=h4.close c3.out ha j2.out;rw[<-j6]at k3;obtain⟨q7,r3,m1⟩:=Kc j6 k3 a3;have A5:Hid (a<H3.length):=Kh (by rw[j2.out];exact ha);clear k3 j6 n9 l9 h4 i3 a3 j9 s5 H2 hg0;go_upto_region 32 with fail;rw[<-q7.out];clear c7 f7 e1 q7;obtain⟨d,hd⟩:=Nm (L-j);have HD:=Kh hd;have ed:IntKind.i64.wrap ((L:Int)-(j:Int))=(d:Int):=by rw[show (L:Int)-(j:Int)=(d:Int) by omega];exact wK yo
  obtain⟨wq,h0⟩:=Nm w8.drew;have i5:w8.grownBy wq none:=(by rw[h0];exact zY w8 none);have d4:=Kh h0;obtain⟨X,hB,hT⟩:=r3.out;have HT:=Kh (hT.kept (hB.mem.keep i5) i5.size);have HS:=Kh (hB.grow i5).rebase;obtain⟨d0,d1,d2⟩:=xZ HS.out.box;have C:=Kh (And.intro d0 d1);clear h0 i5 hB hT d0 d1 d2 r3 hd;refine wp_region_noPanic ?_;refine yI (G:=xM 14 (fun _=>True) (fun W=>W.cell? ⟨o,0,none⟩=some (.slice sI a cI)/\W.cell? ⟨o,1,none⟩=some (.slice sP a cP))) yk ?_;rw[<-d4.out];clear d4;refine zP 0 ?_;refine xD 1 ?_;refine zP 2 ?_;refine zP 5 ?_;refine xD 6 ?_;refine zP 7 ?_;refine zP 8 ?_;refine zP 9 ?_;refine zP 10 ?_;refine twoG (i:=3) (j:=11) yk rfl rfl (fun K hK=>?_) (fun K hK=>?_);rotate_left;go_simp;have hg:=Ga wq (.cells #[.int .i64 (d:Int)] 3) none;have hb:=heap_alloc_new wq (.cells #[.int .i64 (d:Int)] 3);have b6:(Value.slice sI a cI).ownBlock≠some wq.heap.size:=fun e=>by have:=((HS.out.own (r:=⟨w4.heap.size,3,.slice sI a cI,a,nats js,1⟩) yq).lt _ e).2;omega
  obtain⟨g2,a7⟩:=Nm wq.heap.size;have HT:=Kh (HT.out.kept (HS.out.mem.keep hg) hg.size);have HS:=Kh (HS.out.grow hg).rebase;obtain⟨wq,h0⟩:=Nm (wq.alloc (.cells #[.int .i64 (d:Int)] 3));rw[<-h0]at hg hb HT HS⊢;rw[<-a7]at hb b6⊢;have c2:=Kh hb;have q9:=Kh b6
  try have H9:=Kh (zD H9.out hg)
  obtain⟨d0,d1,d2⟩:=xZ HS.out.box;have C:=Kh (And.intro d0 d1);refine hK.out _ _ ⟨trivial,fun _=>C.out⟩ ?_;clear hK K hg hb b6 h0 a7 d0 d1 d2
  try simp only[Act.put,sPa,sPb,sPc]
  refine jg 3 fun K hK=>?_
  all_goals
   go_simp;have hg:=Ga wq (.cells #[.int .i64 (j:Int)] 3) none;have hb:=heap_alloc_new wq (.cells #[.int .i64 (j:Int)] 3);obtain⟨g1,e8⟩:=Nm wq.heap.size;have HT:=Kh (HT.out.kept (HS.out.mem.keep hg) hg.size);have HS:=Kh (HS.out.grow hg).rebase;obtain⟨wq,h0⟩:=Nm (wq.alloc (.cells #[.int .i64 (j:Int)] 3));rw[<-h0]at hg hb HT HS⊢;rw[<-e8]at hb⊢;have H9:=Kh hb
   try have c2:=Kh (zD c2.out hg)
   obtain⟨d0,d1,d2⟩:=xZ HS.out.box;have C:=Kh (And.intro d0 d1);refine hK.out _ _ ⟨trivial,fun _=>C.out⟩ ?_;clear hK K hg hb h0 e8 d0 d1 d2
   try simp only[Act.put,sPa,sPb,sPc]
  refine jg 4 fun K hK=>?_;rotate_left;refine twoG (i:=4) (j:=11) yk rfl rfl (fun K hK=>?_) (fun K hK=>?_);rotate_left;go_simp;have hg:=Ga wq (.cells #[.int .i64 (d:Int)] 3) none;have hb:=heap_alloc_new wq (.cells #[.int .i64 (d:Int)] 3);have b6:(Value.slice sI a cI).ownBlock≠some wq.heap.size:=fun e=>by have:=((HS.out.own (r:=⟨w4.heap.size,3,.slice sI a cI,a,nats js,1⟩) yq).lt _ e).2;omega
  obtain⟨g2,a7⟩:=Nm wq.heap.size;have HT:=Kh (HT.out.kept (HS.out.mem.keep hg) hg.size);have HS:=Kh (HS.out.grow hg).rebase;obtain⟨wq,h0⟩:=Nm (wq.alloc (.cells #[.int .i64 (d:Int)] 3));rw[<-h0]at hg hb HT HS⊢;rw[<-a7]at hb b6⊢;have c2:=Kh hb;have q9:=Kh b6
  try have H9:=Kh (zD H9.out hg)
  obtain⟨d0,d1,d2⟩:=xZ HS.out.box;have C:=Kh (And.intro d0 d1);refine hK.out _ _ ⟨trivial,fun _=>C.out⟩ ?_;clear hK K hg hb b6 h0 a7 d0 d1 d2
  try simp only[Act.put,sPa,sPb,sPc]
  refine jg 4 fun K hK=>?_
  all_goals
   have h8:=HS.out.own (r:=⟨w4.heap.size,3,.slice sI a cI,a,nats js,1⟩) yq;have h7:w4.heap.size<=wq.heap.size:=HS.out.grown.size;refine tP rfl (.tmp 110) (.tmp 112) 22 rfl yJ.toN w4.heap.size (.slice sI a cI) a (nats js) rfl h8 [.int .i64 (j:Int)] g1 rfl (0,0) rfl H9.out (fun v hv=>by simp only[List.mem_cons,List.not_mem_nil,or_false]at hv;subst hv;rfl) jm (by show (a+1)*8<=140737488355328;omega) h7 ?_;intro sI2 cI2 wz ho hg hm;have hP:=HS.out.appAt (j:=1) rfl ho hg hm;have HT:=Kh (HT.out.kept hP.kept hP.wk)
   try have c2:=Kh (zD c2.out hg q9.out)
   have HS:=Kh hP.rebase;obtain⟨wq,h0⟩:=Nm wz;subst h0;obtain⟨d0,d1,d2⟩:=xZ HS.out.box;have C:=Kh (And.intro d0 d1);refine hK.out _ _ ⟨trivial,fun _=>C.out⟩ ?_;clear hK K hg ho hm hP h8 h7 d0 d1 d2
   try simp only[Act.put,sPa,sPb,sPc]
   refine zP 13 ?_
  rotate_left;rotate_left;refine jg 11 fun K hK=>?_;go_simp;have hg:=Ga wq (.cells #[.int .i64 (d:Int)] 3) none;have hb:=heap_alloc_new wq (.cells #[.int .i64 (d:Int)] 3);obtain⟨g2,a7⟩:=Nm wq.heap.size;have HT:=Kh (HT.out.kept (HS.out.mem.keep hg) hg.size);have HS:=Kh (HS.out.grow hg).rebase;obtain⟨wq,h0⟩:=Nm (wq.alloc (.cells #[.int .i64 (d:Int)] 3));rw[<-h0]at hg hb HT HS⊢;rw[<-a7]at hb⊢;have c2:=Kh hb
  try have H9:=Kh (zD H9.out hg)
  obtain⟨d0,d1,d2⟩:=xZ HS.out.box;have C:=Kh (And.intro d0 d1);refine hK.out _ _ ⟨trivial,fun _=>C.out⟩ ?_;clear hK K hg hb h0 a7 d0 d1 d2
  try simp only[Act.put,sPa,sPb,sPc]
  all_goals
   refine jg 12 fun K hK=>?_;have h8:=HS.out.own (r:=⟨w4.heap.size,3,.slice sP a cP,a,nats (perL Ls js),1⟩) yq;have h7:w4.heap.size<=wq.heap.size:=HS.out.grown.size;refine tP rfl (.tmp 115) (.tmp 120) 22 rfl yJ.toN w4.heap.size (.slice sP a cP) a (nats (perL Ls js)) rfl h8 [.int .i64 (d:Int)] g2 rfl (0,0) rfl c2.out (fun v hv=>by simp only[List.mem_cons,List.not_mem_nil,or_false]at hv;subst hv;rfl) jm (by show (a+1)*8<=140737488355328;omega) h7 ?_;intro sP2 cP2 wz ho hg hm;have hP:=HS.out.appAt (j:=2) rfl ho hg hm;have HT:=Kh (HT.out.kept hP.kept hP.wk);have HS:=Kh hP.rebase;obtain⟨wq,h0⟩:=Nm wz;subst h0;obtain⟨d0,d1,d2⟩:=xZ HS.out.box;have C:=Kh (And.intro d0 d1);refine hK.out _ _ ⟨trivial,fun _=>C.out⟩ ?_;clear hK K hg ho hm hP h8 h7 d0 d1 d2
   try simp only[Act.put,sPa,sPb,sPc]
   refine jg 14 fun K hK=>?_;obtain⟨d0,d1,d2⟩:=xZ HS.out.box;have f0:=zB HS.out.box 0;go_simp;have hS:=HS.out.set 0 (.slice sI2 (a+1) cI2);simp only[sPa,sPb,sPc]at hS;have HT:=Kh (HT.out.kept hS.kept hS.wk);have HS:=Kh hS.rebase;refine hK.out _ _ ⟨trivial,fun h=>by simp at h⟩ ?_;clear hK K hS d0 d1 d2 f0 C
   try simp only[Act.put,sPa,sPb,sPc]
   refine uB 15 ⟨trivial,fun h=>by simp at h⟩ ?_;refine jg 16 fun K hK=>?_;obtain⟨d0,d1,d2⟩:=xZ HS.out.box;have f1:=zB HS.out.box 1;go_simp;have hS:=HS.out.set 1 (.slice sP2 (a+1) cP2);simp only[sPa,sPb,sPc]at hS;have HT:=Kh (HT.out.kept hS.kept hS.wk);have HS:=Kh hS.rebase;refine hK.out _ _ ⟨trivial,fun h=>by simp at h⟩ ?_;clear hK K hS d0 d1 d2 f1
   try simp only[Act.put,sPa,sPb,sPc]
   refine uY yk ?_ _;refine NoPanic.normal ?_;obtain⟨wZ,n7⟩:=Nm ((wq.setCell ⟨o,0,none⟩ (.slice sI2 (a+1) cI2)).setCell ⟨o,1,none⟩ (.slice sP2 (a+1) cP2));rw[<-n7]at HS HT⊢;clear n7
   have y6:Hid (CoS I w4 o k pg (H3.set a (.slice sl L cl)) (Ls++[L]) (js++[j]) sI2 cI2 sP2 cP2 (.slice none 0 0) [] wZ):=Kh (by
    have p9:=HS.out;have e1:nats js++[.int .i64 (j:Int)]=nats (js++[j]):=by simp[nats]
    have e2:nats (perL Ls js)++[.int .i64 (d:Int)]=nats (perL (Ls++[L]) (js++[j])):=by
     rw[qBB L j (by rw[d5.out.l1,d5.out.l2]),<-HD.out];simp[nats]
    have e3:a+1=(Ls++[L]).length:=by rw[List.length_append,List.length_singleton,c3.out]
    rw[e1,e2,e3]at p9;have p7:=HT.out;rw[e3]at p7;refine⟨X,p9,?_⟩;rw[dT,c3.out,q6.out]
    exact p7)
   have x5:Hid (PowsR I (Ls++[L]) (js++[j]) (a+1)):=Kh (d5.out.add (by rw[q6.out];exact⟨m3.out,hjL,m1.out⟩));clear HS HT ed;go_wp2;go_roundg (k-(a+1))
   case measure=>have:=c5.out;omega
   exact⟨a+1,_,_,_,_,_,_,_,by have:=c5.out;omega,by go_num,x5.out,y6.out⟩
 have t3:k=a:=by have:=c5.out;omega
 have t4:¬(a:Int)<k:=yo;subst t3;have x6:=Kh b5.posC;have b7:js.length=k:=b5.l2;obtain⟨i7,_,d9,h8,i0⟩:=h4.cells;rw[d3]at i7 h8 i0;have H6:=qAP wr.heap.size wr (.slice sI k cI) (.slice sP k cP) (.slice none 0 0) (vD js) (vD (perL Ls js)) (by rw[rG];exact Row.of_owns h8) (by rw[rG];exact Row.of_owns i0) (by rw[vK,vK,sX,d3,b7]) x6.out (by rw[vK,b7];exact o9);have H2:=Kh h4;have A4:=Kh b7;have g0:=Kh h4.g;obtain⟨o0,o1,o2⟩:=xZ i7;rcases H4:uD (vD js) (vD (perL Ls js)) k with _|c
 ·obtain⟨e1,e2⟩:=iD H4 (by rw[vK,b7];exact Nat.le_refl _)
  rw[e1,e2]at H6;have x8:Hid (qIB I):=Kh ⟨Ls,js,by rw[<-HK.out];exact d5.out,by rw[<-HK.out];exact H4⟩;have H6:=Kh H6;clear e1 e2 H4 i7 d9 h8 i0 h4 d3 b7 b5;go_wp2_with fail;refine H6.out.mono ?_;rintro e w9 ⟨rfl,e5⟩;have d6:=Kh (h9.out w9 (zE g0.out e5));obtain⟨p0,p1,p2⟩:=xZ d6.out.2.1;have f0:=zB d6.out.2.1 0;have f1:=zB d6.out.2.1 1;have f2:=zB d6.out.2.1 2;clear e5 o0 o1 o2;go_wp2;refine bodyPost_ret (v:=.tuple #[.agg #[.slice none 0 0,.slice none 0 0,.slice none 0 0],.int .i64 3]) (by simp[results,Tryz.results12,go_sem,p0,p1,p2]) rfl ?_;exact⟨.inl ⟨3,rfl,.inr (.inr ⟨rfl,c0.out,g7.out,x8.out⟩)⟩,zE d6.out.2.2 (pU d6.out.2.1 _ _ _).2 (fun j e=>by have e:P+1=j:=Oj e;have:=f9.out;omega)⟩
 obtain⟨e1,e2⟩:=mQ (idx:=vD js) (per:=vD (perL Ls js)) (c:=c) (by rw[vK,b7];exact H4);rw[e1,e2]at H6;have A0:=qO H4;have j4:=Kh H4;have H6:=Kh H6;clear e1 e2 H4 i7 d9 h8 i0 h4 d3 b7 b5;go_wp2_with fail;refine H6.out.mono ?_;rintro e w9 ⟨rfl,e5⟩;have r9:=Kh (H2.out.grow e5).acc0;clear e5 o0 o1 o2 H6 H2 g0;go_wp2
 go_loopg [18,19,20,21] c (fun gh a18 a19 a20 a21 wr=>∃(i cA:Nat) (sA:Option Addr),gh+i=c/\a18=.int .i64 i/\CoS I w4 o k pg H3 Ls js sI cI sP cP (.slice sA i cA) [⟨w4.heap.size,4,.slice sA i cA,i,bls (qDQ I Ls k i),1⟩] wr)
 case atStart=>exact⟨0,0,none,rfl,rfl,r9.out⟩
 clear r9;obtain⟨i,cA,sA,e0,rfl,h4⟩:=hrel;have a0:=Kh e0;have H2:=Kh h4;obtain⟨q0,q1,q2,q3,q4,q5⟩:=zU (h9.out wr h4.g).1;clear e0 h4 q1 q2 q3 q4 q5;by_cases hi:i<c
 ·have k9:(i:Int)<c:=yo
  go_wp2
  go_loopg [19,20,21] k (fun gh a19 a20 a21 wx=>∃(b r v q:Nat) (z:Int),gh=b/\a20=.int .i64 (r:Int)/\a19=.int .i64 (v:Int)/\a21=.int .i64 z/\z=(b:Int)-1/\b<=k/\r<=2000/\v<an/\valC I.tab (imI I) Ls b r v=valC I.tab (imI I) Ls k i 0/\wx=wr.drewN q)
  case atStart=>exact⟨k,i,0,0,(k:Int)-1,rfl,rfl,rfl,by go_num,rfl,Nat.le_refl _,yo,yo,rfl,rfl⟩
  clear q0;obtain⟨b,r,v,q,z,p4,rfl,rfl,rfl,hz,z9,hr,hv,H0,rfl⟩:=hrel;have m0:=Kh H0;have y5:=Kh p4;clear H0 p4;rcases b with _|b
  ·obtain rfl:z = -1:=yo
   have f3:=H2.out.grow (zT wr q none);have r6:=Kh f3;clear f3 hz;obtain⟨q0,q1,q2,q3,q4,q5⟩:=zU (h9.out _ r6.out.g).1;obtain⟨mb,k2⟩:=Nm (I.accept.getD v false);have y0:Hid (mb=I.accept.getD (valC I.tab (imI I) Ls k i 0) false):=Kh (by rw[k2,<-m0.out];rfl);have m6:Hid (∀W:World,w4.grownBy W none->W.cell? ⟨ab,ao+v,none⟩=some (.bool mb)):=Kh (fun W hW=>by rw[k2];exact(AR.out.kept hW yq).boolQ v (by rw[<-n0.out];exact hv));have r8:Hid (∀W:World,CoS I w4 o k pg H3 Ls js sI cI sP cP (.slice sA i cA) [⟨w4.heap.size,4,.slice sA i cA,i,bls (qDQ I Ls k i),1⟩] W->W.cell? ⟨o,2,none⟩=some (.slice sA i cA)/\W.cell? ⟨P,4,none⟩=some (.slice (some ⟨ab,ao,none⟩) an aC)/\W.cell? ⟨ab,ao+v,none⟩=some (.bool mb)):=Kh (fun W hW=>⟨(xZ hW.cells.1).2.2,(zU (h9.out W hW.g).1).2.2.2.2.1,m6.out W hW.g⟩);have s4:(v:Int)<an:=yo;clear k2 q0 q1 q2 q3 q4 q5 m0;go_upto_region 45 with fail;obtain⟨wq,h0⟩:=Nm ((wr.drewN q).drew);have HS:=Kh (r6.out.grow (show (wr.drewN q).grownBy wq none by rw[h0];exact zY _ none));have d4:=Kh h0;have C:=Kh (r8.out _ HS.out);clear h0;refine wp_region_noPanic ?_;refine yI (G:=xM 10 (fun _=>True) (fun W=>W.cell? ⟨o,2,none⟩=some (.slice sA i cA)/\W.cell? ⟨P,4,none⟩=some (.slice (some ⟨ab,ao,none⟩) an aC)/\W.cell? ⟨ab,ao+v,none⟩=some (.bool mb))) yk ?_
   first|rw[<-d4.out]|(have n8:=d4.out;rw[World.drew_drewN]at n8;rw[<-n8])
   clear d4;refine zP 0 ?_;refine xD 1 ?_;refine zP 2 ?_;refine xD 3 ?_;refine zP 4 ?_;refine zP 5 ?_;refine xD 6 ?_;refine jg 7 fun K hK=>?_;go_simp;have hg:=Ga wq (.cells #[.bool mb] 4) none;have hb:=heap_alloc_new wq (.cells #[.bool mb] 4);obtain⟨g1,e8⟩:=Nm wq.heap.size;have HS:=Kh (HS.out.grow hg);obtain⟨wz,n5⟩:=Nm (wq.alloc (.cells #[.bool mb] 4));rw[<-n5]at hb HS⊢;rw[<-e8]at hb⊢;have H9:=Kh hb;have C:=Kh (r8.out _ HS.out);refine hK.out _ _ ⟨trivial,fun _=>C.out⟩ ?_;clear hK K hg hb n5 e8
   try simp only[Act.put,sPa,sPb,sPc]
   refine jg 8 fun K hK=>?_;obtain⟨h8,h7⟩:=HS.out.tl;refine tP rfl (.tmp 174) (.tmp 180) 26 rfl xK.toN w4.heap.size (.slice sA i cA) i _ rfl h8 [.bool mb] g1 rfl (0,0) rfl H9.out (fun v hv=>by simp only[List.mem_cons,List.not_mem_nil,or_false]at hv;subst hv;rfl) jm (by show (i+1)*1<=140737488355328;omega) h7 ?_;intro sA2 cA2 wy ho hg hm;have H7:=Kh (HS.out.pushT ho hg hm);refine hK.out _ _ ⟨trivial,fun _=>⟨(xZ H7.out.cells.1).2.2,(zU (h9.out wy H7.out.g).1).2.2.2.2.1,m6.out wy H7.out.g⟩⟩ ?_;clear hK K hg ho hm h8 h7 C
   try simp only[Act.put,sPa,sPb,sPc]
   refine uB 9 ⟨trivial,fun _=>⟨(xZ H7.out.cells.1).2.2,(zU (h9.out wy H7.out.g).1).2.2.2.2.1,m6.out wy H7.out.g⟩⟩ ?_;refine jg 10 fun K hK=>?_;obtain⟨d0,d1,d2⟩:=xZ H7.out.cells.1;have f2:=zB H7.out.cells.1 2;go_simp
   have H8:Hid (CoS I w4 o k pg H3 Ls js sI cI sP cP (.slice sA2 (i+1) cA2) [⟨w4.heap.size,4,.slice sA2 (i+1) cA2,i+1,bls (qDQ I Ls k (i+1)),1⟩] (wy.setCell ⟨o,2,none⟩ (.slice sA2 (i+1) cA2))):=Kh (by
    have:=H7.out.setA (.slice sA2 (i+1) cA2);rw[y0.out,qHB]at this
    exact this)
   refine hK.out _ _ ⟨trivial,fun h=>by simp at h⟩ ?_;clear hK K d0 d1 d2 f2
   try simp only[Act.put,sPa,sPb,sPc]
   refine uY yk ?_ _;refine NoPanic.normal ?_;go_wp2;go_roundg (c-(i+1))
   case measure=>have:=a0.out;omega
   exact⟨i+1,cA2,sA2,by have:=a0.out;omega,by go_num,H8.out⟩
  obtain rfl:z=(b:Int):=yo
  have b9:=H2.out.g;obtain⟨q0,q1,q2,q3,q4,q5⟩:=zU (h9.out _ b9).1;have i8:b<k:=yo;obtain⟨c9,a3,_⟩:=d5.out.pow b (by exact i8);obtain⟨rb,ro,rc,cr,rc1,rc2,cel⟩:=H2.out.row (b:=b) (by rw[c3.out];exact i8) yo (by rw[c3.out];exact Nat.le_refl _);obtain⟨L,hL⟩:=Nm (Ls.getD b 0);rw[<-hL]at cr rc1 cel a3 c9;have t7:0<L:=yo;have k6:=t8.out b i8;have t5:L<=an:=by rw[HN.out];exact lI c1.out.1 k6 c9
  obtain⟨t,ht⟩:=Nm (r % L);obtain⟨s,hs⟩:=Nm (r / L);have o3:t<L:=(by rw[ht];exact Nat.mod_lt _ t7);have s6:s<=r:=by rw[hs];exact Nat.div_le_self _ _
  have ce:=cel t o3;obtain⟨x,hx⟩:=Nm (powN I.tab ((imI I).getD b 0) t);rw[<-hx]at ce;have c6:x<an:=(by rw[hx,HN.out];exact kK c1.out.1 k6 t);have H5:=HQ.out.kept b9 (row:=none) yq;have cv:=H5.hd v (by rw[<-HN.out];exact hv);have cx:=H5.el v x (by rw[<-HN.out];exact hv) (by rw[<-HN.out];exact c6);have cc:=H5.cap v (by rw[<-HN.out];exact hv);rw[<-HN.out]at cv cc;obtain⟨y,hy⟩:=Nm (entN I.tab v x);rw[<-hy]at cx;have d8:y<an:=(by rw[hy,HN.out];exact qK c1.out.1 (by rw[<-HN.out];exact hv) (by rw[<-HN.out];exact c6));have x3:Hid (valC I.tab (imI I) Ls b s y=valC I.tab (imI I) Ls k i 0):=Kh (by rw[<-m0.out,valC,<-hL,<-ht,<-hx,<-hy,<-hs]);have f4:(r:Int).tmod (L:Int)=(t:Int):=by rw[ht];exact Int.ofNat_tmod r L
  have g4:(r:Int).tdiv (L:Int)=(s:Int):=by rw[hs];exact Int.ofNat_tdiv r L
  have f6:IntKind.i64.wrap (t:Int)=(t:Int):=wK yo;have g6:IntKind.i64.wrap (s:Int)=(s:Int):=wK yo;have z5:¬(L:Int)=0:=yo
  have A2:(b:Int)<k:=yo;have s4:(v:Int)<an:=yo;have j5:(x:Int)<an:=yo;have z4:(t:Int)<L:=yo;have cc1:=cc.1;have cc2:RC v<=9223372036854775807:=by have:=cc.2;unfold maxLen at this;omega
  have rc2':rc<=9223372036854775807:=(by unfold maxLen at rc2;omega)
  obtain⟨rv,b4⟩:=Nm (RB v);obtain⟨rw',b3⟩:=Nm (RO v);obtain⟨rz,b0⟩:=Nm (RC v);rw[<-b4,<-b3]at cx;rw[<-b4,<-b3,<-b0]at cv;rw[<-b0]at cc1 cc2;have A1:(0:Int)<=b:=yo
  clear b4 b3 b0 cc rc2 b9 c9 a3 cel hL k6 ht hs hx H5 hy hz q0 q2 q3 q4 q5 o3;go_wp2
  go_quiet (fail)
  clear f4 f6 g4 g6;go_wp2;go_roundg b
  case measure=>have:=y5.out;omega
  exact⟨b,s,y,_,(b:Int)-1,rfl,by go_num,by go_num,by go_num,rfl,Nat.le_of_lt i8,Nat.le_trans s6 hr,d8,x3.out,by first|rfl|exact World.drewN_drewN _ _ _⟩
 have t0:c=i:=by have:=a0.out;omega
 have k9:¬(i:Int)<c:=yo;subst t0;obtain⟨o0,o1,o2⟩:=xZ H2.out.cells.1;rw[c3.out]at o0 o1;have l3:=h9.out _ H2.out.g;have d7:=Kh l3.2.1;have y4:=Kh l3.2.2;obtain⟨r0,r1,r2⟩:=xZ d7.out;have f0:=zB d7.out 0;have f1:=zB d7.out 1;have f2:=zB d7.out 2;have l0:=H2.out.rows;rw[c3.out]at l0;have r7:=Kh l0;have y8:=Kh (RowT.of_owns H2.out.tl.1);clear l3 l0 q0;go_wp2;refine bodyPost_ret (v:=.tuple #[.agg #[.slice sI k cI,.slice sP k cP,.slice sA c cA],.int .i64 0]) (by simp[results,Tryz.results12,go_sem,r0,r1,r2]) rfl ?_;obtain⟨s7,b8⟩:=pU d7.out (.slice sI k cI) (.slice sP k cP) (.slice sA c cA)
 have k0:∀e',e'≠35->∀j,(some (P+1):Option Nat)=some j->wr.heap.size<=j\/yS wr e' j:=fun e' he j hj=>by
  have hj:=Oj hj;subst hj;exact .inr ⟨_,_,_,d7.out,fun e1=>he e1.symm⟩
 have hz:=b8.size;have e1:ints (vD js)=nats js:=rG js;have e2:ints (vD (perL Ls js))=nats (perL Ls js):=rG _;have o6:=((r7.out.1.kept b8 (k0 _ jd)).mono hz).row;have o5:=((r7.out.2.kept b8 (k0 _ jd)).mono hz).row;have o4:=((y8.out.kept b8 (k0 _ jd)).mono hz).row;rw[<-e1]at o6;rw[<-e2]at o5;rw[qKQ]at o4;exact⟨.inr ⟨⟨vD js,vD (perL Ls js),lT I Ls k c c⟩,_,rfl,c0.out,g7.out,gT.make HK.out d5.out j4.out,_,_,_,rfl,o6,o5,o4⟩,zE y4.out b8 (fun j e=>by have e:P+1=j:=Oj e;have:=f9.out;omega)⟩
end Go.Proofs.YtiknckajkdlppaaGreat
namespace Go.Proofs.YtiknckajkdlppaaGreat
open Go.RowKit
variable{m:Nat}{b:Bool}{row:List Int}
section
variable {base o:Nat} {W W':World} {L S:Int} {fs:List Bool} {t:List (List Int)} {hs:List Value} {sf sn:Option Addr} {cf cn:Nat}
theorem Built.pushR {rv:Value}{a9 a7:Option Addr}{a8 a6:Nat}{ls:List (Nat×Obj)}{ps:List (Nat×TypeId×List Value)}(h:Built base W o L S fs t hs sf cf sn cn)(hm:t.length=m)(hM:Many W (FB sf sn) W' [⟨base,22,.slice a7 (m+1) a6,m+1,hs++[rv],1⟩,⟨base,4,.slice a9 (m+1) a8,m+1,bls fs++[.bool b],1⟩] ls ps)(a5:RowT W.heap.size 3 W rv (ints row)){W2:World}(a4:W2=(W'.setCell ⟨o,2,none⟩ (.slice a9 (m+1) a8)).setCell ⟨o,3,none⟩ (.slice a7 (m+1) a6)):Built base W2 o L S (fs++[b]) (t++[row]) (hs++[rv]) a9 a8 a7 a6/\∀w0:World,w0.grownBy W (some o)->w0.heap.size<=base->w0.grownBy W2 (some o):=by
 have h2:fs.length=m:=h.len.trans hm;have hN:=hM.own 0 _ rfl;have hF:=hM.own 1 _ rfl;simp only[]at hN hF;have h0:=hM.but.heap h.box h.notbox;have h1:=(h.rows.snoc a5).keptF hM.but (fun k hk=>.inr (h.other k hk));have s1:=heap_setCell_same W' o 2 _ _ (.slice a9 (m+1) a8) h0;have s2:=heap_setCell_same _ o 3 _ _ (.slice a7 (m+1) a6) s1;have g1:W'.grownBy W2 (some o):=by rw[a4];exact zI (zH W' ⟨o,2,none⟩ _) (zH (W'.setCell ⟨o,2,none⟩ (.slice a9 (m+1) a8)) ⟨o,3,none⟩ _)
 have h3:yS W' 3 o:=⟨_,_,_,h0,jd⟩;refine⟨⟨?_,?_,?_,?_,by simp[h.len]⟩,fun w0 hw0 hb=>?_⟩
 ·rw[a4,s2]
  simp[h2,hm]
 ·have:=hF.kept g1 (.inr (zR hF h0 jd))
  rw[List.length_append,h2];simpa [bls] using this
 ·have:=hN.kept g1 (.inr (zR hN h0 jd))
  rw[List.length_append,hm];exact this
 ·exact(h1.kept g1 (fun k hk=>.inr (by have:=Oj hk;subst this;exact h3))).mono (Nat.le_trans hM.but.size g1.size)
 exact zI (hM.but.grown hw0 (fun k hk=>.inr (Nat.le_trans hb (h.ge k hk)))) g1
end
theorem qJG {Q:Exit->Act->World->Prop}{v0 v2 v3 v4 v5 v8 v9 k8 k9 j0 j1 j2 j3 j4 j5 j6 j7 j8 j9 i0 i1 i2 i3 i4 i5 i6 i7 i8 i9 g0 g1 g2 g5 g6 g7 g8 g9 f0 f1 f2 f3 f4 f5 f6 f8 f9 e0 e1 e4 e5 e6 e7 e8 e9 d0 d1 d2 d3 d4 d5 d6 d7 d8 d9 c0 c3 c4 c5 c6 c7 c8 c9 b0 b1 b2 b3 b4 b5 b6 b7 l2 l3 l4 l5 l6 l7 l8 l9 k0 k1 k2 k3 k4 k5 k6 k7 b9 a0 a1 a2 a3 a4 a5 a6 a7:Value}{dd:_}{w:World}{base P D q n fb fo fc cr cf cn:Nat}{k:Nat}{sr sf sn:Option Addr}{L S:Int}{fs:List Bool}{t:List (List Int)}{hs:List Value}(h:Built base w D L S fs t hs sf cf sn cn)(hm:t.length=m)(l1:m<=4000)(b8:RowT w.heap.size 3 w (.slice sr k cr) (ints row))(hq:q<n)(hn:n<=fc/\fc<=9223372036854775807)(a8:base<=w.heap.size)(hP:P<base)(l0:fb<base)(c1:w.cell? ⟨P,2,none⟩=some (.slice (some ⟨fb,fo,none⟩) n fc))(c2:w.cell? ⟨fb,fo+q,none⟩=some (.bool b))(a9:∀(z84 z85 z86 z87 z88 z89 z90 z91 z92 z93 z94 z95 z96 z97 z98 z99:Value) (w':World) (sf':Option Addr) (cf':Nat) (sn':Option Addr) (cn':Nat),Built base w' D L S (fs++[b]) (t++[row]) (hs++[.slice sr k cr]) sf' cf' sn' cn'->(∀w0:World,w0.grownBy w (some D)->w0.heap.size<=base->w0.grownBy w' (some D))->Q .normal ⟨(v0::(Value.pointer (some ⟨P,0,none⟩))::v2::v3::v4::v5::(Value.pointer (some ⟨D,0,none⟩))::(Value.int .i64 (q:Int))::v8::v9::k8::k9::(Value.slice sr k cr)::j0::j1::j2::j3::j4::j5::j6::j7::j8::j9::i0::i1::i2::i3::i4::i5::i6::i7::i8::i9::g0::g1::g2::g5::g6::g7::g8::g9::f0::f1::f2::f3::f4::f5::f6::f8::f9::e0::e1::e4::e5::e6::e7::e8::e9::d0::d1::d2::d3::d4::d5::d6::d7::d8::d9::c0::c3::c4::c5::c6::c7::c8::c9::b0::b1::b2::b3::b4::b5::b6::b7::z84::z85::z86::z87::z88::z89::z90::z91::z92::z93::z94::z95::z96::z97::z98::z99::b9::a0::a1::a2::a3::a4::a5::a6::a7::[]).toArray,dd⟩ w'):Code.wp Tryz.prog (reg Tryz.f7 22) Q ⟨(v0::(Value.pointer (some ⟨P,0,none⟩))::v2::v3::v4::v5::(Value.pointer (some ⟨D,0,none⟩))::(Value.int .i64 (q:Int))::v8::v9::k8::k9::(Value.slice sr k cr)::j0::j1::j2::j3::j4::j5::j6::j7::j8::j9::i0::i1::i2::i3::i4::i5::i6::i7::i8::i9::g0::g1::g2::g5::g6::g7::g8::g9::f0::f1::f2::f3::f4::f5::f6::f8::f9::e0::e1::e4::e5::e6::e7::e8::e9::d0::d1::d2::d3::d4::d5::d6::d7::d8::d9::c0::c3::c4::c5::c6::c7::c8::c9::b0::b1::b2::b3::b4::b5::b6::b7::l2::l3::l4::l5::l6::l7::l8::l9::k0::k1::k2::k3::k4::k5::k6::k7::b9::a0::a1::a2::a3::a4::a5::a6::a7::[]).toArray,dd⟩ w:=by
 obtain⟨w7,H7⟩:=Nm w.drew;have h8:w.grownBy w7 none:=by rw[H7];exact zY w none
 have m2:=Kh H7;have H9:=Kh h8;have h9:=Kh (h.grow h8);have HM:=Kh hm;have HE:=Kh a9;have H1:=Kh ((b8.kept h8 yq).mono h8.size);have H8:fs.length=m:=h.len.trans hm
 have hM:Many w7 (FB sf sn) w7 [⟨base,22,.slice sn m cn,m,hs,1⟩,⟨base,4,.slice sf m cf,m,bls fs,1⟩] [] []:=by
  have h1:=h9.out.many;simp only[rN,rF,H8,hm]at h1;exact h1
 have H0:=h9.out.box;rw[H8,hm]at H0;have H6:=Kh H0;have H5:=Kh h9.out.notbox;have H2:base<=w7.heap.size:=Nat.le_trans a8 h8.size;have m1:=zN c1 h8;have m0:=zN c2 h8
 have h4:Hid (∀W rs ls,Many w7 (FB sf sn) W rs ls []->W.cell? ⟨P,2,none⟩=some (.slice (some ⟨fb,fo,none⟩) n fc)/\W.cell? ⟨fb,fo+q,none⟩=some (.bool b)/\W.cell? ⟨D,2,none⟩=some (.slice sf m cf)/\W.cell? ⟨D,3,none⟩=some (.slice sn m cn)):=Kh (fun W rs ls h=>by
  obtain⟨_,_,e2,e3⟩:=zM (h.but.heap H6.out H5.out)
  exact⟨h.but.cell m1 (fun hf=>by have:=h9.out.ge _ hf;simp only at this;omega),h.but.cell m0 (fun hf=>by have:=h9.out.ge _ hf;simp only at this;omega),e2,e3⟩)
 have m3:(q:Int)<n:=yo
 have C:=Kh (h4.out _ _ _ hM);clear H7 h8 h hm a9 b8 H8 H0 c1 c2 m1 m0 a8
 conv=>arg 2;whnf
 refine wp_region_noPanic ?_;refine yI (G:=xM 15 (fun _=>True) (fun W=>W.cell? ⟨P,2,none⟩=some (.slice (some ⟨fb,fo,none⟩) n fc)/\W.cell? ⟨fb,fo+q,none⟩=some (.bool b)/\W.cell? ⟨D,2,none⟩=some (.slice sf m cf)/\W.cell? ⟨D,3,none⟩=some (.slice sn m cn))) yk ?_;rw[<-m2.out];refine zP 0 ?_;refine xD 1 ?_;refine zP 2 ?_;refine xD 3 ?_;refine zP 4 ?_;refine xD 5 ?_;refine xD 6 ?_;refine zP 9 ?_;refine xD 10 ?_;refine zP 11 ?_;refine twoG (i:=7) (j:=12) yk rfl rfl (fun K hK=>?_) (fun K hK=>?_)
 ·go_simp
  refine hK.out _ _ ⟨trivial,fun _=>h4.out _ _ _ (hM.alloc _)⟩ ?_;clear hK K
  try simp only[Act.put,sPd,sPe,sPf,sPa,sPb,sPc]
  refine twoG (i:=8) (j:=12) yk rfl rfl (fun K hK=>?_) (fun K hK=>?_)
  ·refine wR rfl (.tmp 85) (.tmp 91) 26 rfl xK 1 _ _ rfl ⟨_,_,_,_,_,(hM.alloc _),_,rfl,rfl,rfl,rfl,?g3,?g4,H2,_,_,_,List.Mem.head _,(by first|rfl|simp),rfl,?_⟩
   case g3=>(simp only[];unfold maxLen;omega)
   case g4=>(simp only[];omega)
   intro sa1 sc1 w1x h0;have h6:=h0.litcell (List.Mem.head _)
   try simp only[zW]at h6
   try(have h5:=h0.litcell (List.Mem.tail _ (List.Mem.head _));try simp only[zW]at h5)
   refine hK.out _ _ ⟨trivial,fun _=>h4.out _ _ _ (h0)⟩ ?_;clear hK K
   try simp only[Act.put,sPd,sPe,sPf,sPa,sPb,sPc]
   refine uB 14 ⟨trivial,fun _=>h4.out _ _ _ h0⟩ ?_;refine jg 12 fun K hK=>?_;go_simp;refine hK.out _ _ ⟨trivial,fun _=>h4.out _ _ _ (h0.alloc _)⟩ ?_;clear hK K
   try simp only[Act.put,sPd,sPe,sPf,sPa,sPb,sPc]
   refine jg 13 fun K hK=>?_;refine wR rfl (.tmp 94) (.tmp 96) 27 rfl xT 0 _ _ rfl ⟨_,_,_,_,_,(h0.alloc _),_,rfl,rfl,rfl,rfl,?g3,?g4,H2,_,_,_,List.Mem.head _,(by first|rfl|simp),rfl,?_⟩
   case g3=>(simp only[];unfold maxLen;omega)
   case g4=>(simp only[];omega)
   intro sa2 sc2 w2x h3;have h6:=h3.litcell (List.Mem.head _)
   try simp only[zW]at h6
   try(have h5:=h3.litcell (List.Mem.tail _ (List.Mem.head _));try simp only[zW]at h5)
   refine hK.out _ _ ⟨trivial,fun _=>h4.out _ _ _ (h3)⟩ ?_;clear hK K
   try simp only[Act.put,sPd,sPe,sPf,sPa,sPb,sPc]
   refine jg 15 fun K hK=>?_;have h7:=h3.but.heap H6.out H5.out;have cb2:=zJ h7 2;have fb2:=zB h7 2;simp only[sPd,sPe,sPf]at cb2;go_simp;have h2:=heap_setCell_same _ D 2 _ _ (.slice sa1 (m+1) sc1) h7;have cb3:=zJ h2 3;have fb3:=zB h2 3;simp at cb3;refine hK.out _ _ ⟨trivial,fun h=>by simp at h⟩ ?_;clear hK K
   try simp only[Act.put,sPd,sPe,sPf,sPa,sPb,sPc]
   refine uB 16 ⟨trivial,fun h=>by simp at h⟩ ?_;refine jg 17 fun K hK=>?_;go_simp;refine hK.out _ _ ⟨trivial,fun h=>by simp at h⟩ ?_;clear hK K
   try simp only[Act.put,sPd,sPe,sPf,sPa,sPb,sPc]
   refine uY yk ?_ _;refine NoPanic.normal ?_;obtain⟨H4,H3⟩:=h9.out.pushR (b:=b) (row:=row) HM.out h3 H1.out rfl;exact HE.out _ _ _ _ _ _ _ _ _ _ _ _ _ _ _ _  _ _ _ _ _ H4 (fun w0 hw0 hb0=>H3 w0 (zE hw0 H9.out) hb0)
  go_simp;refine hK.out _ _ ⟨trivial,fun _=>h4.out _ _ _ ((hM.alloc _).alloc _)⟩ ?_;clear hK K
  try simp only[Act.put,sPd,sPe,sPf,sPa,sPb,sPc]
  refine jg 8 fun K hK=>?_;refine wR rfl (.tmp 85) (.tmp 91) 26 rfl xK 1 _ _ rfl ⟨_,_,_,_,_,((hM.alloc _).alloc _),_,rfl,rfl,rfl,rfl,?g3,?g4,H2,_,_,_,List.Mem.tail _ (List.Mem.head _),(by first|rfl|simp),rfl,?_⟩
  case g3=>(simp only[];unfold maxLen;omega)
  case g4=>(simp only[];omega)
  intro sa1 sc1 w1x h0;have h6:=h0.litcell (List.Mem.head _)
  try simp only[zW]at h6
  try(have h5:=h0.litcell (List.Mem.tail _ (List.Mem.head _));try simp only[zW]at h5)
  refine hK.out _ _ ⟨trivial,fun _=>h4.out _ _ _ (h0)⟩ ?_;clear hK K
  try simp only[Act.put,sPd,sPe,sPf,sPa,sPb,sPc]
  refine uB 14 ⟨trivial,fun _=>h4.out _ _ _ h0⟩ ?_;refine jg 13 fun K hK=>?_;refine wR rfl (.tmp 94) (.tmp 96) 27 rfl xT 0 _ _ rfl ⟨_,_,_,_,_,(h0),_,rfl,rfl,rfl,rfl,?g3,?g4,H2,_,_,_,List.Mem.head _,(by first|rfl|simp),rfl,?_⟩
  case g3=>(simp only[];unfold maxLen;omega)
  case g4=>(simp only[];omega)
  intro sa2 sc2 w2x h3;have h6:=h3.litcell (List.Mem.head _)
  try simp only[zW]at h6
  try(have h5:=h3.litcell (List.Mem.tail _ (List.Mem.head _));try simp only[zW]at h5)
  refine hK.out _ _ ⟨trivial,fun _=>h4.out _ _ _ (h3)⟩ ?_;clear hK K
  try simp only[Act.put,sPd,sPe,sPf,sPa,sPb,sPc]
  refine jg 15 fun K hK=>?_;have h7:=h3.but.heap H6.out H5.out;have cb2:=zJ h7 2;have fb2:=zB h7 2;simp only[sPd,sPe,sPf]at cb2;go_simp;have h2:=heap_setCell_same _ D 2 _ _ (.slice sa1 (m+1) sc1) h7;have cb3:=zJ h2 3;have fb3:=zB h2 3;simp at cb3;refine hK.out _ _ ⟨trivial,fun h=>by simp at h⟩ ?_;clear hK K
  try simp only[Act.put,sPd,sPe,sPf,sPa,sPb,sPc]
  refine uB 16 ⟨trivial,fun h=>by simp at h⟩ ?_;refine jg 17 fun K hK=>?_;go_simp;refine hK.out _ _ ⟨trivial,fun h=>by simp at h⟩ ?_;clear hK K
  try simp only[Act.put,sPd,sPe,sPf,sPa,sPb,sPc]
  refine uY yk ?_ _;refine NoPanic.normal ?_;obtain⟨H4,H3⟩:=h9.out.pushR (b:=b) (row:=row) HM.out h3 H1.out rfl;exact HE.out _ _ _ _ _ _ _ _ _ _ _ _ _ _ _ _  _ _ _ _ _ H4 (fun w0 hw0 hb0=>H3 w0 (zE hw0 H9.out) hb0)
 go_simp;refine hK.out _ _ ⟨trivial,fun _=>h4.out _ _ _ (hM.alloc _)⟩ ?_;clear hK K
 try simp only[Act.put,sPd,sPe,sPf,sPa,sPb,sPc]
 refine jg 7 fun K hK=>?_;go_simp;refine hK.out _ _ ⟨trivial,fun _=>h4.out _ _ _ ((hM.alloc _).alloc _)⟩ ?_;clear hK K
 try simp only[Act.put,sPd,sPe,sPf,sPa,sPb,sPc]
 refine jg 8 fun K hK=>?_;refine wR rfl (.tmp 85) (.tmp 91) 26 rfl xK 1 _ _ rfl ⟨_,_,_,_,_,((hM.alloc _).alloc _),_,rfl,rfl,rfl,rfl,?g3,?g4,H2,_,_,_,List.Mem.head _,(by first|rfl|simp),rfl,?_⟩
 case g3=>(simp only[];unfold maxLen;omega)
 case g4=>(simp only[];omega)
 intro sa1 sc1 w1x h0;have h6:=h0.litcell (List.Mem.head _)
 try simp only[zW]at h6
 try(have h5:=h0.litcell (List.Mem.tail _ (List.Mem.head _));try simp only[zW]at h5)
 refine hK.out _ _ ⟨trivial,fun _=>h4.out _ _ _ (h0)⟩ ?_;clear hK K
 try simp only[Act.put,sPd,sPe,sPf,sPa,sPb,sPc]
 refine uB 14 ⟨trivial,fun _=>h4.out _ _ _ h0⟩ ?_;refine jg 13 fun K hK=>?_;refine wR rfl (.tmp 94) (.tmp 96) 27 rfl xT 0 _ _ rfl ⟨_,_,_,_,_,(h0),_,rfl,rfl,rfl,rfl,?g3,?g4,H2,_,_,_,List.Mem.tail _ (List.Mem.head _),(by first|rfl|simp),rfl,?_⟩
 case g3=>(simp only[];unfold maxLen;omega)
 case g4=>(simp only[];omega)
 intro sa2 sc2 w2x h3;have h6:=h3.litcell (List.Mem.head _)
 try simp only[zW]at h6
 try(have h5:=h3.litcell (List.Mem.tail _ (List.Mem.head _));try simp only[zW]at h5)
 refine hK.out _ _ ⟨trivial,fun _=>h4.out _ _ _ (h3)⟩ ?_;clear hK K
 try simp only[Act.put,sPd,sPe,sPf,sPa,sPb,sPc]
 refine jg 15 fun K hK=>?_;have h7:=h3.but.heap H6.out H5.out;have cb2:=zJ h7 2;have fb2:=zB h7 2;simp only[sPd,sPe,sPf]at cb2;go_simp;have h2:=heap_setCell_same _ D 2 _ _ (.slice sa1 (m+1) sc1) h7;have cb3:=zJ h2 3;have fb3:=zB h2 3;simp at cb3;refine hK.out _ _ ⟨trivial,fun h=>by simp at h⟩ ?_;clear hK K
 try simp only[Act.put,sPd,sPe,sPf,sPa,sPb,sPc]
 refine uB 16 ⟨trivial,fun h=>by simp at h⟩ ?_;refine jg 17 fun K hK=>?_;go_simp;refine hK.out _ _ ⟨trivial,fun h=>by simp at h⟩ ?_;clear hK K
 try simp only[Act.put,sPd,sPe,sPf,sPa,sPb,sPc]
 refine uY yk ?_ _;refine NoPanic.normal ?_;obtain⟨H4,H3⟩:=h9.out.pushR (b:=b) (row:=row) HM.out h3 H1.out rfl;exact HE.out _ _ _ _ _ _ _ _ _ _ _ _ _ _ _ _  _ _ _ _ _ H4 (fun w0 hw0 hb0=>H3 w0 (zE hw0 H9.out) hb0)
end Go.Proofs.YtiknckajkdlppaaGreat
