/- Part 24 of the proof. -/
import Derived.Test.YtobakifdllameaaQb23
import Derived.Deep.RegionHeld
import Derived.BigQuiet
import Derived.Deep.Cut
import Derived.Deep.Matrix
import Derived.OpenShut
set_option linter.unusedVariables false
set_option linter.unusedSimpArgs false
set_option maxRecDepth 100000
set_option maxHeartbeats 16000000
namespace Go.Proofs.Ytobakifdllameaa
open Go.RowKit
theorem qNV (B1 B2:Nat)(w:World)(v1 v2:Value)(c:CntV)(z:Int)(m:DfaV)(h:qHL c z m)(h1:tO B1 w v1 m)(h2:tO B2 w v2 m):Calls Try.prog 25 #[v1,v2] w fun e w'=>e=.returned (.bool true)/\w.grownBy w' none:=by
 rcases h with ⟨rfl,_⟩|⟨rfl,rfl,hc,_⟩
 ·exact qGX B1 B2 w v1 v2 h1 h2
 exact qNU B1 B2 w v1 v2 _ _ _ (iZ (nO hc)) h1 h2
theorem qLA (B:Nat)(w:World)(v:Value)(c:CntV)(s:ByteArray)(h:qH B w v c)(hB:B<=w.heap.size)(a9:s.size<=maxLen):Calls Try.prog 12 #[v,.string s] w fun e w'=>e=.returned (.bool true)/\w.grownBy w' none:=by
 obtain⟨vi,vp,va,rfl,hi,hp,ha⟩:=id h;obtain⟨iA,iC,rfl⟩:=hi.shape;obtain⟨pA,pC,rfl⟩:=hp.shape;obtain⟨aA,aC,rfl⟩:=ha.shape;obtain⟨il,b2⟩:=Nm ((ints c.idx).length);obtain⟨pl,b1⟩:=Nm ((ints c.per).length);obtain⟨al,b6⟩:=Nm ((bls c.acc).length);rw[<-b2,<-b1,<-b6]at h⊢;have h8:=Ga w (.cells #[.slice iA il iC,.slice pA pl pC,.slice aA al aC] 28) none;have H3:=heap_alloc_new w (.cells #[.slice iA il iC,.slice pA pl pC,.slice aA al aC] 28);obtain⟨wA,a6⟩:=Nm (w.alloc (.cells #[.slice iA il iC,.slice pA pl pC,.slice aA al aC] 28));obtain⟨P,hP⟩:=Nm w.heap.size;rw[<-a6]at h8 H3;rw[<-hP]at H3;have e1:=h8.size;obtain⟨c0,c1,c2⟩:=uK H3;obtain⟨c6,d3,b9,d6⟩:=K4 a6 hP H3 h8;have h4:Hid (∀W:World,wA.grownBy W none->qH B W (.agg #[.slice iA il iC,.slice pA pl pC,.slice aA al aC]) c/\B<=W.heap.size):=Kh (fun W hg=>⟨(h.kept h8).kept hg,by have:=hg.size;omega⟩);have b8:=Kh (qOF B wA _ c (h4.out _ (zT _ _)).2 (h4.out _ (zT _ _)).1);clear h hi hp ha H3 h8 a6 hP b2 b1 b6;go_enter Try.func12,Try.ntmps12;go_upto_region 1 with fail;rw[<-c6.out,<-d3.out];go_wp2_with fail;refine b8.out.mono ?_;intro e w6 H2;obtain⟨E,D,⟨fv,nv,rfl,b5,a4⟩,h5⟩:=H2.out;have b0:=Kh b5.ok;have e7:=Kh a4;have H6:=Kh h5;obtain⟨c4,h9,h6,_⟩:=b5;obtain⟨fa,fc,rfl⟩:=h9.shape;obtain⟨na,nc,rfl⟩:=h6.shape;obtain⟨fl,H0⟩:=Nm ((bls D.final).length);obtain⟨nl,h7⟩:=Nm c4.length;rw[<-H0,<-h7]at b0⊢;obtain⟨LT,H5⟩:=Nm D.letters;obtain⟨ST,H4⟩:=Nm D.start;rw[<-H5,<-H4]at b0⊢;obtain⟨Q,hQ⟩:=Nm w6.heap.size;obtain⟨w7,a2⟩:=Nm (w6.alloc (.cells #[.int .i64 LT,.int .i64 ST,.slice fa fl fc,.slice na nl nc] 37));have H8:=Ga w6 (.cells #[.int .i64 LT,.int .i64 ST,.slice fa fl fc,.slice na nl nc] 37) none;have a0:=heap_alloc_new w6 (.cells #[.int .i64 LT,.int .i64 ST,.slice fa fl fc,.slice na nl nc] 37);rw[<-a2]at H8 a0;rw[<-hQ]at a0;obtain⟨c7,d2,e0⟩:=K3 a2 hQ a0;have h0:=Kh (zC a4 H8);have d8:=Kh (b0.out.kept H8 (by simp));obtain⟨c70,c71,c72⟩:=uK (zB b9.out h0.out);have b7:=Kh (qIQ B w7 _ c (h4.out _ h0.out).2 (h4.out _ h0.out).1);clear h9 h6 H0 h7 H5 H4 hQ a2 H8 a0 a4 b8 c0 c1 c2 H2 h5;go_upto_region 2 with fail;rw[<-c7.out,<-d2.out];go_wp2_with fail;refine b7.out.mono ?_;intro e w8 H1;obtain⟨E',D',⟨fv,nv,rfl,b4,b3⟩,h3⟩:=H1.out;obtain⟨rfl,rfl⟩:=qHL.same H6.out h3;have a7:=Kh b4.ok;obtain⟨c3,h9,h6,_⟩:=b4;obtain⟨fa',fc',rfl⟩:=h9.shape;obtain⟨na',nc',rfl⟩:=h6.shape;obtain⟨fl',H0⟩:=Nm ((bls D.final).length);obtain⟨nl',h7⟩:=Nm c3.length;rw[<-H0,<-h7]at a7⊢;obtain⟨LT',H5⟩:=Nm D.letters;obtain⟨ST',H4⟩:=Nm D.start;rw[<-H5,<-H4]at a7⊢;obtain⟨R,hR⟩:=Nm w8.heap.size;obtain⟨wo,a1⟩:=Nm (w8.alloc (.cells #[.int .i64 LT',.int .i64 ST',.slice fa' fl' fc',.slice na' nl' nc'] 37));have H7:=Ga w8 (.cells #[.int .i64 LT',.int .i64 ST',.slice fa' fl' fc',.slice na' nl' nc'] 37) none;have H9:=heap_alloc_new w8 (.cells #[.int .i64 LT',.int .i64 ST',.slice fa' fl' fc',.slice na' nl' nc'] 37);rw[<-a1]at H7 H9;rw[<-hR]at H9;obtain⟨c5,d1,d9⟩:=K3 a1 hR H9;have G7o:=Kh (zC b3 H7);have GAo:=Kh (zC h0.out G7o.out);have d7:=Kh (a7.out.kept H7 (by simp));have a8:=Kh (d8.out.kept G7o.out (by simp));obtain⟨ce,a5⟩:=Nm (cntE c);obtain⟨mm,a3⟩:=Nm (oF c s);have c9:Hid (∀W:World,wo.grownBy W none->Calls Try.prog 18 #[.agg #[.slice iA il iC,.slice pA pl pC,.slice aA al aC]] W fun e w'=>e=.returned (.int .i64 ce)/\wo.grownBy w' none):=Kh (fun W hW=>(iP B W _ c (h4.out _ (zC GAo.out hW)).1).mono fun e w' ⟨he,hg⟩=>⟨by rw[he,a5],zH hW hg⟩);have c8:Hid (∀W:World,wo.grownBy W none->Calls Try.prog 23 #[.agg #[.slice iA il iC,.slice pA pl pC,.slice aA al aC]] W fun e w'=>e=.returned (.int .i64 ce)/\wo.grownBy w' none):=Kh (fun W hW=>(kI B W _ c (h4.out _ (zC GAo.out hW)).1).mono fun e w' ⟨he,hg⟩=>⟨by rw[he,a5],zH hW hg⟩);have d5:Hid (∀W:World,wo.grownBy W none->Calls Try.prog 10 #[.agg #[.slice iA il iC,.slice pA pl pC,.slice aA al aC],.string s] W fun e w'=>e=.returned (.bool mm)/\wo.grownBy w' none):=Kh (fun W hW=>(iR B W _ c s (h4.out _ (zC GAo.out hW)).1 a9).mono fun e w' ⟨he,hg⟩=>⟨by rw[he,a3],zH hW hg⟩);have d4:Hid (∀W:World,wo.grownBy W none->Calls Try.prog 24 #[.agg #[.slice iA il iC,.slice pA pl pC,.slice aA al aC],.string s] W fun e w'=>e=.returned (.bool mm)/\wo.grownBy w' none):=Kh (fun W hW=>(qDD B W _ c s (h4.out _ (zC GAo.out hW)).1 a9).mono fun e w' ⟨he,hg⟩=>⟨by rw[he,a3],zH hW hg⟩)
 have d0:Hid (∀W:World,wo.grownBy W none->Calls Try.prog 25 #[.agg #[.int .i64 LT,.int .i64 ST,.slice fa fl fc,.slice na nl nc],.agg #[.int .i64 LT',.int .i64 ST',.slice fa' fl' fc',.slice na' nl' nc']] W fun e w'=>e=.returned (.bool true)/\wo.grownBy w' none):=Kh (fun W hW=>by
  have h1:=a8.out.kept hW (by simp);have h2:=d7.out.kept hW (by simp)
  exact(qNV _ _ W _ _ c _ _ H6.out h1 h2).mono fun e w' ⟨he,hg⟩=>⟨he,zH hW hg⟩)
 have HC:Hid (∀W:World,wo.grownBy W none->(W.cell? ⟨P,0,none⟩=some (.slice iA il iC)/\W.cell? ⟨P,1,none⟩=some (.slice pA pl pC)/\W.cell? ⟨P,2,none⟩=some (.slice aA al aC))/\(W.cell? ⟨Q,0,none⟩=some (.int .i64 LT)/\W.cell? ⟨Q,1,none⟩=some (.int .i64 ST)/\W.cell? ⟨Q,2,none⟩=some (.slice fa fl fc)/\W.cell? ⟨Q,3,none⟩=some (.slice na nl nc))/\W.cell? ⟨R,0,none⟩=some (.int .i64 LT')/\W.cell? ⟨R,1,none⟩=some (.int .i64 ST')/\W.cell? ⟨R,2,none⟩=some (.slice fa' fl' fc')/\W.cell? ⟨R,3,none⟩=some (.slice na' nl' nc')):=Kh (fun W hW=>by
  exact⟨uK (zB b9.out (zC GAo.out hW)),zL (zB (zB e0.out G7o.out) hW),zL (zB d9.out hW)⟩)
 obtain⟨⟨y01,y02,y03⟩,⟨y1,y2,y3,y4⟩,y5,y6,y7,y8⟩:=HC.out wo (zT _ _);have GA:wo.grownBy wo.drew none:=zW _ _;have emm:(mm == mm)=true:=by simp
 have eEE:(E == E)=true:=by simp
 have ece:(ce == ce)=true:=by simp
 clear a3 a5 h9 h6 H0 h7 H5 H4 hR a1 H7 H9 b3 b7 c70 c71 c72 H1 h3;go_upto_region 3 with fail;rw[<-c5.out,<-d1.out]
 go_region_held3 (fun w'=>(w'.cell? ⟨P,0,none⟩=some (.slice iA il iC)/\w'.cell? ⟨P,1,none⟩=some (.slice pA pl pC)/\w'.cell? ⟨P,2,none⟩=some (.slice aA al aC))/\(w'.cell? ⟨Q,0,none⟩=some (.int .i64 LT)/\w'.cell? ⟨Q,1,none⟩=some (.int .i64 ST)/\w'.cell? ⟨Q,2,none⟩=some (.slice fa fl fc)/\w'.cell? ⟨Q,3,none⟩=some (.slice na nl nc))/\w'.cell? ⟨R,0,none⟩=some (.int .i64 LT')/\w'.cell? ⟨R,1,none⟩=some (.int .i64 ST')/\w'.cell? ⟨R,2,none⟩=some (.slice fa' fl' fc')/\w'.cell? ⟨R,3,none⟩=some (.slice na' nl' nc'))
  (first|go_keep|exact HC.out _ (by assumption)|fail)
  (first|(go_at_call 18;(with_reducible refine(c9.out _ (by assumption)).mono ?_);rintro e x1 ⟨rfl,e6⟩)|(go_at_call 23;(with_reducible refine(c8.out _ (by assumption)).mono ?_);rintro e x2 ⟨rfl,e5⟩)|(go_at_call 10;(with_reducible refine(d5.out _ (by assumption)).mono ?_);rintro e x3 ⟨rfl,e4⟩)|(go_at_call 24;(with_reducible refine(d4.out _ (by assumption)).mono ?_);rintro e x4 ⟨rfl,e3⟩)|(go_at_call 25;(with_reducible refine(d0.out _ (by assumption)).mono ?_);rintro e x5 ⟨rfl,e2⟩)|fail)
 all_goals
  go_wp2;go_ret;exact⟨rfl,zC (zC d6.out GAo.out) (by assumption)⟩
def dQ:DfaV:=⟨1,0,[false,false,false,true],[[1],[2],[3],[3]]⟩
def elQ:List (List Nat):=[[0,1,2,3],[1,2,3,3],[2,3,3,3],[3,3,3,3]]
def gsQ:List (List Nat):=[[1,2,3,3]]
def prQ:List Int:=[-1,0,1,2]
def laQ:List Int:=[-1,0,0,0]
def riQ:List (List Nat):=[[1],[2],[3],[3]]
theorem qSS:xZ gsQ (yN gsQ 4 gsQ.length) 4=((elQ,prQ,laQ),riQ):=by decide +kernel
theorem qFD:uG dQ=0:=by decide +kernel
theorem qRT:VD dQ 4 1:=qPQ qFD
def sQ:SynV:=⟨1,tabE prQ laQ riQ 4,wX prQ laQ 4,imgE gsQ elQ,accE dQ.final 0 elQ,lX 4 (mN (metL 4 [1,2,3]))⟩
theorem qRK:sQ.images=[1]:=by decide +kernel
theorem qKP {d e:DfaV}(h:d.letters=e.letters/\d.start=e.start/\d.final=e.final/\d.next=e.next):d=e:=by
 obtain⟨a,b,c,x⟩:=d;obtain⟨a',b',c',x'⟩:=e;obtain⟨h1,h2,h3,h4⟩:=h;simp only at h1 h2 h3 h4;rw[h1,h2,h3,h4]
theorem qSY:minD dQ 1=dQ:=qKP (by decide +kernel)
theorem qRQ:qZ dQ 4 1=gsQ:=by decide +kernel
def tQ:List (List Int):=[[0,1,2,3],[1,2,3,3],[2,3,3,3],[3,3,3,3]]
theorem qPB:tabI sQ.tab=tQ:=by decide +kernel
theorem qTA:FinE gsQ 4 elQ prQ laQ riQ elQ.length:=qKI (by unfold IsT;decide) (by omega) (by decide) qSS (by unfold IsT;decide)
theorem qSZ:GenI tQ [1] [1,2,3] where
 nd:=by decide
 lt:=by decide
 base:=by decide
 gen:=fun x hx=>by
  have g1:Gen tQ [1] 1:=.base 1 (by simp)
  have g2:Gen tQ [1] 2:=.mul 1 1 g1 g1
  have g3:Gen tQ [1] 3:=.mul 1 2 g1 g2
  simp only[List.mem_cons,List.not_mem_nil,or_false]at hx
  rcases hx with rfl|rfl|rfl
  ·exact g1
  ·exact g2
  ·exact g3
theorem qOD:pT tQ [1,2,3]:=by unfold pT;decide +kernel
theorem qPU:nW dQ sQ:=by
 refine⟨4,1,4,dQ,qRT,qSY.symm,qRT,by omega,?_⟩;rw[qRQ];exact⟨elQ,prQ,laQ,riQ,[1,2,3],qTA,by decide,rfl,rfl,rfl,rfl,rfl,by rw[qPB,qRK];exact qSZ,by rw[qPB];exact qOD,rfl⟩
theorem qTC:autI sQ.I=dQ:=qKP (by decide +kernel)
theorem qPR:pF sQ.I:=⟨by decide +kernel,sQ,by rw[qTC];exact qPU,rfl⟩
theorem qRW:gP sQ.I.tab=true:=by decide +kernel
theorem qST:PowR sQ.I.tab ((imI sQ.I).getD 0 0) 4 3:=by unfold PowR;decide +kernel
theorem qPC {Ls js:List Nat}(h:PowsR sQ.I Ls js sQ.I.images.length):Ls=[4]/\js=[3]:=by
 have e1:sQ.I.images.length=1:=by decide +kernel
 rw[e1]at h;have h1:=h.pow 0 (by omega);obtain⟨h2,h3⟩:=h1.eq qST;have l1:=h.l1;have l2:=h.l2
 match Ls,js,l1,l2,h2,h3 with
 | [a],[b],_,_,h2,h3=>simp at h2 h3;rw[h2,h3];exact⟨rfl,rfl⟩
def cQ:CntV:=⟨[3],[1],[false,false,false,true]⟩
theorem qTB {c:CntV}(h:qLI sQ.I c):c=cQ:=by
 obtain⟨Ls,js,hp,h1,h2,h3,h4⟩:=h;obtain⟨rfl,rfl⟩:=qPC hp;obtain⟨ci,cp,ca⟩:=c;simp only at h1 h2 h3 h4;have e1:vX [3]=[3]:=by decide
 have e2:vX (perL [4] [3])=[1]:=by decide
 rw[e1]at h1;rw[e2]at h2;subst h1 h2;have e3:uJ [3] [1] sQ.I.images.length=some 4:=by decide +kernel
 rw[e3]at h3;have e4:ca.length=4:=(Oj h3).symm;rw[e4]at h4;have e5:((List.range 4).map fun i=>sQ.I.accept.getD (valC sQ.I.tab (imI sQ.I) [4] sQ.I.images.length i 0) false)=[false,false,false,true]:=by decide +kernel
 rw[h4,e5];rfl
theorem qQS:¬qRE sQ.I:=by
 rintro ⟨Ls,js,hp,h⟩;obtain⟨rfl,rfl⟩:=qPC hp;have e3:uJ (vX [3]) (vX (perL [4] [3])) sQ.I.images.length=some 4:=by decide +kernel
 rw[e3]at h;exact absurd h (by simp)
theorem qJW:oF cQ ⟨#[97,97,97,97]⟩=true/\oF cQ ⟨#[97,97]⟩=false:=by decide +kernel
theorem mE {xs:List Bool}{k:Nat}(h:k<xs.length):xs.take (k+1)=xs.take k++[xs.getD k false]:=by
 rw[List.take_add_one];simp[List.getD,h]
theorem qII (B C:Nat)(w:World)(va vb:Value)(xs ys:List Bool)(ha:Row B w va (bls xs))(hb:Row C w vb (bls ys)):Calls Try.prog 41 #[va,vb] w fun e w'=>e=.returned (.bool (decide (xs=ys)))/\∃m,w'=w.drewN m:=by
 have h2:=ha.len_le;rw[zX]at h2;unfold maxLen at h2;have h1:=hb.len_le;rw[zX]at h1;unfold maxLen at h1;obtain⟨aa,ac,rfl⟩:=ha.shape;obtain⟨ba,bc,rfl⟩:=hb.shape;rw[zX]at ha hb⊢;rw[zX];by_cases hl:xs.length=ys.length
 ·by_cases h0:xs.length=0
  ·have hx:xs=[]:=List.eq_nil_of_length_eq_zero h0
   have hy:ys=[]:=List.eq_nil_of_length_eq_zero (by omega);subst hx;subst hy;clear ha hb;go_enter Try.func41,Try.ntmps41;go_wp2
   go_loopg [13] 0 (fun g i wr=>i=.int .i64 0/\wr=w)
   case atStart=>exact⟨rfl,rfl⟩
   obtain⟨rfl,rfl⟩:=hrel;go_wp2;go_ret;exact⟨yT rfl,0,rfl⟩
  obtain⟨ab,ao,ac',e,_,_,_,h4⟩:=ha.some_ (by rw[zX];omega);simp only[Value.slice.injEq]at e;obtain⟨rfl,-,-⟩:=e;obtain⟨bb,bo,bc',e,_,_,_,h3⟩:=hb.some_ (by rw[zX];omega);simp only[Value.slice.injEq]at e;obtain⟨rfl,-,-⟩:=e;obtain⟨RA,RB,HL⟩:=K3 h4 h3 hl;clear ha hb h4 h3;rw[<-hl];clear hl;go_enter Try.func41,Try.ntmps41;go_wp2
  go_loopg [13] xs.length (fun g i wr=>∃k:Nat,g+k=xs.length/\i=.int .i64 k/\xs.take k=ys.take k/\∃m,wr=w.drewN m)
  case atStart=>exact⟨0,rfl,rfl,rfl,0,rfl⟩
  obtain⟨k,hg,rfl,h5,m,rfl⟩:=hrel;have HG:=Kh hg;have OK:=Kh h5;clear hg h5;by_cases hk:k<xs.length
  ·have h7:(k:Int)<xs.length:=by omega
   have ca:=RA.out.boolQ k hk;have cb:=RB.out.boolQ k (by have:=HL.out;omega);obtain⟨z,hz⟩:=Nm (xs.getD k false);obtain⟨u,hu⟩:=Nm (ys.getD k false);rw[<-hz]at ca;rw[<-hu]at cb;have HZ:=Kh hz;have HU:=Kh hu;clear hz hu;by_cases hzu:z=u
   ·have HN:Hid (xs.take (k+1)=ys.take (k+1)):=Kh (by rw[mE hk,mE (by have:=HL.out;omega),OK.out,<-HZ.out,<-HU.out,hzu])
    subst hzu;have e1:(z != z)=false:=by simp
    go_wp2
    go_quiet (fail)
    go_wp2;go_roundg (xs.length-(k+1))
    case measure=>have:=HG.out;omega
    exact⟨k+1,by omega,by go_num,HN.out,_,rfl⟩
   have HN:Hid (decide (xs=ys)=false):=Kh (by rw[decide_eq_false_iff_not];rintro rfl;exact hzu (by rw[HZ.out,HU.out]));cases z<;>cases u
   case false.false=>exact absurd rfl hzu
   case true.true=>exact absurd rfl hzu
   all_goals
    clear hzu;go_wp2
    go_quiet (fail)
    go_wp2;go_ret;exact⟨yT HN.out.symm,_,by rw[World.drewN_drewN]⟩
  have HY:Hid (decide (xs=ys)=true):=by
   have h6:k=xs.length:=by have:=HG.out;omega
   have:=OK.out;rw[List.take_of_length_le (by omega),List.take_of_length_le (by have:=HL.out;omega)]at this;exact Kh (by rw[decide_eq_true_eq];exact this)
  go_wp2;go_ret;exact⟨yT HY.out.symm,m,rfl⟩
 have e1:((xs.length:Int) != (ys.length:Int))=true:=by rw[bne_iff_ne];omega
 have HN:Hid (decide (xs=ys)=false):=Kh (by rw[decide_eq_false_iff_not];rintro rfl;exact hl rfl);clear ha hb;go_enter Try.func41,Try.ntmps41;go_wp2;go_ret;exact⟨yT HN.out.symm,0,rfl⟩
theorem qKQ (B C:Nat)(w:World)(va vb:Value)(a b:CntV)(ha:qH B w va a)(hb:qH C w vb b):Calls Try.prog 21 #[va,vb] w fun e w'=>e=.returned (.bool (decide (a.idx=b.idx) && decide (a.per=b.per) && decide (a.acc=b.acc)))/\w.grownBy w' none:=by
 obtain⟨a1,a2,a3,rfl,H4,H0,h9⟩:=ha;obtain⟨b1,b2,b3,rfl,h8,h7,h6⟩:=hb;obtain⟨w1,h0⟩:=Nm (w.alloc (.cells #[a1,a2,a3] 28));have g1:w.grownBy w1 none:=by rw[h0];exact Ga w _ none
 have n1:=heap_alloc_new w (.cells #[a1,a2,a3] 28);have h2:w1.heap.size=w.heap.size+1:=by rw[h0];simp
 obtain⟨w2,h1⟩:=Nm (w1.alloc (.cells #[b1,b2,b3] 28));have g2:w1.grownBy w2 none:=by rw[h1];exact Ga w1 _ none
 have n2:=heap_alloc_new w1 (.cells #[b1,b2,b3] 28);rw[<-h0]at n1;rw[<-h1,h2]at n2;obtain⟨P,hP⟩:=Nm w.heap.size;rw[<-hP]at n1 n2;obtain⟨p0,p1,p2⟩:=uK (zB n1 g2);obtain⟨q0,q1,q2⟩:=uK n2;have hg:=zC g1 g2;have H1:=Kh (fun(W:World) (h:w.grownBy W none)=>lK B C W a1 b1 a.idx b.idx (H4.kept h (by simp)) (h8.kept h (by simp)));have H2:=Kh (fun(W:World) (h:w.grownBy W none)=>lK B C W a2 b2 a.per b.per (H0.kept h (by simp)) (h7.kept h (by simp)));have H3:=Kh (fun(W:World) (h:w.grownBy W none)=>qII B C W a3 b3 a.acc b.acc (h9.kept h (by simp)) (h6.kept h (by simp)));obtain⟨d1,h5⟩:=Nm (decide (a.idx=b.idx));obtain⟨d2,h4⟩:=Nm (decide (a.per=b.per));obtain⟨d3,h3⟩:=Nm (decide (a.acc=b.acc));rw[<-h5]at H1⊢;rw[<-h4]at H2⊢;rw[<-h3]at H3⊢;obtain⟨HG,H6,H5,HP⟩:=K4 hg h0 h1 hP;clear H4 H0 h9 h8 h7 h6 h0 h1 g1 g2 n1 n2 h2 hP hg h5 h4 h3;go_enter Try.func21,Try.ntmps21;go_upto_region 1 with fail;rw[<-H6.out,<-HP.out,<-H5.out];go_wp2_with fail;refine(H1.out w2 HG.out).mono ?_;rintro e w3 ⟨rfl,m3,rfl⟩;have HD:Hid (∀q,w.grownBy (w2.drewN q) none):=Kh (fun q=>zC HG.out (zS w2 q none));cases d1 with
 | false =>
  go_wp2;go_ret;exact⟨rfl,HD.out _⟩
 | true =>
  go_wp2_with fail;refine(H2.out _ (HD.out _)).mono ?_;rintro e w4 ⟨rfl,m4,rfl⟩;cases d2 with
  | false =>
   go_wp2;go_ret;exact⟨rfl,HD.out _⟩
  | true =>
   go_wp2_with fail;refine(H3.out _ (HD.out _)).mono ?_;rintro e w5 ⟨rfl,m5,rfl⟩;cases d3 with
   | false =>
    go_wp2;go_ret;exact⟨rfl,HD.out _⟩
   | true =>
    go_wp2;go_ret;exact⟨rfl,HD.out _⟩
open Go.Maps
theorem aX {w:World}{p e:Nat}{z0 z1 z2:Value}(h:w.heap[p]?=some (.cells #[z0,z1,z2] e (0,0)))(x0 x1 x2:Value):(((w.setCell ⟨p,0,none⟩ x0).setCell ⟨p,1,none⟩ x1).setCell ⟨p,2,none⟩ x2).heap[p]?=some (.cells #[x0,x1,x2] e (0,0))/\w.grownBy (((w.setCell ⟨p,0,none⟩ x0).setCell ⟨p,1,none⟩ x1).setCell ⟨p,2,none⟩ x2) (some p):=by
 have s0:=heap_setCell_same w p 0 _ _ x0 h;have s1:=heap_setCell_same _ p 1 _ _ x1 s0;have s2:=heap_setCell_same _ p 2 _ _ x2 s1;refine⟨by rw[s2];simp,?_⟩;have t:=fun(W:World) (i:Nat) (u:Value)=>zF W ⟨p,i,none⟩ u;exact zH (zH (t _ 0 _) (t _ 1 _)) (t _ 2 _)
theorem qKT (B:Nat)(w:World)(v:Value)(I:SynI)(a6:B<=w.heap.size)(h:aZ B w v I):Calls Try.prog 16 #[v] w (qPN I w):=by
 obtain⟨vT,vW,vI,vA,vP,rfl,hT,hW,hI,hA,hP⟩:=id h;obtain⟨tA,tC,rfl⟩:=hT.shape;obtain⟨wA,wC,rfl⟩:=hW.shape;obtain⟨iA,iC,rfl⟩:=hI.shape;obtain⟨aA,aC,rfl⟩:=hA.shape;obtain⟨pA,pC,rfl⟩:=hP.shape;obtain⟨n,hn⟩:=Nm I.tab.length;obtain⟨wn,n0⟩:=Nm ((rI I.words).length);obtain⟨k,hk⟩:=Nm I.images.length;obtain⟨an,i8⟩:=Nm I.accept.length;obtain⟨pn,c5⟩:=Nm ((bls I.plus).length);rw[<-hn,<-n0,zK,<-hk,zX,<-i8,<-c5]at h⊢;rw[<-hn]at hT;rw[zK,<-hk]at hI;rw[zX,<-i8]at hA;obtain⟨w1,c3⟩:=Nm (w.alloc (.cells #[.int .i64 I.k,.slice tA n tC,.slice wA wn wC,.slice iA k iC,.slice aA an aC,.slice pA pn pC] 44));have g1:w.grownBy w1 none:=by rw[c3];exact Ga w _ none
 have n1:=heap_alloc_new w (.cells #[.int .i64 I.k,.slice tA n tC,.slice wA wn wC,.slice iA k iC,.slice aA an aC,.slice pA pn pC] 44);have g9:w1.heap.size=w.heap.size+1:=by rw[c3];simp
 rw[<-c3]at n1;obtain⟨w2,i3⟩:=Nm (w1.alloc (.cells #[.slice none 0 0,.slice none 0 0,.slice none 0 0] 28));have g2:w1.grownBy w2 none:=by rw[i3];exact Ga w1 _ none
 have n2:=heap_alloc_new w1 (.cells #[.slice none 0 0,.slice none 0 0,.slice none 0 0] 28);rw[<-i3,g9]at n2;obtain⟨P,l5⟩:=Nm w.heap.size;rw[<-l5]at n1 n2;have k6:=zB n1 g2;have i5:=zC g1 g2;obtain⟨ik,o4⟩:=Nm I.k;rw[<-o4]at c3 k6 h⊢;have t7:=Kh (h.kept i5);have HT:Hid (∀W:World,w.grownBy W none->Mat B W (.slice tA n tC) I.tab):=Kh (fun W hg=>hT.kept hg (by simp));have HI:Hid (∀W:World,w.grownBy W none->Row B W (.slice iA k iC) (ints I.images)):=Kh (fun W hg=>hI.kept hg (by simp));have HA:Hid (∀W:World,w.grownBy W none->Row B W (.slice aA an aC) (bls I.accept)):=Kh (fun W hg=>hA.kept hg (by simp));obtain⟨q7,c2,HG,s8,s7,f3⟩:=K6 k6 n2 i5 c3 i3 l5;obtain⟨HN,HK,m8⟩:=K3 hn hk i8;have HV:=Kh (qFR B w2 _ I (Nat.le_trans a6 i5.size) t7.out);clear h hT hW hI hA hP hn n0 hk i8 c5 o4 g1 n1 g9 g2 n2 k6 i5 c3 i3 l5;go_enter Try.func16,Try.ntmps16;go_upto_region 1 with fail;rw[<-s8.out,<-f3.out,<-s7.out];obtain⟨q0,q1,q2,q3,q4,q5⟩:=yD q7.out;go_wp2_with fail;refine HV.out.mono ?_;rintro e w3 ⟨⟨z,rfl,hz⟩,i7⟩;have j0:=Kh (zC HG.out i7);have g8:=Kh (zB q7.out i7);have h6:=Kh (zB c2.out i7);obtain⟨p0,p1,p2⟩:=uK h6.out;have f0:=zA h6.out 0;have f1:=zA h6.out 1;have f2:=zA h6.out 2;clear i7 HV q0 q1 q2 q3 q4 q5;rcases hz with ⟨rfl,h3⟩|⟨rfl,hnv⟩
 case inr =>
  have t5:=Kh hnv;clear hnv;go_wp2;refine bodyPost_ret (v:=.tuple #[.agg #[.slice none 0 0,.slice none 0 0,.slice none 0 0],.int .i64 8]) (by simp[results,Try.results16,go_sem,p0,p1,p2]) rfl ?_;obtain⟨j5,H2⟩:=aX h6.out (.slice none 0 0) (.slice none 0 0) (.slice none 0 0);exact⟨.inl ⟨8,rfl,.inl ⟨rfl,t5.out⟩⟩,zC j0.out H2 (fun j e=>by have e:P+1=j:=Oj e;have:=f3.out;omega)⟩
 have b9:=Kh h3;have b0:=Kh h3.tab;have h2:=Kh (lJ h3.1);clear h3;obtain⟨q0,q1,q2,q3,q4,q5⟩:=yD g8.out;have m3:=Kh (qOA B w3 _ I.tab (Nat.le_trans a6 j0.out.size) (HT.out _ j0.out) b0.out.1 b0.out.2);obtain⟨cb,k3⟩:=Nm (gP I.tab);rw[<-k3]at m3;have c0:=Kh k3;clear k3;go_wp2_with fail;refine m3.out.mono ?_;rintro e w4 ⟨rfl,i6⟩;have f5:=Kh (zC j0.out i6);have g7:=Kh (zB g8.out i6);have h5:=Kh (zB h6.out i6);clear i6 m3 q0 q1 q2 q3 q4 q5 p0 p1 p2 f0 f1 f2;obtain⟨p0,p1,p2⟩:=uK h5.out;have f0:=zA h5.out 0;have f1:=zA h5.out 1;have f2:=zA h5.out 2;cases cb with
 | false =>
  go_wp2;refine bodyPost_ret (v:=.tuple #[.agg #[.slice none 0 0,.slice none 0 0,.slice none 0 0],.int .i64 20]) (by simp[results,Try.results16,go_sem,p0,p1,p2]) rfl ?_;obtain⟨j5,H2⟩:=aX h5.out (.slice none 0 0) (.slice none 0 0) (.slice none 0 0);exact⟨.inl ⟨20,rfl,.inr (.inl ⟨rfl,b9.out,c0.out.symm⟩)⟩,zC f5.out H2 (fun j e=>by have e:P+1=j:=Oj e;have:=f3.out;omega)⟩
 | true =>
  clear p0 p1 p2 f0 f1 f2;have r8:(k:Int)=I.k:=by rw[HK.out];exact h2.out.2.1.2.2.2
  have o3:1<=k:=by have:=h2.out.1.1;omega
  have y8:k<=6:=by have:=h2.out.1.2.1;omega
  have r7:n<=400:=by rw[HN.out];exact h2.out.1.2.2.2
  clear r8;obtain⟨ib,io,ic,ei,_,i1,i2,ir⟩:=(HI.out _ f5.out).some_ (by rw[zK,<-HK.out];exact o3);obtain⟨tb,tf,tc,RB,RO,RC,et,t1,t2,hq⟩:=(HT.out _ f5.out).sq b0.out.1;obtain⟨ab,ao,ac,ea,_,a1,a2,ar⟩:=(HA.out _ f5.out).some_ (by rw[zX,h2.out.2.1.2.1,<-HN.out];have:=h2.out.1.2.2.1;have:=HN.out;omega);simp only[Value.slice.injEq]at ei et ea;obtain⟨rfl,g9,rfl⟩:=ei;obtain⟨rfl,r3,rfl⟩:=et;obtain⟨rfl,q9,rfl⟩:=ea;rw[zK,<-HK.out]at i1;rw[<-HN.out]at t1;rw[zX,<-m8.out]at a1;have t2':tC<=9223372036854775807:=by unfold maxLen at t2;omega
  unfold maxLen at i2 a2;obtain⟨IR,HQ,AR⟩:=K3 ir hq ar;have k7:an=n:=by rw[m8.out,h2.out.2.1.2.1,HN.out]
  subst k7;obtain⟨w5,i0⟩:=Nm (w4.alloc (.cells #[.slice none 0 0,.slice none 0 0,.slice none 0 0] 28));have h7:w4.grownBy w5 none:=by rw[i0];exact Ga w4 _ none
  have k5:=heap_alloc_new w4 (.cells #[.slice none 0 0,.slice none 0 0,.slice none 0 0] 28);obtain⟨o,ho⟩:=Nm w4.heap.size;rw[<-i0,<-ho]at k5;have p5:BoxS w4.heap.size (fun _=>False) o 28 w4 w5 [] #[.slice none 0 0,.slice none 0 0,.slice none 0 0] w5:=⟨⟨fun r hr=>by simp at hr,List.Pairwise.nil,fun r hr=>by simp at hr,fun k hk=>hk.elim⟩,fun r hr=>by simp at hr,k5,fun h=>h,Nat.le_refl _,by rw[ho];exact Nat.le_refl _,h7.size,h7,xX.refl _ _,Nat.le_refl _⟩;obtain⟨q0,q1,q2,q3,q4,q5⟩:=yD (zB g7.out h7);obtain⟨t0,s6,HO,z9⟩:=K4 p5 i0 ho h7;have g0:Hid (∀W:World,w4.grownBy W none->W.heap[P]?=some (.cells #[.int .i64 ik,.slice (some ⟨tb,tf,none⟩) an tC,.slice wA wn wC,.slice (some ⟨ib,io,none⟩) k iC,.slice (some ⟨ab,ao,none⟩) an aC,.slice pA pn pC] 44 (0,0))/\w.grownBy W none):=Kh (fun W hW=>⟨zB g7.out hW,zC f5.out hW⟩);clear ir hq ar g9 r3 q9 i0 h7 k5 p5 ho HI HT HA;go_upto_region 7 with fail;rw[<-s6.out,<-HO.out];go_upto_region 8 with (first|(at_make;refine cJ rfl _ _ _ rfl xY rfl .i64 .i64 _ _ k rfl rfl rfl rfl ?b1 ?b2 ?_;(case b1=>omega);(case b2=>(unfold maxLen;omega));intro w6 h1 c6 b6)|fail);obtain⟨pg,n8⟩:=Nm w5.heap.size;have l4:=((t0.out.add c6 h1 (by decide)).nil (e:=3) (sz:=1) (by decide)).nil (e:=3) (sz:=1) (by decide);rw[<-n8]at l4⊢;have m5:Hid (CoS I w4 o k pg (List.replicate k (.slice none 0 0)) [] [] none 0 none 0 (.slice none 0 0) [] w6):=Kh ⟨_,l4.rebase,xU.nil⟩;obtain⟨q0,q1,q2,q3,q4,q5⟩:=yD (g0.out w6 m5.out.g).1;clear h1 c6 b6 l4 n8;go_wp2
  go_loopg [7,8,9,10,35] k (fun gh a7 a8 a9 a10 a35 wr=>∃(a:Nat) (c4:List Value) (Ls js:List Nat) (sI:Option Addr) (cI:Nat) (sP:Option Addr) (cP:Nat),gh+a=k/\a35=.int .i64 a/\PowsR I Ls js a/\CoS I w4 o k pg c4 Ls js sI cI sP cP (.slice none 0 0) [] wr)
  case atStart=>exact⟨0,_,[],[],none,0,none,0,rfl,rfl,⟨rfl,rfl,fun b hb=>by omega⟩,m5.out⟩
  clear m5 q0 q1 q2 q3 q4 q5;obtain⟨a,c4,Ls,js,sI,cI,sP,cP,o6,rfl,H9,H3⟩:=hrel;have m1:=Kh o6;have c9:=Kh H9;have h0:=H3.g;obtain⟨o9,H1⟩:=g0.out wr h0;obtain⟨q0,q1,q2,q3,q4,q5⟩:=yD o9;clear o6 o9;by_cases ha:a<k
  ·have s2:(a:Int)<k:=by omega
   obtain⟨x,ex,d5⟩:=aP h2.out.2.2.2 (i:=a) (by rw[<-HK.out];exact ha);have ci:=(IR.out.kept h0 (by simp)).int a (by rw[<-HK.out];exact ha);rw[ex]at ci
   have i9:Hid ((imI I).getD a 0=x):=Kh (by
    rw[imI,xW (x:=0) (by rw[<-HK.out];exact ha),ex,Int.toNat_natCast])
   have l8:=Kh (qAX B wr tb tf tC RB RO RC I.tab x (by have:=H1.size;omega) (HQ.out.kept h0 (by simp)) b0.out.1 (by rw[<-HN.out];exact t1) t2' d5);rw[<-HN.out]at l8;have H4:Ls.length=a:=H9.l1;obtain⟨_,e9,e4,_,_⟩:=H3.cells;have h9:=Kh H3;have q8:=Kh e9;clear ex d5 H3 h0 H1 H9 e9;go_wp2_with fail;refine l8.out.mono ?_;rintro e w7 ⟨L,j,sa,sc,hR,rfl,b5,e5⟩;obtain⟨X,hB,hT⟩:=h9.out;rw[H4]at hB hT;have l6:=hB.fresh e5 (Y:=fun q=>(Value.slice sa L sc).ownBlock=some q) (fun q hq=>b5.lt q hq);have l3:=(hT.kept (hB.mem.keep e5) e5.size).mono (X':=fun q=>X q\/(Value.slice sa L sc).ownBlock=some q) (fun q hq=>.inl hq);have k9:RowX (fun q=>X q\/(Value.slice sa L sc).ownBlock=some q) 3 w7 (.slice sa L sc) (nats (uE I.tab x L)):=RowX.of_owns b5 (fun q hq=>.inr hq);obtain⟨X1,e8⟩:=Nm ((fun q=>X q\/(Value.slice sa L sc).ownBlock=some q));rw[<-e8]at l6 l3 k9;have b8:=l6.put (j:=0) rfl ha (.slice sa L sc);have l0:=l3.kept b8.kept b8.wk;have k8:=k9.kept b8.kept b8.wk;have l7:=q8.out.kept e5 (by simp);have c7:=l7.cell a (by omega);have f7:=l7.frozen a;obtain⟨u7,n3⟩:=Nm (c4[a]'(by omega));rw[<-n3]at c7;obtain⟨w8,j3⟩:=Nm (w7.setCell ⟨pg,a,none⟩ (.slice sa L sc));rw[<-j3]at b8 l0 k8;have c2:=Kh b8.rebase;obtain⟨q6,p7,HR,s5,t8,b3⟩:=K6 l0 k8 hR j3 e4 H4;clear hR b5 e5 hB hT l6 l3 k9 e8 b8 l0 k8 l7 n3 j3 e4 l8 h9 q8 q0 q1 q2 q3 q4 q5 ci H4;go_upto_region 13 with fail;rw[<-s5.out];clear c7 f7;have d0:=zG c2.out.box 0;simp only[List.getElem_toArray,List.getElem_cons_zero,List.getElem_cons_succ]at d0;have a4:=c2.out.own (r:=⟨w4.heap.size,3,.slice sI a cI,a,nats js,1⟩) (by simp);simp only at a4;have m9:w4.heap.size<=w8.heap.size:=c2.out.grown.size;go_upto_region 14 with (first|(at_builtin;refine qN rfl _ _ _ rfl yJ.toN w4.heap.size (.slice sI a cI) a (nats js) rfl a4 [.int .i64 (j:Int)] rfl rfl ?z1 ?z2 ?z3 ?z4 ?_;(case z1=>(intro v hv;simp only[List.mem_cons,List.not_mem_nil,or_false]at hv;subst hv;rfl));(case z2=>(unfold maxLen;omega));(case z3=>(show (a+1)*8<=140737488355328;omega));(case z4=>exact m9);intro sI2 cI2 w9 a0 o8 n9;(have j2:=Kh (c2.out.appAt (j:=1) rfl a0 o8 n9));(have d9:=zG j2.out.box 0);(simp only[List.getElem_toArray,List.getElem_cons_zero,List.getElem_cons_succ]at d9);(have f9:=zA j2.out.box 0))|fail);obtain⟨w10,d7⟩:=Nm (w9.setCell ⟨o,0,none⟩ (.slice sI2 (a+1) cI2));have a5:=j2.out.set 0 (.slice sI2 (a+1) cI2);rw[<-d7]at a5⊢;simp only[sPa,sPb,sPc]at a5;have p9:=Kh (q6.out.kept a5.kept a5.wk);have p6:=Kh (p7.out.kept a5.kept a5.wk);have g5:=Kh a5.rebase;obtain⟨d,hd⟩:=Nm (L-j)
   have s3:L<=an:=by rw[HN.out];exact gX b0.out.1 (by
    obtain⟨y,ey,hy⟩:=aP h2.out.2.2.2 (i:=a) (by rw[<-HK.out];exact ha);rw[imI,xW (x:=0) (by rw[<-HK.out];exact ha),ey,Int.toNat_natCast]at i9
    rw[<-i9.out];exact hy) HR.out.1
   have y9:=HR.out.2.1;have edi:(L:Int)-(j:Int)=(d:Int):=by omega
   have edw:wrap64 ((L:Int)-(j:Int))=(L:Int)-(j:Int):=IntWalk.wrap64_in _ (by omega);have d1:=zG g5.out.box 1;simp only[List.getElem_toArray,List.getElem_cons_zero,List.getElem_cons_succ]at d1;have a3:=g5.out.own (r:=⟨w4.heap.size,3,.slice sP a cP,a,nats (perL Ls js),1⟩) (by simp);simp only at a3;have d4:w4.heap.size<=w10.heap.size:=g5.out.grown.size;have HD:=Kh hd;have x4:=Kh edi;clear a5 d7 d0 d9 f9 a4 m9 a0 o8 n9 j2 q6 p7 c2 hd edi;go_upto_region 15 with (first|(at_builtin;refine qN rfl _ _ _ rfl yJ.toN w4.heap.size (.slice sP a cP) a (nats (perL Ls js)) rfl a3 [.int .i64 ((L:Int)-(j:Int))] rfl rfl ?y1 ?y2 ?y3 ?y4 ?_;(case y1=>(intro v hv;simp only[List.mem_cons,List.not_mem_nil,or_false]at hv;subst hv;rfl));(case y2=>(unfold maxLen;clear edw;omega));(case y3=>(show (a+1)*8<=140737488355328;clear edw;omega));(case y4=>exact d4);intro sP2 cP2 w11 H0 e6 d8;(have j1:=Kh (g5.out.appAt (j:=2) rfl H0 e6 d8));(have d9:=zG j1.out.box 1);(simp only[List.getElem_toArray,List.getElem_cons_zero,List.getElem_cons_succ]at d9);(have f9:=zA j1.out.box 1))|fail);obtain⟨w12,d6⟩:=Nm (w11.setCell ⟨o,1,none⟩ (.slice sP2 (a+1) cP2));have H7:=j1.out.set 1 (.slice sP2 (a+1) cP2);rw[<-d6]at H7⊢;simp only[sPa,sPb,sPc]at H7;have p4:=p9.out.kept H7.kept H7.wk;have p3:=p6.out.kept H7.kept H7.wk
   have x6:Hid (CoS I w4 o k pg (c4.set a (.slice sa L sc)) (Ls++[L]) (js++[j]) sI2 cI2 sP2 cP2 (.slice none 0 0) [] w12):=Kh (by
    have e1:nats js++[.int .i64 (j:Int)]=nats (js++[j]):=by simp[nats]
    have e2:nats (perL Ls js)++[.int .i64 ((L:Int)-(j:Int))]=nats (perL (Ls++[L]) (js++[j])):=by
     rw[x4.out,qIZ L j (by rw[c9.out.l1,c9.out.l2]),HD.out];simp[nats]
    have e3:a+1=(Ls++[L]).length:=by rw[List.length_append,List.length_singleton,b3.out]
    rw[e1,e2,e3]at H7;refine⟨X1,H7.rebase,?_⟩;rw[<-e3,qGD,b3.out,i9.out,List.take_add_one,List.getElem?_set_self (by have:=t8.out;omega),List.take_set_of_le (Nat.le_refl _)]
    exact p4.snoc p3)
   have t3:Hid (PowsR I (Ls++[L]) (js++[j]) (a+1)):=Kh (c9.out.add (by rw[i9.out];exact HR.out));clear H7 p4 p3 d6 d1 d9 f9 a3 d4 H0 e6 d8 j1 g5 p9 p6 edw;go_wp2;go_roundg (k-(a+1))
   case measure=>have:=m1.out;omega
   exact⟨a+1,_,_,_,_,_,_,_,by have:=m1.out;omega,by go_num,t3.out,x6.out⟩
  have s1:k=a:=by have:=m1.out;omega
  have s2:¬(a:Int)<k:=(by omega);subst s1;have t4:=Kh H9.posC;have H4:Ls.length=k:=H9.l1;have b7:js.length=k:=H9.l2;obtain⟨H6,e9,e4,a4,a3⟩:=H3.cells;rw[H4]at H6 a4 a3;have b4:=qFE wr.heap.size wr (.slice sI k cI) (.slice sP k cP) (.slice none 0 0) (vX js) (vX (perL Ls js)) (by rw[lU];exact Row.of_owns a4) (by rw[lU];exact Row.of_owns a3) (by rw[sJ,sJ,rP,H4,b7]) t4.out (by rw[sJ,b7];exact o3);have x9:=Kh H6;have h9:=Kh H3;have m7:=Kh (zB h5.out h0);obtain⟨x0,x3,b3,z7⟩:=K4 H1 h0 H4 b7;obtain⟨o0,o1,o2⟩:=uK H6;have l9:Hid (k=I.images.length):=HK;rcases hct:uJ (vX js) (vX (perL Ls js)) k with _|c
  ·obtain⟨e1,e2⟩:=eK hct (by rw[sJ,b7];exact Nat.le_refl _)
   rw[e1,e2]at b4;have t6:Hid (qRE I):=Kh ⟨Ls,js,by rw[<-l9.out];exact c9.out,by rw[<-l9.out];exact hct⟩;have b4:=Kh b4;clear e1 e2 hct H6 e9 e4 a4 a3 H3 h0 H1 H4 b7 H9;go_wp2_with fail;refine b4.out.mono ?_;rintro e w5 ⟨rfl,h7⟩;have f8:=Kh (zB m7.out h7);have t9:=Kh (zC x0.out h7);obtain⟨p0,p1,p2⟩:=uK f8.out;have f0:=zA f8.out 0;have f1:=zA f8.out 1;have f2:=zA f8.out 2;clear h7;go_wp2;refine bodyPost_ret (v:=.tuple #[.agg #[.slice none 0 0,.slice none 0 0,.slice none 0 0],.int .i64 3]) (by simp[results,Try.results16,go_sem,p0,p1,p2]) rfl ?_;obtain⟨j5,H2⟩:=aX f8.out (.slice none 0 0) (.slice none 0 0) (.slice none 0 0);exact⟨.inl ⟨3,rfl,.inr (.inr ⟨rfl,b9.out,c0.out.symm,t6.out⟩)⟩,zC t9.out H2 (fun j e=>by have e:P+1=j:=Oj e;have:=f3.out;omega)⟩
  obtain⟨e1,e2⟩:=jU (idx:=vX js) (per:=vX (perL Ls js)) (c:=c) (by rw[sJ,b7];exact hct);rw[e1,e2]at b4;have s0:=nQ hct;have x7:=Kh hct;have b4:=Kh b4;clear e1 e2 hct H6 e9 e4 a4 a3 H3 h0 H1 H4 b7 H9;go_wp2_with fail;refine b4.out.mono ?_;rintro e w5 ⟨rfl,h7⟩;have m6:=Kh (h9.out.grow h7);clear h7 o0 o1 o2 q0 q1 q2 q3 q4 q5;have H6:=m6.out.cells.1;rw[b3.out]at H6;have g3:=Kh H6;clear H6;go_upto_region 20 with (first|(at_make;refine cJ rfl _ _ _ rfl wF rfl .i64 .i64 _ _ c rfl rfl rfl rfl ?b1 ?b2 ?_;(case b1=>omega);(case b2=>(unfold maxLen;omega));intro w6 h1 c6 b6;(have k4:=zB g3.out c6);(obtain⟨d0,d1,d2⟩:=uK k4);(have f2:=zA k4 2))|fail);obtain⟨ag,c8⟩:=Nm w5.heap.size;obtain⟨w7,j4⟩:=Nm (w6.setCell ⟨o,2,none⟩ (.slice (some ⟨w5.heap.size,0,none⟩) c c));rw[show List.replicate c (Value.bool false)=bls (List.replicate c false) by simp[bls],<-c8,<-qGN I Ls k c]at h1
  have m4:Hid (CoS I w4 o k pg c4 Ls js sI cI sP cP (.slice (some ⟨ag,0,none⟩) c c) [⟨w4.heap.size,4,.slice (some ⟨ag,0,none⟩) c c,c,bls (jH I Ls k c 0),1⟩] w7):=Kh (by
   rw[j4,<-c8];have:=m6.out.begin (ag:=ag) (c:=c) (xs:=jH I Ls k c 0) c6 (by rw[c8];rw[c8]at h1;exact h1)
   exact this)
  rw[<-j4,<-c8];clear h1 c6 b6 k4 d0 d1 d2 f2 c8 j4 g3 m6 h9 x9;obtain⟨o0,o1,o2⟩:=uK m4.out.cells.1;clear o0 o1;go_wp2
  go_loopg [13,14,15,16,81] c (fun gh a13 a14 a15 a16 a81 wr=>∃i:Nat,gh+i=c/\a81=.int .i64 i/\CoS I w4 o k pg c4 Ls js sI cI sP cP (.slice (some ⟨ag,0,none⟩) c c) [⟨w4.heap.size,4,.slice (some ⟨ag,0,none⟩) c c,c,bls (jH I Ls k c i),1⟩] wr)
  case atStart=>exact⟨0,rfl,rfl,m4.out⟩
  clear m4 o2;obtain⟨i,o5,rfl,H3⟩:=hrel;have m0:=Kh o5;have h9:=Kh H3;clear o5 H3;by_cases hi:i<c
  ·have r9:(i:Int)<c:=by omega
   go_wp2
   go_loopg [14,15,16] k (fun gh a14 a15 a16 wx=>∃(b r v q:Nat) (z:Int),gh=b/\a14=.int .i64 (r:Int)/\a15=.int .i64 (v:Int)/\a16=.int .i64 z/\z=(b:Int)-1/\b<=k/\r<=2000/\v<an/\valC I.tab (imI I) Ls b r v=valC I.tab (imI I) Ls k i 0/\wx=wr.drewN q)
   case atStart=>exact⟨k,i,0,0,(k:Int)-1,rfl,rfl,rfl,by go_num,rfl,Nat.le_refl _,by omega,by have:=h2.out.1.2.2.1;have:=HN.out;omega,rfl,rfl⟩
   obtain⟨b,r,v,q,z,o7,rfl,rfl,rfl,hz,z0,hr,hv,h3,rfl⟩:=hrel;have p8:=Kh h3;have x2:=Kh o7;have H5:=h9.out.grow (zS wr q none);have x8:=Kh H5;clear h3 o7;rcases b with _|b
   ·obtain rfl:z = -1:=by omega
    have h4:=H5.g;obtain⟨q0,q1,q2,q3,q4,q5⟩:=yD (g0.out _ h4).1;have e0:v=valC I.tab (imI I) Ls k i 0:=p8.out;have c1:=(AR.out.kept h4 (by simp)).boolQ v (by rw[<-m8.out];exact hv);have x5:=Kh e0;clear H5 h4 e0 hz q0 q1 q2 q3 q5;go_upto_region 29 with fail;refine qQR x8.out hi s0 hv r7 ⟨a1,a2⟩ q4 c1 ?_;intro z119 z120 z121 z122 z123 z124 z125 z126 z127 w8 h8;rw[x5.out,qJX hi]at h8;have H8:=Kh h8;clear h8 c1 q4;go_wp2;go_roundg (c-(i+1))
    case measure=>have:=m0.out;omega
    exact⟨i+1,by have:=m0.out;omega,by go_num,H8.out⟩
   obtain rfl:z=(b:Int):=by omega
   have h4:=h9.out.g;obtain⟨q0,q1,q2,q3,q4,q5⟩:=yD (g0.out _ h4).1;have e7:b<k:=(by omega);obtain⟨c5,n7,_⟩:=c9.out.pow b (by exact e7);obtain⟨rb,ro,rc,cr,rc1,rc2,cel⟩:=h9.out.row (b:=b) (by rw[b3.out];exact e7) (by omega) (by rw[b3.out];exact Nat.le_refl _);obtain⟨L,hL⟩:=Nm (Ls.getD b 0);rw[<-hL]at cr rc1 cel n7 c5;have s4:0<L:=by omega
   have k0:(imI I).getD b 0<I.tab.length:=by
    obtain⟨y,ey,hy⟩:=aP h2.out.2.2.2 (i:=b) (by rw[<-HK.out];exact e7);rw[imI,xW (x:=0) (by rw[<-HK.out];exact e7),ey,Int.toNat_natCast];exact hy
   have s3:L<=an:=by rw[HN.out];exact gX b0.out.1 k0 c5
   obtain⟨t,ht⟩:=Nm (r % L);obtain⟨s,hs⟩:=Nm (r / L);have n4:t<L:=(by rw[ht];exact Nat.mod_lt _ s4);have r5:s<=r:=by rw[hs];exact Nat.div_le_self _ _
   have ce:=cel t n4;obtain⟨x,hx⟩:=Nm (powN I.tab ((imI I).getD b 0) t);rw[<-hx]at ce;have d5:x<an:=(by rw[hx,HN.out];exact aG b0.out.1 k0 t);have i4:=HQ.out.kept h4 (row:=none) (by simp);have cv:=i4.hd v (by rw[<-HN.out];exact hv);have cx:=i4.el v x (by rw[<-HN.out];exact hv) (by rw[<-HN.out];exact d5);have cc:=i4.cap v (by rw[<-HN.out];exact hv);rw[<-HN.out]at cv cc;obtain⟨y,hy⟩:=Nm (entN I.tab v x);rw[<-hy]at cx;have r4:y<an:=(by rw[hy,HN.out];exact pB b0.out.1 (by rw[<-HN.out];exact hv) (by rw[<-HN.out];exact d5));have s9:Hid (valC I.tab (imI I) Ls b s y=valC I.tab (imI I) Ls k i 0):=Kh (by rw[<-p8.out,valC,<-hL,<-ht,<-hx,<-hy,<-hs]);have f4:(r:Int).tmod (L:Int)=(t:Int):=by rw[ht];exact Int.ofNat_tmod r L
   have g4:(r:Int).tdiv (L:Int)=(s:Int):=by rw[hs];exact Int.ofNat_tdiv r L
   have f6:IntKind.i64.wrap (t:Int)=(t:Int):=xR (by omega);have g6:wrap64 (s:Int)=(s:Int):=IntWalk.wrap64_in _ (by omega);have y7:¬(L:Int)=0:=by omega
   have z6:(b:Int)<k:=(by omega);have y5:(v:Int)<an:=(by omega);have y0:(x:Int)<an:=(by omega);have y6:(t:Int)<L:=(by omega);have cc1:=cc.1;have cc2:RC v<=9223372036854775807:=by have:=cc.2;unfold maxLen at this;omega
   have rc2':rc<=9223372036854775807:=by unfold maxLen at rc2;omega
   obtain⟨rv,j8⟩:=Nm (RB v);obtain⟨rw',j7⟩:=Nm (RO v);obtain⟨rz,j6⟩:=Nm (RC v);rw[<-j8,<-j7]at cx;rw[<-j8,<-j7,<-j6]at cv;rw[<-j6]at cc1 cc2;have z5:(0:Int)<=b:=by omega
   clear j8 j7 j6 cc rc2 H5 h4 c5 n7 cel hL k0 ht hs hx i4 hy hz q0 q2 q3 q4 q5 n4;go_wp2
   go_quiet (fail)
   clear f4 f6;go_wp2;go_roundg b
   case measure=>have:=x2.out;omega
   exact⟨b,s,y,_,(b:Int)-1,rfl,by go_num,by go_num,by go_num,rfl,Nat.le_of_lt e7,Nat.le_trans r5 hr,r4,s9.out,by first|rfl|exact World.drewN_drewN _ _ _⟩
  have k1:c=i:=by have:=m0.out;omega
  have r9:¬(i:Int)<c:=(by omega);have z8:=Kh k1;obtain⟨o0,o1,o2⟩:=uK h9.out.cells.1;rw[b3.out]at o0 o1;have h0:=h9.out.g;have d3:=Kh (zB h5.out h0);have x1:=Kh (g0.out _ h0).2;obtain⟨r0,r1,r2⟩:=uK d3.out;have f0:=zA d3.out 0;have f1:=zA d3.out 1;have f2:=zA d3.out 2;have k2:=h9.out.cntT;rw[b3.out,<-k1]at k2;have m2:=Kh k2;clear h0 k1 k2;go_wp2;refine bodyPost_ret (v:=.tuple #[.agg #[.slice sI k cI,.slice sP k cP,.slice (some ⟨ag,0,none⟩) c c],.int .i64 0]) (by simp[results,Try.results16,go_sem,r0,r1,r2]) rfl ?_;obtain⟨j5,H2⟩:=aX d3.out (.slice sI k cI) (.slice sP k cP) (.slice (some ⟨ag,0,none⟩) c c)
  have j9:∀e',e'≠28->∀j,(some (P+1):Option Nat)=some j->wr.heap.size<=j\/yZ wr e' j:=fun e' he j hj=>by
   have hj:=Oj hj;subst hj;exact .inr ⟨_,_,_,d3.out,fun e1=>he e1.symm⟩
  have hz:=H2.size;have e1:ints (vX js)=nats js:=lU js;have e2:ints (vX (perL Ls js))=nats (perL Ls js):=lU _;have n6:=((m2.out.1.kept H2 (j9 _ (by decide))).mono hz).row;have n5:=((m2.out.2.1.kept H2 (j9 _ (by decide))).mono hz).row;have r6:=((m2.out.2.2.kept H2 (j9 _ (by decide))).mono hz).row;rw[<-e1]at n6;rw[<-e2]at n5;exact⟨.inr ⟨⟨vX js,vX (perL Ls js),jH I Ls k c c⟩,_,rfl,b9.out,c0.out.symm,qLI.make l9.out c9.out x7.out,_,_,_,rfl,n6,n5,r6⟩,zC x1.out H2 (fun j e=>by have e:P+1=j:=Oj e;have:=f3.out;omega)⟩
theorem RowT.litQ {B:Nat}{e:TypeId}{w:World}{b:Nat}{cs:Array Value}{m:Nat×Nat}{n:Nat}(h:w.heap[b]?=some (.cells cs e m))(hb:b<B)(hn:cs.size=n)(hm:n<=maxLen):RowT B e w (.slice (some ⟨b,0,none⟩) n n) cs.toList :=
 .inr ⟨b,0,n,cs,m,by simp[hn],hb,by simp[hn],hm,h,fun i hi=>by
  rw[Nat.zero_add]
  have:i<cs.size:=by simpa using hi
  simp[this]⟩
theorem qRU (w:World):∃w',w'=(((((w.alloc (.cells #[.bool false,.bool false,.bool false,.bool true] 4)).alloc (.cells #[.int .i64 1] 3)).alloc (.cells #[.int .i64 2] 3)).alloc (.cells #[.int .i64 3] 3)).alloc (.cells #[.int .i64 3] 3)).alloc (.cells #[.slice (some ⟨w.heap.size+1,0,none⟩) 1 1,.slice (some ⟨w.heap.size+1+1,0,none⟩) 1 1,.slice (some ⟨w.heap.size+1+1+1,0,none⟩) 1 1,.slice (some ⟨w.heap.size+1+1+1+1,0,none⟩) 1 1] 22)/\w.grownBy w' none/\tO w'.heap.size w' (.agg #[.int .i64 1,.int .i64 0,.slice (some ⟨w.heap.size,0,none⟩) 4 4,.slice (some ⟨w.heap.size+1+1+1+1+1,0,none⟩) 4 4]) dQ:=by
 obtain⟨w1,h8⟩:=Nm (w.alloc (.cells #[.bool false,.bool false,.bool false,.bool true] 4));obtain⟨w2,h7⟩:=Nm (w1.alloc (.cells #[.int .i64 1] 3));obtain⟨w3,h6⟩:=Nm (w2.alloc (.cells #[.int .i64 2] 3));obtain⟨w4,h5⟩:=Nm (w3.alloc (.cells #[.int .i64 3] 3));obtain⟨w5,h4⟩:=Nm (w4.alloc (.cells #[.int .i64 3] 3));obtain⟨w6,h0⟩:=Nm (w5.alloc (.cells #[.slice (some ⟨w.heap.size+1,0,none⟩) 1 1,.slice (some ⟨w.heap.size+1+1,0,none⟩) 1 1,.slice (some ⟨w.heap.size+1+1+1,0,none⟩) 1 1,.slice (some ⟨w.heap.size+1+1+1+1,0,none⟩) 1 1] 22));have g1:w.grownBy w1 none:=by rw[h8];exact Ga _ _ _
 have g2:w1.grownBy w2 none:=by rw[h7];exact Ga _ _ _
 have g3:w2.grownBy w3 none:=by rw[h6];exact Ga _ _ _
 have g4:w3.grownBy w4 none:=by rw[h5];exact Ga _ _ _
 have g5:w4.grownBy w5 none:=by rw[h4];exact Ga _ _ _
 have g6:w5.grownBy w6 none:=by rw[h0];exact Ga _ _ _
 have z1:w1.heap.size=w.heap.size+1:=by rw[h8,zU]
 have z2:w2.heap.size=w.heap.size+2:=by rw[h7,zU,z1]
 have z3:w3.heap.size=w.heap.size+3:=by rw[h6,zU,z2]
 have z4:w4.heap.size=w.heap.size+4:=by rw[h5,zU,z3]
 have z5:w5.heap.size=w.heap.size+5:=by rw[h4,zU,z4]
 have z6:w6.heap.size=w.heap.size+6:=by rw[h0,zU,z5]
 have g36:=zC (zC g4 g5) g6;have g26:=zC g3 g36;have g16:=zC g2 g26;have b1:w6.heap[w.heap.size]?=some (.cells #[.bool false,.bool false,.bool false,.bool true] 4 (0,0)):=zB (by rw[h8];exact heap_alloc_new w _) g16;have b2:w6.heap[w.heap.size+1]?=some (.cells #[.int .i64 1] 3 (0,0)):=zB (by rw[h7,<-z1];exact heap_alloc_new w1 _) g26;have b3:w6.heap[w.heap.size+1+1]?=some (.cells #[.int .i64 2] 3 (0,0)):=zB (by rw[h6,<-z2];exact heap_alloc_new w2 _) g36;have b4:w6.heap[w.heap.size+1+1+1]?=some (.cells #[.int .i64 3] 3 (0,0)):=zB (zB (by rw[h5,<-z3];exact heap_alloc_new w3 _) g5) g6;have b5:w6.heap[w.heap.size+1+1+1+1]?=some (.cells #[.int .i64 3] 3 (0,0)):=zB (by rw[h4,<-z4];exact heap_alloc_new w4 _) g6;have b6:w6.heap[w.heap.size+1+1+1+1+1]?=some (.cells #[.slice (some ⟨w.heap.size+1,0,none⟩) 1 1,.slice (some ⟨w.heap.size+1+1,0,none⟩) 1 1,.slice (some ⟨w.heap.size+1+1+1,0,none⟩) 1 1,.slice (some ⟨w.heap.size+1+1+1+1,0,none⟩) 1 1] 22 (0,0)):=by rw[h0,<-z5];exact heap_alloc_new w5 _
 have m1:1<=maxLen:=by unfold maxLen;omega
 have m4:4<=maxLen:=by unfold maxLen;omega
 refine⟨w6,by rw[h0,h4,h5,h6,h7,h8],zC g1 g16,_,_,rfl,?_,?_⟩
 ·exact(RowT.litQ b1 (by omega) rfl m4).row
 refine Mat.of_rowT (RowT.litQ b6 (by omega) rfl m4) ⟨rfl,fun i h1 h2=>?_⟩ (Nat.le_refl _);have h3:i<4:=h2;rcases (by omega:i=0\/i=1\/i=2\/i=3) with rfl|rfl|rfl|rfl
 ·exact RowT.litQ b2 (by omega) rfl m1
 ·exact RowT.litQ b3 (by omega) rfl m1
 ·exact RowT.litQ b4 (by omega) rfl m1
 exact RowT.litQ b5 (by omega) rfl m1
theorem qRY (w:World):∃w',w'=((w.alloc (.cells #[.int .i64 3] 3)).alloc (.cells #[.int .i64 1] 3)).alloc (.cells #[.bool false,.bool false,.bool false,.bool true] 4)/\w.grownBy w' none/\qH w'.heap.size w' (.agg #[.slice (some ⟨w.heap.size,0,none⟩) 1 1,.slice (some ⟨w.heap.size+1,0,none⟩) 1 1,.slice (some ⟨w.heap.size+1+1,0,none⟩) 4 4]) cQ:=by
 obtain⟨w1,h2⟩:=Nm (w.alloc (.cells #[.int .i64 3] 3));obtain⟨w2,h1⟩:=Nm (w1.alloc (.cells #[.int .i64 1] 3));obtain⟨w3,h0⟩:=Nm (w2.alloc (.cells #[.bool false,.bool false,.bool false,.bool true] 4));have g1:w.grownBy w1 none:=by rw[h2];exact Ga _ _ _
 have g2:w1.grownBy w2 none:=by rw[h1];exact Ga _ _ _
 have g3:w2.grownBy w3 none:=by rw[h0];exact Ga _ _ _
 have z1:w1.heap.size=w.heap.size+1:=by rw[h2,zU]
 have z2:w2.heap.size=w.heap.size+2:=by rw[h1,zU,z1]
 have z3:w3.heap.size=w.heap.size+3:=by rw[h0,zU,z2]
 have g23:=zC g2 g3;have b1:w3.heap[w.heap.size]?=some (.cells #[.int .i64 3] 3 (0,0)):=zB (by rw[h2];exact heap_alloc_new w _) g23;have b2:w3.heap[w.heap.size+1]?=some (.cells #[.int .i64 1] 3 (0,0)):=zB (by rw[h1,<-z1];exact heap_alloc_new w1 _) g3;have b3:w3.heap[w.heap.size+1+1]?=some (.cells #[.bool false,.bool false,.bool false,.bool true] 4 (0,0)):=by rw[h0,<-z2];exact heap_alloc_new w2 _
 have m1:1<=maxLen:=by unfold maxLen;omega
 have m4:4<=maxLen:=by unfold maxLen;omega
 exact⟨w3,by rw[h0,h1,h2],zC g1 g23,_,_,_,rfl,(RowT.litQ b1 (by omega) rfl m1).row,(RowT.litQ b2 (by omega) rfl m1).row,(RowT.litQ b3 (by omega) rfl m4).row⟩
theorem qSR {w w':World}{e:Ending}(h:qLD dQ w e w'):∃v,e=.returned (.tuple #[v,.int .i64 0])/\iS w'.heap.size w' v sQ/\w.grownBy w' none:=by
 rcases h with ⟨c,h1,h2,h3,h4,h5⟩|⟨S,v,h1,h2,h3,h4⟩
 ·exact absurd qPU ((h4 qFD).2 sQ)
 obtain rfl:=h2.eq qPU;exact⟨v,h1,h3,h4⟩
theorem qRV {w w':World}{e:Ending}(h:qPN sQ.I w e w'):∃v,e=.returned (.tuple #[v,.int .i64 0])/\qH w'.heap.size w' v cQ/\w.grownBy w' none:=by
 rcases h with ⟨⟨z,h1,h2⟩|⟨c,v,h1,h2,h3,h4,h5⟩,h6⟩
 ·rcases h2 with ⟨_,h2⟩|⟨_,_,h2⟩|⟨_,_,_,h2⟩
  ·exact absurd qPR h2
  ·rw[qRW]at h2;cases h2
  exact absurd h2 qQS
 obtain rfl:=qTB h4;exact⟨v,h1,h5,h6⟩
theorem qDO (w:World):Calls Try.prog 11 #[] w fun e w'=>e=.returned (.bool true)/\w.grownBy w' none:=by
 obtain⟨w6,H2,a4,h7⟩:=qRU w;obtain⟨fb,h6⟩:=Nm w.heap.size;obtain⟨nb,h5⟩:=Nm (w.heap.size+1+1+1+1+1);rw[<-h5,<-h6]at h7;obtain⟨b0,c4,b2,c3⟩:=K4 H2 h6 h5 a4;have b1:=Kh (qQJ w6.heap.size w6 _ dQ (Nat.le_refl _) h7);clear H2 a4 h7 h6 h5;go_enter Try.func11,Try.ntmps11;go_wp2_with fail;rw[<-b0.out,<-b2.out,<-c4.out];refine b1.out.mono ?_;rintro e w7 h0;obtain⟨v,rfl,h1,a3⟩:=qSR h0.ret;have c2:=Kh (zC c3.out a3);have h4:=h1.toI;obtain⟨vT,vW,vI,vA,vP,rfl,hT,hW,hI,hA,hP⟩:=id h4;obtain⟨tA,tC,rfl⟩:=hT.shape;obtain⟨wA,wC,rfl⟩:=hW.shape;obtain⟨iA,iC,rfl⟩:=hI.shape;obtain⟨aA,aC,rfl⟩:=hA.shape;obtain⟨pA,pC,rfl⟩:=hP.shape;obtain⟨n1,H7⟩:=Nm sQ.I.tab.length;obtain⟨n2,H6⟩:=Nm ((rI sQ.I.words).length);obtain⟨n3,H5⟩:=Nm ((ints sQ.I.images).length);obtain⟨n4,H4⟩:=Nm ((bls sQ.I.accept).length);obtain⟨n5,H3⟩:=Nm ((bls sQ.I.plus).length);obtain⟨ik,a1⟩:=Nm sQ.I.k;rw[<-H7,<-H6,<-H5,<-H4,<-H3,<-a1]at h4⊢;have b3:=Kh h4;clear hT hW hI hA hP H7 H6 H5 H4 H3 a1 h0 h1 h4 a3;go_upto_region 2 with fail;obtain⟨P,hP⟩:=Nm w7.heap.size;obtain⟨w8,h3⟩:=Nm (w7.alloc (.cells #[.int .i64 ik,.slice tA n1 tC,.slice wA n2 wC,.slice iA n3 iC,.slice aA n4 aC,.slice pA n5 pC] 44));have g8:w7.grownBy w8 none:=by rw[h3];exact Ga w7 _ none
 have b8:=heap_alloc_new w7 (.cells #[.int .i64 ik,.slice tA n1 tC,.slice wA n2 wC,.slice iA n3 iC,.slice aA n4 aC,.slice pA n5 pC] 44);rw[<-h3,<-hP]at b8;rw[<-h3,<-hP];obtain⟨q0,q1,q2,q3,q4,q5⟩:=yD b8;have c1:=Kh (zC c2.out g8);have c5:=Kh (qKT w7.heap.size w8 _ sQ.I g8.size (b3.out.kept g8));clear g8 b8 h3 hP;go_wp2_with fail;refine c5.out.mono ?_;rintro e w9 h0;obtain⟨v,rfl,hc,a2⟩:=qRV h0;have c0:=Kh (zC c1.out a2);obtain⟨vI,vP,vA,rfl,hi,hp,ha⟩:=id hc;obtain⟨jA,jC,rfl⟩:=hi.shape;obtain⟨kA,kC,rfl⟩:=hp.shape;obtain⟨lA,lC,rfl⟩:=ha.shape;obtain⟨m1,a0⟩:=Nm ((ints cQ.idx).length);obtain⟨m2,H9⟩:=Nm ((ints cQ.per).length);obtain⟨m3,H8⟩:=Nm ((bls cQ.acc).length);rw[<-a0,<-H9,<-H8]at hc⊢;have HC:=Kh hc;clear hi hp ha a0 H9 H8 h0 hc a2 q0 q1 q2 q3 q4 q5;go_upto_region 3 with fail;obtain⟨R,hR⟩:=Nm w9.heap.size;obtain⟨wA',h2⟩:=Nm (w9.alloc (.cells #[.slice jA m1 jC,.slice kA m2 kC,.slice lA m3 lC] 28));have gA:w9.grownBy wA' none:=by rw[h2];exact Ga w9 _ none
 have bA:=heap_alloc_new w9 (.cells #[.slice jA m1 jC,.slice kA m2 kC,.slice lA m3 lC] 28);rw[<-h2,<-hR]at bA;rw[<-h2,<-hR];have d0:=Kh bA;have b9:=Kh (zC c0.out gA);have a8:=Kh (HC.out.kept gA);obtain⟨p0,p1,p2⟩:=uK bA;clear gA bA h2 hR;obtain⟨wB,H1,gB,hB⟩:=qRY wA';have a9:=Kh H1;have b7:=Kh (zC b9.out gB);have a6:=Kh (qKQ w9.heap.size wB.heap.size wB _ _ cQ cQ (a8.out.kept gB) hB);rw[show (decide (cQ.idx=cQ.idx) && decide (cQ.per=cQ.per) && decide (cQ.acc=cQ.acc))=true by simp]at a6;have c9:=Kh (zB d0.out gB);have c7:=Kh (a8.out.kept gB);clear H1 gB hB;go_wp2_with fail;rw[<-a9.out];refine a6.out.mono ?_;rintro e wC' ⟨rfl,gC⟩;have b6:=Kh (zC b7.out gC);have h8:=zB c9.out gC;have c8:=Kh h8;have a7:=Kh (c7.out.kept gC);obtain⟨p0,p1,p2⟩:=uK h8;clear gC h8;go_wp2_with fail;have H0:=iR w9.heap.size wC' _ cQ ⟨#[97,97,97,97]⟩ a7.out (by unfold maxLen;decide);rw[qJW.1]at H0;refine H0.mono ?_;rintro e wD' ⟨rfl,gD⟩;have b5:=Kh (zC b6.out gD);have a5:=zB c8.out gD;have c6:=Kh (a7.out.kept gD);obtain⟨p0,p1,p2⟩:=uK a5;clear gD a5 H0;go_wp2_with fail;have h9:=iR w9.heap.size wD' _ cQ ⟨#[97,97]⟩ c6.out (by unfold maxLen;decide);rw[qJW.2]at h9;refine h9.mono ?_;rintro e wE' ⟨rfl,gE⟩;have b4:=Kh (zC b5.out gE);clear gE h9;go_wp2;go_ret;exact⟨rfl,b4.out⟩
end Go.Proofs.Ytobakifdllameaa
namespace Go.Proofs.Ytobakifdllameaa
open Go.RowKit
theorem ctraw_walk (B:Nat)(w:World)(vi vp va:Value)(c:CntV)(s:ByteArray)(hB:B<=w.heap.size)(hi:Row B w vi (ints c.idx))(hp:Row B w vp (ints c.per))(ha:Row B w va (bls c.acc))(hs:s.size<=maxLen):Calls Try.prog 4 #[.agg #[vi,vp,va],.string s] w fun e w'=>e=.returned (.bool true)/\w.grownBy w' none:=by
 have h:qH B w (.agg #[vi,vp,va]) c:=⟨_,_,_,rfl,hi,hp,ha⟩;have l1:=hi.len_le;have l2:=hp.len_le;have l3:=ha.len_le;obtain⟨iA,iC,rfl⟩:=hi.shape;obtain⟨pA,pC,rfl⟩:=hp.shape;obtain⟨aA,aC,rfl⟩:=ha.shape;obtain⟨il,h8⟩:=Nm ((ints c.idx).length);obtain⟨pl,h7⟩:=Nm ((ints c.per).length);obtain⟨al,h9⟩:=Nm ((bls c.acc).length);rw[<-h8,<-h7,<-h9]at h⊢;rw[<-h8]at l1;rw[<-h7]at l2;rw[<-h9]at l3;obtain⟨wA,H0⟩:=Nm (w.alloc (.cells #[.slice iA il iC,.slice pA pl pC,.slice aA al aC] 28));have h0:=Ga w (.cells #[.slice iA il iC,.slice pA pl pC,.slice aA al aC] 28) none;have h6:=heap_alloc_new w (.cells #[.slice iA il iC,.slice pA pl pC,.slice aA al aC] 28);obtain⟨P,hP⟩:=Nm w.heap.size;rw[<-H0]at h0 h6;rw[<-hP]at h6;obtain⟨p0,p1,p2⟩:=uK h6;have H3:=Kh (qLA B wA _ c s (h.kept h0) (by have:=h0.size;omega) hs);obtain⟨H4,H5,h5⟩:=K3 H0 hP h0;unfold maxLen at l1 l2 l3 hs;clear h hi hp ha h8 h7 h9 H0 h0 h6 hP;go_enter Try.func4,Try.ntmps4;go_upto_region 1 with fail;rw[<-H4.out,<-H5.out];by_cases h1:(10:Int)<il
 ·go_wp2
  go_ret;exact⟨rfl,h5.out⟩
 by_cases h2:(10:Int)<pl
 ·go_wp2
  go_ret;exact⟨rfl,h5.out⟩
 by_cases h3:(300:Int)<al
 ·go_wp2
  go_ret;exact⟨rfl,h5.out⟩
 by_cases h4:(60:Int)<s.size
 ·go_wp2
  go_ret;exact⟨rfl,h5.out⟩
 go_wp2_with fail;refine H3.out.mono ?_;rintro e w2 ⟨rfl,H2⟩;have H7:=Kh (zC h5.out H2);clear H2 H3;go_wp2_with fail;refine(qDO w2).mono ?_;rintro e w3 ⟨rfl,H1⟩;have H6:=Kh (zC H7.out H1);clear H1;go_wp2;go_ret;exact⟨rfl,H6.out⟩
end Go.Proofs.Ytobakifdllameaa
namespace Go.Proofs.Ytobakifdllameaa
open Go.ChangeShapes Go.Deep Go.RowKit Go.WideShapes
section
variable {H:Type} {enc:TypeId×Value->H} {w:World} {fuel:Nat} {cs:List Value} {x:DataW H×List MemPlace}
theorem qBG {t e:TypeId}{k:IntKind}{base:Nat}{a9:Bool}{P:Program}(ht:P.underlying t=some (.slice e))(he:P.underlying e=some (.int k))(hc:P.cellsOf e=1)(h:DataW.trod enc P w base (fun _=>true) a9 fuel t cs=some x):∃(v:Value) (zs:List Int),cs=[v]/\Row w.heap.size w v (zs.map (Value.int k)):=by
 rcases open_ints ht he hc h with ⟨hcs,_⟩|⟨a,l,c,zs,hcs,_,hl,hm,hz,_,hcell,hwz⟩
 ·exact⟨_,[],hcs,.inl ⟨_,_,rfl,rfl⟩⟩
 exact⟨_,zs.take l,hcs,Row.of_arg (.inr ⟨a,rfl,hl,hm,by simpa using hz,hcell,hwz⟩)⟩
theorem qJE {a9:Bool}(h:DataW.trod enc Try.prog w 0 (fun _=>true) a9 fuel 26 cs=some x):∃(v:Value) (bs:List Bool),cs=[v]/\Row w.heap.size w v (bls bs):=by
 rcases open_slice Try.underlying26 h with ⟨hcs,_⟩|⟨a,len,cap,m,n,D,Pl,hcs,_,hl,hm,hmm,_,hall⟩
 ·exact⟨_,[],hcs,.inl ⟨_,_,rfl,rfl⟩⟩
 by_cases h0:len=0
 ·subst h0
  exact⟨_,[],hcs,.inl ⟨_,_,rfl,rfl⟩⟩
 simp only[if_true]at hmm;subst hmm;have c5:Try.prog.cellsOf 4=1:=by kernel_rfl
 rw[c5]at hall
 have each:∀i,i<m->∃st:Bool,w.cells? 0 (a.add (i*1)) 1=some [.bool st]:=fun i hi=>by
  obtain⟨cs',h1,h2⟩:=hall i hi;obtain⟨b,rfl,_⟩:=DataW.trod_bool Try.underlying4 h2;exact⟨b,h1⟩
 obtain⟨S,hS⟩:=choose_lt each;obtain⟨b,off,spot⟩:=a
 have h3:∀i,i<m->w.cell? (((⟨b,off,spot⟩:Addr).add (i*1)).add 0)=some (.bool (S i)):=fun i hi=>by
  have:=(World.cells?_some (hS i hi)).2.2 0 (by omega);simpa using this
 have h6:w.cell? ((⟨b,off,spot⟩:Addr).add 0)=some (.bool (S 0)):=by simpa [Addr.add] using h3 0 (by omega)
 have h4:spot=none:=by simpa [Addr.add] using World.cell?_spot h6
 subst h4;have h5:∀o i,(⟨b,o,none⟩:Addr).add i=⟨b,o+i,none⟩:=fun o i=>by unfold Addr.add;split<;>simp_all
 simp only[h5]at h3;have hb:b<w.heap.size:=World.block_lt_of_cell? w _ (by rw[h5]at h6;exact h6);refine⟨_,(List.range len).map S,hcs,.inr ⟨b,off,m,by simp[bls],hb,by simpa [bls] using hl,hm,hb,fun i hi=>?_⟩⟩;have h7:i<len:=by simpa [bls] using hi
 have:=h3 i (by omega);simp only[Nat.mul_one,Nat.add_zero]at this;rw[this];simp[bls]
theorem trod_cnt {a9:Bool}(h:DataW.trod enc Try.prog w 0 (fun _=>true) a9 fuel 28 cs=some x):∃(pv qv rv:Value) (g:CntV),cs=[pv,qv,rv]/\(Row w.heap.size w pv (ints g.idx)/\Row w.heap.size w qv (ints g.per)/\Row w.heap.size w rv (bls g.acc)):=by
 obtain⟨xs,n,_,_,hl,h3,hf⟩:=DataW.trod_struct Try.underlying28 h;have c0:Try.prog.cellsOf 22=1:=by kernel_rfl
 have c1:Try.prog.cellsOf 26=1:=by kernel_rfl
 have h4:cs.length=3:=hl.trans (by kernel_rfl);have key:∀i,i<3->∃y,xs[i]?=some y:=fun i hi=>⟨xs[i]'(by simp at h3;omega),List.getElem?_eq_getElem _⟩
 match cs,h4 with
 | [a,b,c],_ =>
  obtain⟨y0,e0⟩:=key 0 (by omega);obtain⟨y1,e1⟩:=key 1 (by omega);obtain⟨y2,e2⟩:=key 2 (by omega);have f0:=(hf 0 _ rfl).trans e0;have f1:=(hf 1 _ rfl).trans e1;have f2:=(hf 2 _ rfl).trans e2;simp[c0,c1]at f0 f1 f2;obtain⟨v0,z0,g0,h0⟩:=qBG Try.underlying22 Try.underlying3 (by kernel_rfl) f0;obtain⟨v1,z1,g1,h1⟩:=qBG Try.underlying22 Try.underlying3 (by kernel_rfl) f1;obtain⟨v2,bs,g2,h2⟩:=qJE f2;simp[Value.cells]at g0 g1 g2;subst g0 g1 g2;exact⟨_,_,_,⟨z0,z1,bs⟩,rfl,h0,h1,h2⟩
end
end Go.Proofs.Ytobakifdllameaa
