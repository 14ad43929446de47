/- Part 21 of the proof. -/
import Derived.Test.YtcoimliafiammaaGreatQa17
import Derived.Deep.OwnRows
set_option linter.unusedVariables false
set_option linter.unusedSimpArgs false
set_option maxRecDepth 100000
set_option maxHeartbeats 16000000
namespace Go.Proofs.YtcoimliafiammaaGreat
open Go.RowKit
theorem qDJ (B:Nat)(w:World)(v:Value)(g:DiaV)(letters:Int)(hB:B<=w.heap.size)(h:mB B w v g):Calls Tryz.prog 36 #[v,.int .i64 letters] w fun e w'=>e=.returned (.int .i64 (diaE g letters))/\w.grownBy w' none:=by
 obtain⟨pv,cv,rfl,hp,hc⟩:=h;obtain⟨pa,pc,rfl⟩:=hp.shape;obtain⟨ca,cc,rfl⟩:=hc.shape;have b5:=hp.len_le;have d5:=hc.len_le;unfold maxLen at b5 d5;obtain⟨ps,cs,root⟩:=g;simp only at hp hc b5 d5⊢;obtain⟨np,c9⟩:=Nm ps.length;obtain⟨nc,d0⟩:=Nm cs.length;rw[<-c9]at hp b5⊢;rw[<-d0]at hc d5⊢;have H0:=Ga w (.cells #[.slice pa np pc,.slice ca nc cc,.int .i64 root] 35) none;have b2:=heap_alloc_new w (.cells #[.slice pa np pc,.slice ca nc cc,.int .i64 root] 35);obtain⟨wA,d7⟩:=Nm (w.alloc (.cells #[.slice pa np pc,.slice ca nc cc,.int .i64 root] 35));obtain⟨P,hP⟩:=Nm w.heap.size;rw[<-d7]at H0 b2;rw[<-hP]at b2;have f2:=hp.kept H0 (by simp);have f4:=hc.kept H0 (by simp);obtain⟨p0,p1,p2⟩:=zQ b2;have f7:=H0.size;obtain⟨H4,h9,i4,i6,c5,g7⟩:=K6 c9 d0 f2 f4 b2 d7;have i5:=Kh hP;have h8:=Kh H0;have j5:Hid (B<=wA.heap.size):=Kh (by omega);clear hp hc f2 f4 H0 b2 d7 hP c9 d0 f7;go_enter Tryz.func36,Tryz.ntmps36;go_upto_region 1 with fail;rw[<-g7.out,<-i5.out];by_cases h1:letters<1\/6<letters
 ·have e1:decide (1<=letters/\letters<=6)=false:=by rw[decide_eq_false_iff_not];omega
  have H1:=Kh h1;clear h1;go_wp2_with fail;refine(yK _ letters).mono ?_;rintro e w' ⟨rfl,rfl⟩;rw[e1];go_wp2;go_ret;exact⟨yA (qCF H1.out).symm,h8.out⟩
 have e1:decide (1<=letters/\letters<=6)=true:=by rw[decide_eq_true_eq];omega
 have H1:Hid (¬(letters<1\/6<letters)):=Kh h1;clear h1;go_upto_region 1 with fail;go_wp2_with fail;refine(yK _ letters).mono ?_;rintro e w' ⟨rfl,rfl⟩;rw[e1];by_cases h3:300<np
 ·have g6:(300:Int)<np:=by omega
  go_wp2;go_ret;exact⟨yA (eC H1.out (.inl (by rw[<-H4.out];exact h3))).symm,h8.out⟩
 have g6:¬(300:Int)<np:=by omega
 by_cases h4:20000<nc
 ·have g5:(20000:Int)<nc:=by omega
  go_wp2;go_ret;exact⟨yA (eC H1.out (.inr (by rw[<-h9.out];exact h4))).symm,h8.out⟩
 have g5:¬(20000:Int)<nc:=by omega
 have H3:Hid (¬(300<ps.length\/20000<cs.length)):=Kh (by rw[<-H4.out,<-h9.out];omega);go_wp2
 go_loopg [6,7,28] np (fun gh s6 s7 i wr=>∃k:Nat,gh+k=np/\i=.int .i64 k/\vV letters (ps.drop k)=vV letters ps/\wA.grownBy wr none)
 case atStart=>exact⟨0,rfl,rfl,rfl,zH _ _⟩
 obtain⟨k,a9,rfl,f1,hg⟩:=hrel;obtain⟨H9,HG,H8⟩:=K3 a9 hg f1;clear a9 f1;by_cases hk:k<np
 ·have g0:(k:Int)<np:=by omega
  have f0:=i4.out.kept hg (by simp);obtain⟨b,off,cap,e,g4,H2,d6,h7⟩:=f0.at_ (by rw[<-H4.out];omega);rw[<-H4.out]at e H2 h7;simp only[Value.slice.injEq,true_and]at e;obtain⟨rfl,rfl⟩:=e;obtain⟨sa,sc,c1,H7,c8⟩:=h7 k hk;obtain⟨q,hq⟩:=Nm (ps.getD k []);rw[<-hq]at c1 H7 c8;have f8:pc<=9223372036854775807:=by unfold maxLen at d6;omega
  have HV:Hid (∀W:World,wr.grownBy W none->Calls Tryz.prog 58 #[.agg #[.slice sa q.length sc],.int .i64 letters] W fun e w'=>e=.returned (.int .i64 (patW q letters))/\wA.grownBy w' none):=Kh (fun W hW=>(jP B W _ q letters (H7.kept hW (by simp)) c8).mono fun e w' ⟨he,hg'⟩=>⟨he,zA HG.out (zC hW hg')⟩);have HQ:=Kh hq;obtain⟨E,hE⟩:=Nm (patW q letters);rw[<-hE]at HV;have HE:=Kh hE;obtain⟨ql,e9⟩:=Nm q.length;rw[<-e9]at c1 HV;clear f0 h7 H7 c8 hq hg hE e9;go_wp2_with fail;refine(HV.out _ (Ga wr _ none)).mono ?_;rintro e w1 ⟨rfl,H0⟩;have f5:=Kh H0;clear H0 HV;by_cases hE:E=0
  ·have e1:(E != 0)=false:=by simp[hE]
   have e4:=Kh hE;clear hE;go_wp2;go_roundg (np-(k+1))
   case measure=>have:=H9.out;omega
   exact⟨k+1,by have:=H9.out;omega,by go_num,(lL (by rw[<-H4.out];exact hk) (by rw[<-HQ.out,<-HE.out];exact e4.out)).trans H8.out,f5.out⟩
  have e1:(E != 0)=true:=by rw[bne_iff_ne];exact hE
  have e4:=Kh hE;clear hE;go_wp2;go_ret;exact⟨yA (by rw[qKS (g:=⟨ps,cs,root⟩) H1.out H3.out (k:=k) (by rw[<-H4.out];exact hk) H8.out (by rw[<-HQ.out,<-HE.out];exact e4.out)];show E=patW (ps.getD k []) letters;rw[<-HQ.out,<-HE.out]),zA h8.out (f5.out)⟩
 have f9:k=np:=by have:=H9.out;omega
 have i3:Hid (vV letters ps=0):=Kh (by rw[<-H8.out];exact jW (by rw[<-H4.out];exact hk));have H6:Hid (diaE ⟨ps,cs,root⟩ letters=bA ps.length cs root):=Kh (qKT H1.out H3.out i3.out);have a7:¬(k:Int)<np:=(by omega);obtain⟨p0,p1,p2⟩:=zQ (zB c5.out hg);clear f9 hg H9 b5;go_wp2;clear p0 p1 p2
 go_loopg [8,9,11,42,64] nc (fun gh s8 s9 s11 i s64 wr=>∃k:Nat,gh+k=nc/\i=.int .i64 k/\wT ps.length cs k/\wA.grownBy wr none)
 case atStart=>exact⟨0,rfl,rfl,cY _ _,HG.out⟩
 clear HG a7 hk;obtain⟨k,a9,rfl,f3,hg⟩:=hrel;obtain⟨H9,HG,f6⟩:=K3 a9 hg f3;clear a9 f3;by_cases hk:k<nc
 ·have g0:(k:Int)<nc:=by omega
  have d4:=i6.out.kept hg (by simp);have j4:=Kh d4;obtain⟨b,off,cap,e,g4,H2,d6,b1⟩:=d4.at_ (by rw[<-h9.out];omega);rw[<-h9.out]at e H2;simp only[Value.slice.injEq,true_and]at e;obtain⟨rfl,rfl⟩:=e;have f8:cc<=9223372036854775807:=by unfold maxLen at d6;omega
  have b6:k<cs.length:=(by rw[<-h9.out];exact hk);have c1:=b1.p k b6;have c2:=b1.y k b6;have c3:=b1.n k b6;have e6:=Kh (b1);obtain⟨c,b8⟩:=Nm (cs.getD k default);rw[<-b8]at c1 c2 c3;have HC:=Kh b8
  have a6:Hid (choB ps.length cs k=(decide (0<=c.p/\c.p<np) && (refB cs k c.p c.y && refB cs k c.p c.n))):=Kh (by
   rw[b8,H4.out];rfl)
  clear d4 b1 b6 b8;obtain⟨x,y,n⟩:=c;simp only at c1 c2 c3 a6;have H2:=heap_alloc_new wr (.cells #[.int .i64 x,.int .i64 y,.int .i64 n] 71);have b7:=Ga wr (.cells #[.int .i64 x,.int .i64 y,.int .i64 n] 71) none;obtain⟨w2,c7⟩:=Nm (wr.alloc (.cells #[.int .i64 x,.int .i64 y,.int .i64 n] 71));obtain⟨R,hR⟩:=Nm wr.heap.size;rw[<-c7]at H2 b7;rw[<-hR]at H2;obtain⟨g9,i1,i8,c0⟩:=K4 c7 hR H2 b7;have e7:=Kh (zB (zB c5.out hg) b7);obtain⟨p0,p1,p2⟩:=zQ e7.out;obtain⟨r0,r1,r2⟩:=zQ H2;clear c7 hR H2 b7 hg;go_upto_region 15 with fail;rw[<-g9.out,<-i1.out];clear c1 c2 c3;by_cases hx0:x<0
  ·have HF:Hid (choB ps.length cs k=false):=Kh (by rw[a6.out,show decide (0<=x/\x<(np:Int))=false by simp;omega];rfl)
   go_wp2;go_ret;exact⟨yA (by rw[H6.out,sV (by rw[<-h9.out];exact hk) HF.out]),zA h8.out (zA HG.out c0.out)⟩
  by_cases hx1:(np:Int)<=x
  ·have HF:Hid (choB ps.length cs k=false):=Kh (by rw[a6.out,show decide (0<=x/\x<(np:Int))=false by simp;omega];rfl)
   go_wp2;go_ret;exact⟨yA (by rw[H6.out,sV (by rw[<-h9.out];exact hk) HF.out]),zA h8.out (zA HG.out c0.out)⟩
  have e8:decide (0<=x/\x<(np:Int))=true:=by simp;omega
  rw[e8,Bool.true_and]at a6;clear e8;go_upto_region 17 with fail;have b9:=heap_alloc_new w2 (.cells #[.int .i64 y,.int .i64 n] 3);have d2:=Ga w2 (.cells #[.int .i64 y,.int .i64 n] 3) none;obtain⟨w5,c6⟩:=Nm (w2.alloc (.cells #[.int .i64 y,.int .i64 n] 3));obtain⟨R5,d8⟩:=Nm w2.heap.size;rw[<-c6]at b9 d2;rw[<-d8]at b9;obtain⟨g8,i2,i7,e0⟩:=K4 c6 d8 b9 d2;clear c6 d8 b9 d2;go_upto_region 18 with fail;rw[<-g8.out,<-i2.out];clear p0 p1 p2 r0 r1 r2;obtain⟨wo,rfl⟩:=Nm (wr:World)
  go_loopg [11,64] 2 (fun gh s11 i wq=>∃j:Nat,gh+j=2/\i=.int .i64 j/\(∀i,i<j->refB cs k x ([y,n].getD i 0)=true)/\w5.grownBy wq none)
  case atStart=>exact⟨0,rfl,rfl,fun i hi=>by omega,zH _ _⟩
  obtain⟨j,a8,rfl,h7,a5⟩:=hrel;have b3:=Kh a8;have a4:=Kh h7;have b4:=Kh (zA (zA (zA HG.out c0.out) e0.out) a5);have a0:=Kh a5;obtain⟨p0,p1,p2⟩:=zQ (zB c5.out b4.out);obtain⟨r0,r1,r2⟩:=zQ (zB (zB i8.out e0.out) a5);have d1:=zB i7.out a5;clear a8 h7;by_cases hj:j<2
  ·have g2:(j:Int)<2:=by omega
   obtain⟨r,hr⟩:=Nm ([y,n].getD j 0)
   have cj:wr.cell? ⟨R5,j,none⟩=some (.int .i64 r):=by
    have:=zJ d1 j (by simpa using hj);rw[this,hr];rcases (by omega:j=0\/j=1) with rfl|rfl<;>rfl
   have i0:=Kh hr
   have a3:Hid (refB cs k x r=false->choB ps.length cs k=false):=Kh (fun e=>by
    rw[a6.out];rcases (by omega:j=0\/j=1) with rfl|rfl
    ·have h1:r=y:=hr
     rw[<-h1,e];rfl
    have h1:r=n:=hr
    rw[<-h1,e,Bool.and_false])
   have H5:Hid (refB cs k x r=true->∀i,i<j+1->refB cs k x ([y,n].getD i 0)=true):=Kh (fun e i hi=>by
    rcases Nat.lt_succ_iff_lt_or_eq.1 hi with hi|rfl
    ·exact a4.out i hi
    rw[<-i0.out];exact e)
   have d9:Hid (k<cs.length):=Kh (by rw[<-h9.out];exact hk);have j0:(0:Int)<=k:=by omega
   clear d1 hr a5;by_cases h0:r<0
   ·have HR:Hid (refB cs k x r=false):=Kh (by simp[refB];omega)
    have hd:decide (r<0)=true:=by simpa using h0
    go_wp2
    go_quiet (fail)
    go_wp2;go_ret;exact⟨yA (by rw[H6.out,sV d9.out (a3.out HR.out)]),zA h8.out (zA b4.out (by first|exact zN _ none|exact zK _ _ none))⟩
   have j2:decide (r<0)=false:=by simpa using h0
   by_cases h1:1+(k:Int)<r
   ·have HR:Hid (refB cs k x r=false):=Kh (by simp[refB];omega)
    have hd:decide (1+(k:Int)<r)=true:=by simpa using h1
    go_wp2
    go_quiet (fail)
    go_wp2;go_ret;exact⟨yA (by rw[H6.out,sV d9.out (a3.out HR.out)]),zA h8.out (zA b4.out (by first|exact zN _ none|exact zK _ _ none))⟩
   have j1:decide (1+(k:Int)<r)=false:=by simpa using h1
   by_cases h2:r<2
   ·have HR:Hid (refB cs k x r=true):=Kh (by simp[refB];omega)
    have j3:¬2<=r:=by omega
    have g3:decide (2<=r)=false:=by simpa using h2
    go_wp2
    go_quiet (fail)
    go_wp2;go_roundg (2-(j+1))
    case measure=>have:=b3.out;omega
    exact⟨j+1,by have:=b3.out;omega,by go_num,H5.out HR.out,zA a0.out (by first|exact zN _ none|exact zK _ _ none)⟩
   have g3:decide (2<=r)=true:=by simp;omega
   obtain⟨q,hq⟩:∃q:Nat,r=(q:Int)+2:=⟨(r-2).toNat,by omega⟩;subst hq;have b0:=((e6.out.kept c0.out (by simp)).kept e0.out (by simp)).kept a0.out (by simp);have c2:=b0.p q (by have:=h9.out;omega);have e2:IntKind.i64.wrap ((q:Int)+2-2)=(q:Int):=by rw[show (q:Int)+2-2=q by omega];exact qB (by omega)
   have e3:(q:Int)+2-2=(q:Int):=by omega
   have hq:q<nc:=(by omega);have i9:(q:Int)<nc:=(by omega);obtain⟨z,hz⟩:=Nm ((cs.getD q default).p);rw[<-hz]at c2
   have HR:Hid (refB cs k x ((q:Int)+2) = !decide (z<=x)):=Kh (by
    have e:((q:Int)+2).toNat-2=q:=by omega
    simp only[refB,e,<-hz];rw[Bool.eq_iff_iff];simp only[Bool.and_eq_true,Bool.not_eq_true',decide_eq_true_eq,decide_eq_false_iff_not]
    omega)
   clear hz b0;by_cases hzx:z<=x
   ·have d3:decide (z<=x)=true:=by simpa using hzx
    rw[d3]at HR;go_wp2
    go_quiet (fail)
    go_wp2;go_ret;exact⟨yA (by rw[H6.out,sV d9.out (a3.out HR.out)]),zA h8.out (zA b4.out (by first|exact zN _ none|exact zK _ _ none))⟩
   have d3:decide (z<=x)=false:=by simpa using hzx
   rw[d3]at HR;go_wp2
   go_quiet (fail)
   go_wp2;go_roundg (2-(j+1))
   case measure=>have:=b3.out;omega
   exact⟨j+1,by have:=b3.out;omega,by go_num,H5.out HR.out,zA a0.out (by first|exact zN _ none|exact zK _ _ none)⟩
  have g1:j=2:=by have:=b3.out;omega
  have e5:Hid (choB ps.length cs k=true):=Kh (by
   have a1:=a4.out 0 (by omega);have a2:=a4.out 1 (by omega);rw[a6.out]
   rw[show refB cs k x y=true from a1,show refB cs k x n=true from a2];rfl)
  have g2:¬(j:Int)<2:=(by omega);clear g1 d1 a5;go_wp2;go_roundg (nc-(k+1))
  case measure=>have:=H9.out;omega
  exact⟨k+1,by have:=H9.out;omega,by go_num,jE f6.out e5.out,b4.out⟩
 have a7:¬(k:Int)<nc:=by omega
 have c4:=Kh (cZ (root:=root) (by rw[<-h9.out];exact hk) f6.out);rw[<-h9.out]at c4;obtain⟨p0,p1,p2⟩:=zQ (zB c5.out hg);clear hg;by_cases h5:root<0
 ·go_wp2
  go_ret;exact⟨yA (by rw[H6.out,c4.out,if_neg (by omega)]),zA h8.out (HG.out)⟩
 by_cases h6:1+(nc:Int)<root
 ·go_wp2
  go_ret;exact⟨yA (by rw[H6.out,c4.out,if_neg (by omega)]),zA h8.out (HG.out)⟩
 go_wp2;go_ret;exact⟨yA (by rw[H6.out,c4.out,if_pos (by omega)]),zA h8.out (HG.out)⟩
def tl (s:ByteArray):List UInt8:=s.data.toList
theorem xU (s:ByteArray):(tl s).length=s.size:=by simp[tl]
theorem lI (s:ByteArray)(i j:Nat):tl (s.extract i j)=((tl s).drop i).take (j-i):=by
 unfold tl;rw[ByteArray.data_extract,Array.toList_extract,List.extract_eq_take_drop]
theorem qKP (s:ByteArray){i j:Nat}(h:j<=s.size):(s.extract i j).size=j-i:=by
 rw[<-xU,lI,List.length_take,List.length_drop,xU];omega
theorem qAI (s:ByteArray)(i j:Nat):(s.extract i j).toList=((tl s).drop i).take (j-i):=by
 rw[ByteArray.toList_eq];exact lI s i j
theorem eM (s:ByteArray):s.toList=tl s:=ByteArray.toList_eq s
def NoB (r u:List UInt8)(p:Nat):Prop:=∀i,i<p->Lib.occAt r u i=false
theorem qQV {r u:ByteArray}{p:Nat}(h:p+u.size<=r.size):((r.extract p (p+u.size)).toList == u.toList)=Lib.occAt (tl r) (tl u) p:=by
 rw[qAI,eM,Lib.occAt,Bool.eq_iff_iff,beq_iff_eq,List.isPrefixOf_iff_prefix,List.prefix_iff_eq_take,xU,Nat.add_sub_cancel_left];exact eq_comm
theorem xAG {us:List (List UInt8)}{u v r:List UInt8}{f:Nat}(a8:NoB r u f)(a9:Lib.occAt r u f=true)(hf:f+u.length<=r.length):Fit (u::us) v r↔Fit us v (r.drop (f+u.length)):=by
 constructor
 ·rintro ⟨p,r',hr,h0⟩
  have h1:f<=p.length:=by
   rcases Nat.lt_or_ge p.length f with hlt|hge
   ·have:=a8 p.length hlt
    rw[fW hr]at this;cases this
   exact hge
  have hd:r.drop (p.length+u.length)=r':=by
   rw[hr,<-List.length_append,List.drop_left]
  have he:r.drop (f+u.length)=(r.drop (f+u.length)).take (p.length-f)++r':=by
   have e:r'=(r.drop (f+u.length)).drop (p.length-f):=by rw[List.drop_drop,<-hd];congr 1;omega
   rw[e,List.take_append_drop]
  rw[he];exact h0.more _
 intro h;exact⟨_,_,qKA a9 (by omega),h⟩
theorem qWZ {us:List (List UInt8)}{u v r:List UInt8}{p:Nat}(a9:NoB r u p)(hp:¬p+u.length<=r.length):¬Fit (u::us) v r:=by
 rintro ⟨q,r',hr,_⟩;have hl:=congrArg List.length hr;simp only[List.length_append]at hl;have:=a9 q.length (by omega);rw[fW hr]at this;cases this
def bR (bs:List ByteArray):List UInt8:=tl (bs.getD (bs.length-1) ⟨#[]⟩)
theorem qKN {bs:List ByteArray}{s:List UInt8}(h:bs.length=1):pC (bs.map (·.data.toList)) s↔s=tl (bs.getD 0 ⟨#[]⟩):=by
 match bs,h with
 | [b],_=>exact Iff.rfl
theorem qFK {bs:List ByteArray}{s:List UInt8}(h:2<=bs.length):pC (bs.map (·.data.toList)) s↔∃r,s=tl (bs.getD 0 ⟨#[]⟩)++r/\Fit (mid bs) (bR bs) r:=by
 match bs,h with
 | b::c::rest,_ =>
  have e:((c::rest).map (·.data.toList)).getLastD []=bR (b::c::rest):=by
   rw[List.getLastD_eq_getLast?,List.getLast?_eq_getElem?,bR];simp only[List.length_map,List.length_cons,List.getElem?_map];rw[show rest.length+1+1-1=rest.length+1 by omega,show rest.length+1-1=rest.length by omega];have h2:rest.length<(c::rest).length:=(by simp);rw[List.getElem?_eq_getElem h2,zG (show rest.length+1<(b::c::rest).length by simp)];rfl
  show (∃r,s=b.data.toList++r/\Fit ((c::rest).map (·.data.toList)).dropLast (((c::rest).map (·.data.toList)).getLastD []) r)↔_;rw[e];rfl
theorem qWI {bs:List ByteArray}{q:Nat}(h1:1<=q)(h2:q<bs.length-1):(mid bs).drop (q-1)=tl (bs.getD q ⟨#[]⟩)::(mid bs).drop q:=by
 have hl:q-1<(mid bs).length:=by rw[qL];omega
 rw[List.drop_eq_getElem_cons hl,show q-1+1=q by omega,qHQ bs (q-1) (by omega),zG (by omega)];congr 1;simp only[tl,show 1+(q-1)=q by omega]
theorem qME (w:World)(kb off cap:Nat)(bs:List ByteArray)(s:ByteArray)(h:uQ w kb off (txtV bs))(a7:bs.length<=cap)(a9:cap<=maxLen)(h0:0<bs.length)(hs:∀i (hi:i<bs.length),bs[i].size<=4096)(a8:s.size<=4096):Calls Tryz.prog 77 #[.slice (some ⟨kb,off,none⟩) bs.length cap,.string s] w fun e w'=>e=.returned (.bool (wU (bs.map (·.data.toList)) s.data.toList))/\w.grownBy w' none:=by
 have cF:=vL h 0 h0;rw[Nat.add_zero]at cF;obtain⟨b0,h7⟩:=Nm (bs.getD 0 ⟨#[]⟩);rw[<-h7]at cF;have e3:b0.size<=4096:=by rw[h7,zG h0];exact hs 0 h0
 have e2:cap<=9223372036854775807:=by unfold maxLen at a9;omega
 have h8:Hid (∀c:Bool,(c=true↔pC (bs.map (·.data.toList)) (tl s))->c=wU (bs.map (·.data.toList)) s.data.toList):=Kh (fun c hc=>by
  rw[Bool.eq_iff_iff,kI];exact hc)
 obtain⟨H,c5,HS⟩:=K3 h h7 hs
 have H4:Hid (pC (bs.map (·.data.toList)) (tl s)->tl b0 <+: tl s):=Kh (fun hf=>by
  by_cases h1:bs.length=1
  ·rw[qKN h1,<-h7]at hf
   rw[hf];exact List.prefix_refl _
  obtain⟨r,hr,_⟩:=(qFK (by omega)).1 hf;rw[<-h7]at hr
  rw[hr];exact List.prefix_append _ _)
 clear h h7 hs a9;by_cases hlt:s.size<b0.size
 ·have h9:decide ((s.size:Int)<(b0.size:Int))=true:=by rw[decide_eq_true_eq];omega
  go_enter Tryz.func77,Tryz.ntmps77;go_wp2;go_ret;refine⟨zW (h8.out _ ⟨fun h=>(by cases h),fun h=>?_⟩),zH _ _⟩;have:=(H4.out h).length_le;rw[xU,xU]at this;omega
 have h9:decide ((s.size:Int)<(b0.size:Int))=false:=by rw[decide_eq_false_iff_not];omega
 have e0:b0.size<=s.size:=by omega
 have h3:=qQV (r:=s) (u:=b0) (p:=0) (by omega);rw[Nat.zero_add]at h3;by_cases hp:Lib.occAt (tl s) (tl b0) 0=true
 case neg =>
  have b4:(!((s.extract 0 b0.size).toList == b0.toList))=true:=by rw[h3];simpa using hp
  have HP:=Kh hp;clear hp h3;go_enter Tryz.func77,Tryz.ntmps77;go_wp2;go_ret;refine⟨zW (h8.out _ ⟨fun h=>(by cases h),fun h=>absurd ?_ HP.out⟩),zH _ _⟩;rw[Lib.occAt,List.isPrefixOf_iff_prefix];exact H4.out h
 have b4:(!((s.extract 0 b0.size).toList == b0.toList))=false:=by rw[h3,hp];rfl
 obtain⟨r0,H6⟩:=Nm (s.extract b0.size s.size);have a1:r0.size<=4096:=by rw[H6,qKP s (Nat.le_refl _)];omega
 have h4:tl s=tl b0++tl r0:=by
  rw[Lib.occAt,List.isPrefixOf_iff_prefix]at hp;obtain⟨t,ht⟩:=hp;rw[List.drop_zero]at ht;rw[H6,lI,List.take_of_length_le (by rw[List.length_drop,xU];omega),<-xU b0,<-ht,List.drop_left]
 have c2:=Kh H6;have c0:=Kh h4;clear hp h3 h4 H6;by_cases h1:bs.length=1
 ·have d0:((bs.length:Int) == 1)=true:=by simp[h1]
  have H1:=Kh h1;clear h1;go_enter Tryz.func77,Tryz.ntmps77;go_wp2;rw[<-c2.out];go_ret;refine⟨zW (h8.out _ ?_),zH _ _⟩;rw[qKN H1.out,<-c5.out,c0.out,List.isEmpty_iff,eM];constructor
  ·intro h;rw[h,List.append_nil]
  intro h;simpa using h
 have d0:((bs.length:Int) == 1)=false:=by rw[beq_eq_false_iff_ne];omega
 have h2:2<=bs.length:=by omega
 obtain⟨R1,b9⟩:=Nm (bs.length-1);have e71:(bs.length:Int)-1=(R1:Int):=by omega
 have h6:R1<bs.length:=by omega
 have c9:(R1:Int)<bs.length:=by omega
 have a5:1<=R1:=by omega
 have a6:=Kh b9
 have c3:Hid (pC (bs.map (·.data.toList)) (tl s)↔Fit (mid bs) (bR bs) (tl r0)):=Kh (by
  rw[qFK h2,<-c5.out,c0.out];constructor
  ·rintro ⟨r,hr,hf⟩
   have:=List.append_cancel_left hr;rw[this];exact hf
  intro hf;exact⟨_,rfl,hf⟩)
 clear h1 b9;go_enter Tryz.func77,Tryz.ntmps77;go_wp2;rw[<-c2.out];clear cF b4 h9
 go_loopg [1,6,7,8,9] R1 (fun gh s1 i s7 s8 s9 wr=>∃(q:Nat) (r:ByteArray),gh+q=R1+1/\i=.int .i64 q/\1<=q/\q<=R1/\s1=.string r/\r.size<=4096/\(Fit ((mid bs).drop (q-1)) (bR bs) (tl r)↔Fit (mid bs) (bR bs) (tl r0))/\w=wr)
 case atStart=>exact⟨1,r0,rfl,rfl,Nat.le_refl _,a5,rfl,a1,Iff.rfl,rfl⟩
 obtain⟨q,r,b6,rfl,c6,d8,rfl,d5,H2,rfl⟩:=hrel;have H9:=Kh b6;have b2:=Kh H2;clear b6 H2;by_cases hq:q<R1
 ·have c7:(q:Int)<R1:=by omega
  have d7:(q:Int)<bs.length:=(by omega);have cu:=vL H.out q (by omega);obtain⟨u,hu⟩:=Nm (bs.getD q ⟨#[]⟩);rw[<-hu]at cu;have d4:u.size<=4096:=by rw[hu,zG (show q<bs.length by omega)];exact HS.out q (by omega)
  have b1:=Kh (qWI (bs:=bs) c6 (by have:=a6.out;omega));rw[<-hu]at b1;clear hu;go_wp2
  go_loopg [8,9] (r.size+1) (fun gh s8 s9 wr=>∃p:Nat,gh+p=r.size+1/\s9=.int .i64 p/\w=wr/\((s8=.int .i64 (-1)/\NoB (tl r) (tl u) p)\/(∃f:Nat,f+1=p/\s8=.int .i64 f/\NoB (tl r) (tl u) f/\Lib.occAt (tl r) (tl u) f=true/\f+u.size<=r.size)))
  case atStart=>exact⟨0,rfl,rfl,rfl,.inl ⟨rfl,fun i hi=>by omega⟩⟩
  clear cu;obtain⟨p,H0,rfl,rfl,H3⟩:=hrel;have H8:=Kh H0;have d9:p<=4097:=by omega
  clear H0;rcases H3 with ⟨rfl,hno⟩|⟨f,hfp,rfl,hno,h3,hfu⟩
  ·have H7:=Kh hno
   clear hno;by_cases hpu:p+u.size<=r.size
   ·have h5:decide ((p:Int)+(u.size:Int)<=(r.size:Int))=true:=by rw[decide_eq_true_eq];omega
    have b5:=qQV (r:=r) (u:=u) (p:=p) hpu;by_cases ho:Lib.occAt (tl r) (tl u) p=true
    ·rw[ho]at b5
     have HO:=Kh ho;clear ho;go_wp2;go_roundg (r.size+1-(p+1))
     case measure=>have:=H8.out;omega
     exact⟨p+1,by have:=H8.out;omega,by go_num,rfl,.inr ⟨p,rfl,rfl,H7.out,HO.out,hpu⟩⟩
    have a2:Lib.occAt (tl r) (tl u) p=false:=by simpa using ho
    rw[a2]at b5;have HO:=Kh a2;clear ho a2;go_wp2;go_roundg (r.size+1-(p+1))
    case measure=>have:=H8.out;omega
    refine⟨p+1,by have:=H8.out;omega,by go_num,rfl,.inl ⟨rfl,fun i hi=>?_⟩⟩;by_cases e:i=p
    ·rw[e];exact HO.out
    exact H7.out i (by omega)
   have h5:decide ((p:Int)+(u.size:Int)<=(r.size:Int))=false:=by rw[decide_eq_false_iff_not];omega
   go_wp2;go_ret;refine⟨zW (h8.out _ ⟨fun h=>(by cases h),fun h=>?_⟩),zH _ _⟩;rw[c3.out,<-b2.out,b1.out]at h;exact absurd h (qWZ H7.out (by rw[xU,xU];exact hpu))
  obtain⟨e5,H7,e4⟩:=K3 hfp hno h3;have e1:((f:Int) == -1)=false:=by rw[beq_eq_false_iff_ne];omega
  have d6:(f:Int)+u.size<=r.size:=by omega
  have b7:=qKP r (i:=f+u.size) (j:=r.size) (Nat.le_refl _);have c4:=Kh b7
  have c1:Hid (Fit ((mid bs).drop (q+1-1)) (bR bs) (tl (r.extract (f+u.size) r.size))↔Fit (mid bs) (bR bs) (tl r0)):=Kh (by
   rw[<-b2.out,b1.out,Nat.add_sub_cancel,xAG hno h3 (by rw[xU,xU];exact hfu),lI,List.take_of_length_le (by rw[List.length_drop,xU];omega),xU])
  clear hfp hno h3 b7;by_cases hpu:p+u.size<=r.size
  ·have h5:decide ((p:Int)+(u.size:Int)<=(r.size:Int))=true:=by rw[decide_eq_true_eq];omega
   go_wp2;go_roundg (R1+1-(q+1))
   case measure=>have:=H9.out;omega
   exact⟨q+1,_,by have:=H9.out;omega,by go_num,by omega,by omega,rfl,by rw[c4.out];omega,c1.out,rfl⟩
  have h5:decide ((p:Int)+(u.size:Int)<=(r.size:Int))=false:=by rw[decide_eq_false_iff_not];omega
  go_wp2;go_roundg (R1+1-(q+1))
  case measure=>have:=H9.out;omega
  exact⟨q+1,_,by have:=H9.out;omega,by go_num,by omega,by omega,rfl,by rw[c4.out];omega,c1.out,rfl⟩
 have b3:q=R1:=by omega
 have c7:¬(q:Int)<R1:=(by omega);have cl:=vL H.out R1 h6;obtain⟨v,hv⟩:=Nm (bs.getD R1 ⟨#[]⟩);rw[<-hv]at cl;have d3:v.size<=4096:=by rw[hv,zG h6];exact HS.out R1 h6
 have d1:Hid (bR bs=tl v):=Kh (by rw[bR,<-a6.out,<-hv])
 have H5:Hid (pC (bs.map (·.data.toList)) (tl s)↔∃q,tl r=q++tl v):=Kh (by
  rw[c3.out,<-b2.out,d1.out,List.drop_eq_nil_of_le (by rw[qL,b3];have:=a6.out;omega)]
  exact Iff.rfl)
 clear hv b3;by_cases hge:v.size<=r.size
 ·have a4:decide ((v.size:Int)<=(r.size:Int))=true:=by rw[decide_eq_true_eq];omega
  have a3:decide ((r.size:Int) ≥ (v.size:Int))=true:=by rw[decide_eq_true_eq];omega
  obtain⟨dd,b8⟩:=Nm (r.size-v.size);have edd:(r.size:Int)-(v.size:Int)=(dd:Int):=by omega
  have c8:(dd:Int)<=r.size:=by omega
  have d2:=Kh b8;clear b8;go_wp2;go_ret;refine⟨zW (h8.out _ ?_),zH _ _⟩;rw[H5.out,beq_iff_eq,qAI,eM,List.take_of_length_le (by rw[List.length_drop,xU];omega)];constructor
  ·intro h
   exact⟨(tl r).take dd,by rw[<-h,List.take_append_drop]⟩
  rintro ⟨y,hy⟩;have a0:=congrArg List.length hy;rw[List.length_append,xU,xU]at a0;rw[hy,show dd=y.length by have:=d2.out;omega,List.drop_left]
 have a4:decide ((v.size:Int)<=(r.size:Int))=false:=by rw[decide_eq_false_iff_not];omega
 have a3:decide ((r.size:Int) ≥ (v.size:Int))=false:=by rw[decide_eq_false_iff_not];omega
 go_wp2;go_ret;refine⟨zW (h8.out _ ⟨fun h=>(by cases h),fun h=>?_⟩),zH _ _⟩;obtain⟨y,hy⟩:=H5.out.1 h;have a0:=congrArg List.length hy;rw[List.length_append,xU,xU]at a0;omega
theorem qMI (B:Nat)(w:World)(v:Value)(bs:List ByteArray)(s:ByteArray)(h:Row B w v (txtV bs))(hs:∀i (hi:i<bs.length),bs[i].size<=maxLen)(a9:s.size<=maxLen):Calls Tryz.prog 59 #[.agg #[v],.string s] w fun e w'=>e=.returned (.bool (yJ bs s))/\w.grownBy w' none:=by
 obtain⟨a,cap,rfl⟩:=h.shape;rw[yD]at h⊢;have H:=Kh h;have h2:=Ga w (.cells #[.slice a bs.length cap] 65) none;have h1:=heap_alloc_new w (.cells #[.slice a bs.length cap] 65);obtain⟨w1,h5⟩:=Nm (w.alloc (.cells #[.slice a bs.length cap] 65));obtain⟨P,hP⟩:=Nm w.heap.size;rw[<-h5]at h2 h1;rw[<-hP]at h1;have c0:w1.cell? ⟨P,0,none⟩=some (.slice a bs.length cap):=by simpa using zJ h1 0
 have H3:=Kh (jP B w1 _ bs 6 (h.kept h2 (by simp)) hs);obtain⟨H5,HP,H8,H9⟩:=K4 h5 hP h2 h1;clear h h2 h1 h5 hP hs;go_enter Tryz.func59,Tryz.ntmps59;go_upto_region 1 with fail;rw[<-H5.out,<-HP.out];go_wp2_with fail;refine H3.out.mono ?_;rintro e w2 ⟨rfl,h6⟩;have h3:=Kh (zA H8.out h6);have c2:w2.cell? ⟨P,0,none⟩=some (.slice a bs.length cap):=by simpa using zJ (zB H9.out h6) 0
 clear h6 H3 c0;by_cases hE:patW bs 6=0
 case neg =>
  have hM:Hid (yJ bs s=false):=Kh (by
   have:¬yT bs 6=0:=fun e=>hE (vO.2 e)
   simp[yJ,this])
  obtain⟨E,H2⟩:=Nm (patW bs 6);rw[<-H2]at hE⊢;have e1:(E == 0)=false:=by rw[beq_eq_false_iff_ne];exact hE
  clear hE H2;go_wp2;go_ret;exact⟨zW hM.out.symm,h3.out⟩
 rw[hE];have hV:=vO.1 hE;have HV:=Kh hV;obtain⟨_,_,h0,h8,_,h4,_⟩:=qDZ hV;clear hE hV;go_wp2_with fail;refine(oU s 6 _ a9).mono ?_;rintro e w3 ⟨rfl,rfl⟩;by_cases hW:zU s 6=true
 ·obtain⟨b,off,_,ea,a0,H1,H4,h9⟩:=(H.out.kept h3.out (by simp)).some_ (by rw[yD];exact h0)
  rw[yD]at ea H1;simp only[Value.slice.injEq]at ea;obtain⟨rfl,_,rfl⟩:=ea
  have HM:=Kh (qME w2 b off cap bs s h9 H1 H4 h0 (fun i hi=>by
   have:=h4 i hi;simp[zU]at this
   omega) (by simp[zU]at hW;omega))
  have H6:Hid (yJ bs s=wU (bs.map (·.data.toList)) s.data.toList):=Kh (by
   rw[yJ,HV.out,hW];simp)
  rw[hW];clear h9 h4;go_wp2_with fail;refine HM.out.mono ?_;rintro e w3 ⟨rfl,H0⟩;have H7:=Kh (zA h3.out H0);clear H0;go_wp2;go_ret;exact⟨zW H6.out.symm,H7.out⟩
 have h7:zU s 6=false:=by simpa using hW
 have hM:Hid (yJ bs s=false):=Kh (by simp[yJ,h7]);rw[h7];clear hW h7 h4;go_wp2;go_ret;exact⟨zW hM.out.symm,h3.out⟩
def mtsW (ps:List (List ByteArray))(s:ByteArray):List Bool:=ps.map fun p=>yJ p s
theorem dM (ps:List (List ByteArray))(s:ByteArray):(mtsW ps s).length=ps.length:=by simp[mtsW]
theorem qRH {ps:List (List ByteArray)}{s:ByteArray}{k:Nat}(hk:k<ps.length):mtsW (ps.take (k+1)) s=mtsW (ps.take k) s++[yJ (ps.getD k []) s]:=by
 rw[List.take_succ_eq_append_getElem hk,mtsW,List.map_append,zG hk];rfl
theorem qWB {ps:List (List ByteArray)}{s:ByteArray}{p:Nat}(hp:p<ps.length):(mtsW ps s).getD p false=yJ (ps.getD p []) s:=by
 rw[zG (by rw[dM];exact hp),zG hp];simp[mtsW]
theorem qDO (B:Nat)(w:World)(v:Value)(ps:List (List ByteArray))(s:ByteArray)(hB:B<=w.heap.size)(h:vE B w v ps)(hl:ps.length<=4096)(hs:s.size<=maxLen):Calls Tryz.prog 39 #[v,.string s] w fun e w'=>∃sa sc,e=.returned (.slice sa ps.length sc)/\w'.ownsRow w.heap.size 4 1 (.slice sa ps.length sc) ps.length (bls (mtsW ps s))/\w.grownBy w' none:=by
 obtain⟨a,c,rfl⟩:=h.shape;obtain⟨n,hn⟩:=Nm ps.length;have HN:=Kh hn;have H:=Kh h;rw[<-hn]at hl H⊢;clear h hn;go_enter Tryz.func39,Tryz.ntmps39;go_wp2
 go_loopg [5,7,10] n (fun gh v5 s7 i wr=>∃(k:Nat) (sa:Option Addr) (sc:Nat),gh+k=n/\i=.int .i64 k/\v5=.slice sa k sc/\wr.ownsRow w.heap.size 4 1 (.slice sa k sc) k (bls (mtsW (ps.take k) s))/\w.grownBy wr none)
 case atStart=>exact⟨0,none,0,rfl,rfl,rfl,World.ownsRow_nil _ _ _ _,zH _ _⟩
 obtain⟨k,sa,sc,H0,rfl,rfl,h4,hg⟩:=hrel;obtain⟨h7,HG,HO⟩:=K3 H0 hg h4;have hz:=hg.size;clear H0 h4;by_cases hk:k<n
 ·have H6:(k:Int)<n:=by omega
  obtain⟨b,off,cap,e,a4,H8,H7,h3⟩:=(H.out.kept hg (by simp)).at_ (by rw[<-HN.out];omega);rw[<-HN.out]at e H8 h3;simp only[Value.slice.injEq,true_and]at e;obtain⟨rfl,rfl⟩:=e;obtain⟨ea,ec,c1,h2,h5⟩:=h3 k hk;have h6:Hid (mtsW (ps.take (k+1)) s=mtsW (ps.take k) s++[yJ (ps.getD k []) s]):=Kh (qRH (by rw[<-HN.out];exact hk));obtain⟨q,hq⟩:=Nm (ps.getD k []);rw[<-hq]at c1 h2 h5 h6;have a3:c<=9223372036854775807:=by unfold maxLen at H7;omega
  have HM:Hid (∀W:World,wr.grownBy W none->Calls Tryz.prog 59 #[.agg #[.slice ea q.length ec],.string s] W fun e w'=>e=.returned (.bool (yJ q s))/\W.grownBy w' none):=Kh (fun W hW=>qMI B W _ q s (h2.kept hW (by simp)) h5 hs);obtain⟨ql,h8⟩:=Nm q.length;obtain⟨mm,h9⟩:=Nm (yJ q s);rw[<-h8]at c1 HM;rw[<-h9]at HM h6;clear h3 h2 h5 hq h8 h9 hg;go_wp2_with fail;refine(HM.out _ (Ga wr _ none)).mono ?_;rintro e w1 ⟨rfl,H2⟩;have h0:=zA (Ga wr (.cells #[.slice ea ql ec] 65) none) H2;have a1:=Kh h0;have H3:=Kh (zP HO.out h0);have a2:=h0.size;clear H2 h0 HM c1;go_wp2_with (first|(at_builtin;refine app1 rfl _ _ _ rfl xL w.heap.size (.slice sa k sc) k _ rfl H3.out (.bool mm) rfl rfl ?c1 ?c2 ?c3 ?_)|fail)
  case c1=>unfold maxLen;omega
  case c2=>omega
  case c3=>omega
  intro sa' sc' w2 h1 H1 H4;have H9:Hid (w2.ownsRow w.heap.size 4 1 (.slice sa' (k+1) sc') (k+1) (bls (mtsW (ps.take (k+1)) s))):=Kh (by rw[h6.out];simpa [bls] using h1);have a0:Hid (w.grownBy w2 none):=Kh (zA (zA HG.out a1.out) H1 (fun x e=>(H3.out.lt x e).1));clear h1 H1;go_wp2;go_roundg (n-(k+1))
  case measure=>have:=h7.out;omega
  exact⟨k+1,sa',sc',by have:=h7.out;omega,by go_num,rfl,H9.out,a0.out⟩
 have H5:k=n:=by have:=h7.out;omega
 have HE:Hid (ps.take k=ps):=Kh (List.take_of_length_le (by rw[<-HN.out];omega));rw[HE.out]at HO;have H6:¬(k:Int)<n:=(by omega);subst H5;clear hg;go_wp2;go_ret;exact⟨sa,sc,rfl,HO.out,HG.out⟩
theorem qGY (B:Nat)(w:World)(v:Value)(g:DiaV)(mv:Value)(ms:List Bool)(h:mB B w v g)(hc:wT g.pats.length g.chos g.chos.length)(h0:0<=g.root)(h1:g.root<=1+(g.chos.length:Int))(hl:g.pats.length<=ms.length)(hm:Row B w mv (bls ms)):Calls Tryz.prog 38 #[v,mv] w fun e w'=>e=.returned (.bool (decG g.chos (fun p=>ms.getD p false) g.root))/\w.grownBy w' none:=by
 obtain⟨pv,cv,rfl,hp,h5⟩:=h;obtain⟨ca,cc,rfl⟩:=h5.shape;have a0:=h5.len_le;obtain⟨ma,mc,rfl⟩:=hm.shape;have H8:=hm.len_le;unfold maxLen at a0 H8;obtain⟨ps,cs,root⟩:=g;simp only at hp hc h5 a0 h0 h1 hl⊢;rw[yV]at H8;obtain⟨r0,rfl⟩:∃n:Nat,root=(n:Int):=⟨root.toNat,by omega⟩;obtain⟨nc,H7⟩:=Nm cs.length;obtain⟨nm,H2⟩:=Nm ms.length;rw[<-H7]at h5 a0 h1⊢;rw[yV,<-H2]at hm⊢;rw[<-H2]at hl H8;have h8:=Ga w (.cells #[pv,.slice ca nc cc,.int .i64 (r0:Int)] 35) none;have H1:=heap_alloc_new w (.cells #[pv,.slice ca nc cc,.int .i64 (r0:Int)] 35);obtain⟨wA,a2⟩:=Nm (w.alloc (.cells #[pv,.slice ca nc cc,.int .i64 (r0:Int)] 35));obtain⟨P,hP⟩:=Nm w.heap.size;rw[<-a2]at h8 H1;rw[<-hP]at H1;have b0:=h5.kept h8 (by simp);obtain⟨p0,p1,p2⟩:=zQ H1;obtain⟨a4,H5,d0,d1,b1,c0⟩:=K6 H7 H2 b0 H1 hc a2;have c7:=Kh hP;have c9:=Kh h8;have HM:=Kh (hm.kept h8 (by simp));have c6:=Kh h1;obtain⟨m,H9⟩:∃m:Nat->Bool,m=fun p=>ms.getD p false:=⟨_,rfl⟩;have c8:Hid (∀p,m p=ms.getD p false):=Kh (fun p=>by rw[H9]);rw[<-H9];obtain⟨ans,h2⟩:=Nm (decG cs m (r0:Int));rw[<-h2];have a5:=Kh h2;clear hp h5 b0 h8 H1 a2 hP H7 hc h1 h0 h2 H2 hm H9;go_enter Tryz.func38,Tryz.ntmps38;go_upto_region 1 with fail;rw[<-c0.out,<-c7.out];go_wp2;clear p0 p1 p2
 go_loopg [5,6] r0 (fun gh r s6 wr=>∃q:Nat,gh=q/\r=.int .i64 q/\q<=1+nc/\decG cs m q=ans/\wA.grownBy wr none)
 case atStart=>exact⟨r0,rfl,rfl,by have:=c6.out;omega,a5.out.symm,zH _ _⟩
 obtain⟨q,a8,rfl,b5,h9,hg⟩:=hrel;have b2:=Kh a8;clear a8;have HG:=Kh hg;have h3:=Kh h9;clear h9;by_cases hq:2<=q
 ·have b6:(2:Int)<=q:=by omega
  obtain⟨i,rfl⟩:∃i,q=i+2:=⟨q-2,by omega⟩;have hi:i<nc:=(by omega);have H0:=d0.out.kept hg (by simp);obtain⟨b,off,cap,e,d7,h6,b9,H4⟩:=H0.at_ (by rw[<-a4.out];omega);rw[<-a4.out]at e h6;simp only[Value.slice.injEq,true_and]at e;obtain⟨rfl,rfl⟩:=e;have d4:cc<=9223372036854775807:=by unfold maxLen at b9;omega
  have h7:i<cs.length:=(by rw[<-a4.out];exact hi);have c1:=H4.p i h7;have c2:=H4.y i h7;have c3:=H4.n i h7;have h4:=iO (m:=m) b1.out (r:=((i+2:Nat):Int)) (by omega) (by omega);have e0:((i+2:Nat):Int).toNat-2=i:=by omega
  rw[e0]at h4;have a1:=qY (b1.out i h7);obtain⟨c,a9⟩:=Nm (cs.getD i default);rw[<-a9]at c1 c2 c3 h4 a1;clear H0 H4 h7 a9;obtain⟨x,y,n⟩:=c;simp only at c1 c2 c3 h4 a1;obtain⟨xn,rfl⟩:∃k:Nat,x=(k:Int):=⟨x.toNat,by omega⟩;obtain⟨yn,rfl⟩:∃k:Nat,y=(k:Int):=⟨y.toNat,by omega⟩;obtain⟨nn,rfl⟩:∃k:Nat,n=(k:Int):=⟨n.toNat,by omega⟩;rw[Int.toNat_natCast]at h4;have a6:xn<nm:=(by omega);have b4:(xn:Int)<nm:=(by omega);have d2:yn<i+2:=(by omega);have d3:nn<i+2:=(by omega);have a3:=Kh h4;obtain⟨kb,ko,kc,e,_,b8,b7,a7⟩:=(HM.out.kept hg (by simp)).some_ (by rw[yV,<-H5.out];omega);rw[yV,<-H5.out]at e b8;simp only[Value.slice.injEq,true_and]at e;obtain⟨rfl,rfl⟩:=e;have d5:mc<=9223372036854775807:=by unfold maxLen at b7;omega
  have cm:wr.cell? ⟨kb,ko+xn,none⟩=some (.bool (m xn)):=by
   have:=a7.map (f:=Value.bool) (xs:=ms) xn (by rw[<-H5.out];exact a6);rw[this,c8.out,zG (by rw[<-H5.out];exact a6)]
  obtain⟨b,hb⟩:=Nm (m xn);rw[<-hb]at a3 cm;obtain⟨p0,p1,p2⟩:=zQ (zB d1.out hg);have h6:=heap_alloc_new wr (.cells #[.int .i64 (xn:Int),.int .i64 (yn:Int),.int .i64 (nn:Int)] 71);have H3:=Ga wr (.cells #[.int .i64 (xn:Int),.int .i64 (yn:Int),.int .i64 (nn:Int)] 71) none;obtain⟨w2,H6⟩:=Nm (wr.alloc (.cells #[.int .i64 (xn:Int),.int .i64 (yn:Int),.int .i64 (nn:Int)] 71));obtain⟨R,hR⟩:=Nm wr.heap.size;rw[<-H6]at h6 H3;rw[<-hR]at h6;have cm2:=xG cm H3;obtain⟨c4,c5,b3⟩:=K3 H6 hR H3;obtain⟨r0,r1,r2⟩:=zQ h6;have e2:IntKind.i64.wrap ((i+2:Nat)-2:Int)=(i:Int):=by rw[show ((i+2:Nat)-2:Int)=i by omega];exact qB (by omega)
  have e3:((i+2:Nat)-2:Int)=(i:Int):=by omega
  have d6:(i:Int)<nc:=(by omega);clear hb H6 hR h6 H3 hg h4 a1 b5 a7 cm;go_upto_region 4 with fail;rw[<-c4.out,<-c5.out];clear c1 c2 c3 p0 p1 p2;cases b with
  | true =>
   go_wp2;go_roundg yn
   case measure=>have:=b2.out;omega
   exact⟨yn,rfl,rfl,by omega,by rw[<-h3.out];exact a3.out.symm,zA HG.out b3.out⟩
  | false =>
   go_wp2;go_roundg nn
   case measure=>have:=b2.out;omega
   exact⟨nn,rfl,rfl,by omega,by rw[<-h3.out];exact a3.out.symm,zA HG.out b3.out⟩
 have b6:¬(2:Int)<=q:=by omega
 have HA:Hid (decide ((q:Int)=1)=ans):=Kh (by rw[<-h3.out,qCG _ _ (by omega)]);clear hg;go_wp2;go_ret;exact⟨zW (by rw[<-HA.out];first|rfl|simp|decide),zA c9.out HG.out⟩
structure OwnsT (base:Nat)(W:World)(hs:List Value)(t:List (List Int)):Prop where
 len:hs.length=t.length
 own:∀i (h:i<hs.length) (h':i<t.length),W.ownsRow base 3 1 hs[i] t[i].length (ints t[i])
 dis:∀i j (hi:i<hs.length) (hj:j<hs.length),i≠j->∀k,hs[i].ownBlock=some k->hs[j].ownBlock≠some k
section
variable {base:Nat} {W W':World} {hs:List Value} {t:List (List Int)}
theorem OwnsT.nil:OwnsT base W [] []:=⟨rfl,fun i h=>by simp at h,fun i j h=>by simp at h⟩
theorem OwnsT.rowsT (h:OwnsT base W hs t):wO W.heap.size 3 ints W hs t:=⟨h.len,fun i h1 h2=>RowT.of_owns (h.own i h1 h2)⟩
theorem qQP {row:Option Nat}{v:Value}{n:Nat}{xs:List Value}(h:W.ownsRow base 3 1 v n xs)(hg:W.grownBy W' row)(hr:∀k,row=some k->k<base\/yC W 3 k):W'.ownsRow base 3 1 v n xs:=by
 refine h.kept hg ?_;rcases hv:v.ownBlock with _|k
 ·exact .inl rfl
 refine .inr fun e=>?_;rcases hr k e.symm with hk|⟨c,e',m,hp,hne⟩
 ·have:=(h.lt k hv).1;omega
 exact zO h hp (Ne.symm hne) hv
theorem OwnsT.kept {row:Option Nat}(h:OwnsT base W hs t)(hg:W.grownBy W' row)(hr:∀k,row=some k->k<base\/yC W 3 k):OwnsT base W' hs t :=
 ⟨h.len,fun i h1 h2=>qQP (h.own i h1 h2) hg hr,h.dis⟩
theorem OwnsT.snoc {v:Value}{r:List Int}(h:OwnsT base W hs t)(ho:W.ownsRow base 3 1 v r.length (ints r))(hd:∀i (hi:i<hs.length),∀k,hs[i].ownBlock=some k->v.ownBlock≠some k):OwnsT base W (hs++[v]) (t++[r]):=by
 have hl:=h.len;refine⟨by simp[hl],fun i h1 h2=>?_,fun i j hi hj hij k hk=>?_⟩
 ·by_cases hi:i<hs.length
  ·have:=h.own i hi (by omega)
   rw[List.getElem_append_left hi];simp only[List.getElem_append_left (show i<t.length by omega)];exact this
  have e:i=hs.length:=by simp at h1;omega
  subst e;rw[List.getElem_append_right (Nat.le_refl _)];simp only[List.getElem_append_right (show t.length<=hs.length by omega)];simpa [hl] using ho
 simp only[List.length_append,List.length_singleton]at hi hj;by_cases h1:i<hs.length
 ·rw[List.getElem_append_left h1]at hk
  by_cases h2:j<hs.length
  ·rw[List.getElem_append_left h2];exact h.dis i j h1 h2 hij k hk
  have e:j=hs.length:=by omega
  subst e;rw[List.getElem_append_right (Nat.le_refl _)];simpa using hd i h1 k hk
 have e:i=hs.length:=by omega
 subst e;rw[List.getElem_append_right (Nat.le_refl _)]at hk;have h2:j<hs.length:=(by omega);rw[List.getElem_append_left h2];intro e;exact hd j h2 k e (by simpa using hk)
theorem OwnsT.lt (h:OwnsT base W hs t){i:Nat}(hi:i<hs.length){k:Nat}(hk:hs[i].ownBlock=some k):base<=k/\k<W.heap.size:=(h.own i hi (by rw[<-h.len];exact hi)).lt k hk
theorem OwnsT.at (h:OwnsT base W hs t){q:Nat}(hq:q<t.length)(hp:0<(t.getD q []).length):∃g c,hs[q]?=some (.slice (some ⟨g,0,none⟩) (t.getD q []).length c)/\(t.getD q []).length<=c/\c<=maxLen/\base<=g/\Arr W g 3 (ints (t.getD q [])):=by
 have h0:q<hs.length:=by rw[h.len];exact hq
 have ho:=h.own q h0 hq;have e:t.getD q []=t[q]:=by simp[List.getD_eq_getElem?_getD,hq]
 rw[e]at hp⊢;obtain⟨sa,sc,hv⟩:=rD ho;rw[hv]at ho;obtain⟨kb,rfl,h1,h2,h3⟩:=yH ho hp;refine⟨kb,sc,by rw[List.getElem?_eq_getElem h0,hv],h1,h2,(ho.lt kb rfl).1,h3⟩
theorem OwnsT.poke (h:OwnsT base W hs t){q g a c n:Nat}(hv:hs[q]?=some (.slice (some ⟨g,0,none⟩) n c))(ha:a<(t.getD q []).length)(x:Int):OwnsT base (W.setCell ⟨g,a,none⟩ (.int .i64 x)) hs (t.set q ((t.getD q []).set a x)):=by
 obtain⟨hq,he⟩:=List.getElem?_eq_some_iff.1 hv;have hl:=h.len;have hg:=zD W ⟨g,a,none⟩ (.int .i64 x);refine⟨by simp[hl],fun i h1 h2=>?_,h.dis⟩;rw[List.length_set]at h2;by_cases e:q=i
 ·subst e
  have ho:=h.own q h1 h2;have e2:t.getD q []=t[q]:=by simp[List.getD_eq_getElem?_getD,h2]
  rw[e2]at ha;simp only[List.getElem_set_self,e2];rw[he]at ho⊢;obtain⟨h0,ho⟩:=ho;refine⟨by simp[ints],?_⟩;rcases ho with ⟨h7,_⟩|⟨g',cap,cur,hs',hb,hgc,hc1,hc2,hc3,hc4⟩
  ·simp at h7
  simp only[Value.slice.injEq,Option.some.injEq,Addr.mk.injEq,and_true]at hs';obtain⟨rfl,hn,rfl⟩:=hs';subst hn;refine .inr ⟨g,c,cur.setIfInBounds a (.int .i64 x),by simp,hb,heap_setCell_same W g a _ _ _ hgc,by simpa using hc1,hc2,by simpa using hc3,?_⟩;simp only[List.length_set,Nat.mul_one]at hc4⊢;rw[Array.toList_setIfInBounds,List.take_set,hc4];simp[ints,List.map_set]
 have ho:=h.own i h1 h2;simp only[List.getElem_set_ne e]
 exact ho.kept hg (by
  rcases hv2:hs[i].ownBlock with _|k
  ·exact .inl rfl
  refine .inr fun e3=>?_;have e3:=Oj e3;subst e3
  exact h.dis i q h1 hq (fun e4=>e e4.symm) _ hv2 (by rw[he];rfl))
end
structure Half (base:Nat)(W:World)(o:Nat)(L S:Int)(fs:List Bool)(t:List (List Int))(hs:List Value)(sf:Option Addr)(cf:Nat)(sn:Option Addr)(cn:Nat):Prop where
 box:W.heap[o]?=some (.cells #[.int .i64 L,.int .i64 S,.slice sf fs.length cf,.slice sn t.length cn] 30 (0,0))
 ownF:W.ownsRow base 4 1 (.slice sf fs.length cf) fs.length (bls fs)
 ownN:W.ownsRow base 22 1 (.slice sn t.length cn) t.length hs
 rows:OwnsT base W hs t
section
variable {base o:Nat} {W W':World} {L S:Int} {fs:List Bool} {t:List (List Int)} {hs:List Value} {sf sn:Option Addr} {cf cn:Nat}
theorem Half.built (h:Half base W o L S fs t hs sf cf sn cn)(hl:fs.length=t.length):Built base W o L S fs t hs sf cf sn cn:=⟨h.box,h.ownF,h.ownN,h.rows.rowsT,hl⟩
theorem Half.far {r:Nat}{cs:Array Value}{m:Nat×Nat}(h:Half base W o L S fs t hs sf cf sn cn)(hg:W.grownBy W' (some r))(hr:W.heap[r]?=some (.cells cs 30 m))(a9:r≠o):Half base W' o L S fs t hs sf cf sn cn where
 box:=zB h.box hg (fun e=>a9 (Oj e))
 ownF:=h.ownF.kept hg (.inr (zO h.ownF hr (by decide)))
 ownN:=h.ownN.kept hg (.inr (zO h.ownN hr (by decide)))
 rows:=h.rows.kept hg (fun k hk=>.inr (by have:=Oj hk;subst this;exact⟨_,_,_,hr,by decide⟩))
theorem Half.grow (h:Half base W o L S fs t hs sf cf sn cn)(hg:W.grownBy W' none):Half base W' o L S fs t hs sf cf sn cn where
 box:=zB h.box hg
 ownF:=zX h.ownF hg (by simp)
 ownN:=zX h.ownN hg (by simp)
 rows:=h.rows.kept hg (by simp)
theorem Half.tape {B tb:Nat}(h:Half base W o L S fs t hs sf cf sn cn)(hT:wH B W tb)(hg:W.grownBy W' (some tb)):Half base W' o L S fs t hs sf cf sn cn:=by
 obtain⟨sl,zs,n,hr,_⟩:=hT;refine⟨zB h.box hg (fun e=>?_),h.ownF.kept hg (.inr (zO h.ownF hr (by decide))),h.ownN.kept hg (.inr (zO h.ownN hr (by decide))),?_⟩
 ·have e:=Oj e
  have h1:=h.box;rw[<-e,hr]at h1;simp at h1
 exact h.rows.kept hg (fun k hk=>.inr (by have:=Oj hk;subst this;exact⟨_,_,_,hr,by decide⟩))
theorem qJU {w:World}{base e e' n n':Nat}{v v':Value}{xs ys:List Value}(h:w.ownsRow base e 1 v n xs)(h':w.ownsRow base e' 1 v' n' ys)(a9:e≠e'):v.ownBlock=none\/v.ownBlock≠v'.ownBlock:=by
 rcases hv:v.ownBlock with _|k
 ·exact .inl rfl
 refine .inr (fun e2=>?_);obtain⟨c,e3,m,hp,h3⟩:=zZ h' (Ne.symm a9) k e2.symm;exact zO h hp (Ne.symm h3) hv
theorem Half.pushF {b:Bool}{a9:Option Addr}{a8:Nat}(h:Half base W o L S fs t hs sf cf sn cn)(ho:W'.ownsRow base 4 1 (.slice a9 (fs.length+1) a8) (fs.length+1) (bls fs++[.bool b]))(hg:W.grownBy W' (Value.slice sf fs.length cf).ownBlock){W2:World}(a7:W2=W'.setCell ⟨o,2,none⟩ (.slice a9 (fs.length+1) a8)):Half base W2 o L S (fs++[b]) t hs a9 a8 sn cn/\∀w0:World,w0.grownBy W (some o)->w0.heap.size<=base->w0.grownBy W2 (some o):=by
 have h0:=zB h.box hg (fun e=>zO h.ownF h.box (by decide) e);have s1:=heap_setCell_same W' o 2 _ _ (.slice a9 (fs.length+1) a8) h0;have g1:W'.grownBy W2 (some o):=by rw[a7];exact zD W' ⟨o,2,none⟩ _
 have h1:yC W' 3 o:=⟨_,_,_,h0,by decide⟩;have hN:=h.ownN.kept hg (qJU h.ownN h.ownF (by decide));have hR:=h.rows.kept hg (fun k hk=>.inr (zZ h.ownF (by decide) k hk));refine⟨⟨?_,?_,hN.kept g1 (.inr (zO hN h0 (by decide))),hR.kept g1 (fun k hk=>.inr (by have:=Oj hk;subst this;exact h1))⟩,fun w0 hw0 hb=>?_⟩
 ·rw[a7,s1];simp
 ·have:=ho.kept g1 (.inr (zO ho h0 (by decide)))
  rw[List.length_append];simpa [bls] using this
 exact zC (zA hw0 hg (fun k hk=>Nat.le_trans hb (h.ownF.lt k hk).1)) g1
theorem Half.pushN {row:List Int}{rv:Value}{a9:Option Addr}{a8:Nat}(h:Half base W o L S fs t hs sf cf sn cn)(ho:W'.ownsRow base 22 1 (.slice a9 (t.length+1) a8) (t.length+1) (hs++[rv]))(hg:W.grownBy W' (Value.slice sn t.length cn).ownBlock)(a7:W.ownsRow base 3 1 rv row.length (ints row))(a6:∀i (hi:i<hs.length),∀k,hs[i].ownBlock=some k->rv.ownBlock≠some k){W2:World}(a5:W2=W'.setCell ⟨o,3,none⟩ (.slice a9 (t.length+1) a8)):Half base W2 o L S fs (t++[row]) (hs++[rv]) sf cf a9 a8/\∀w0:World,w0.grownBy W (some o)->w0.heap.size<=base->w0.grownBy W2 (some o):=by
 have h0:=zB h.box hg (fun e=>zO h.ownN h.box (by decide) e);have s1:=heap_setCell_same W' o 3 _ _ (.slice a9 (t.length+1) a8) h0;have g1:W'.grownBy W2 (some o):=by rw[a5];exact zD W' ⟨o,3,none⟩ _
 have h1:yC W' 3 o:=⟨_,_,_,h0,by decide⟩;have hF:=h.ownF.kept hg (qJU h.ownF h.ownN (by decide));have hR:=(h.rows.snoc a7 a6).kept hg (fun k hk=>.inr (zZ h.ownN (by decide) k hk));refine⟨⟨?_,hF.kept g1 (.inr (zO hF h0 (by decide))),?_,hR.kept g1 (fun k hk=>.inr (by have:=Oj hk;subst this;exact h1))⟩,fun w0 hw0 hb=>?_⟩
 ·rw[a5,s1];simp
 ·have:=ho.kept g1 (.inr (zO ho h0 (by decide)))
  rw[List.length_append];exact this
 exact zC (zA hw0 hg (fun k hk=>Nat.le_trans hb (h.ownN.lt k hk).1)) g1
end
def qLL (w w':World)(v:Value)(m:DfaV):Prop:=∃(o:Nat) (hs:List Value) (sf:Option Addr) (cf:Nat) (sn:Option Addr) (cn:Nat),
 v=.agg #[.int .i64 m.letters,.int .i64 m.start,.slice sf m.final.length cf,.slice sn m.next.length cn]/\w.heap.size<=o/\Half w.heap.size w' o m.letters m.start m.final m.next hs sf cf sn cn
theorem Half.base {base base' o:Nat}{W:World}{L S:Int}{fs:List Bool}{t:List (List Int)}{hs:List Value}{sf sn:Option Addr}{cf cn:Nat}(h:Half base W o L S fs t hs sf cf sn cn)(hb:base'<=base):Half base' W o L S fs t hs sf cf sn cn :=
 ⟨h.box,yU h.ownF hb,yU h.ownN hb,⟨h.rows.len,fun i h1 h2=>yU (h.rows.own i h1 h2) hb,h.rows.dis⟩⟩
theorem Half.at {base o:Nat}{W:World}{L S:Int}{fs:List Bool}{t:List (List Int)}{hs:List Value}{sf sn:Option Addr}{cf cn:Nat}(h:Half base W o L S fs t hs sf cf sn cn){q:Nat}(hq:q<t.length)(hp:0<(t.getD q []).length):∃kb g c,sn=some ⟨kb,0,none⟩/\t.length<=cn/\cn<=maxLen/\hs[q]?=some (.slice (some ⟨g,0,none⟩) (t.getD q []).length c)/\W.cell? ⟨kb,q,none⟩=some (.slice (some ⟨g,0,none⟩) (t.getD q []).length c)/\(t.getD q []).length<=c/\c<=maxLen/\base<=g/\Arr W g 3 (ints (t.getD q [])):=by
 obtain⟨kb,rfl,h1,h2,h3⟩:=yH h.ownN (by omega);obtain⟨g,c,h4,h5,h6,h7,h8⟩:=h.rows.at hq hp;obtain⟨h0,he⟩:=List.getElem?_eq_some_iff.1 h4;exact⟨kb,g,c,rfl,h1,h2,h4,by rw[h3.cell q h0,he],h5,h6,h7,h8⟩
theorem Half.poke {base o:Nat}{W:World}{L S:Int}{fs:List Bool}{t:List (List Int)}{hs:List Value}{sf sn:Option Addr}{cf cn:Nat}(h:Half base W o L S fs t hs sf cf sn cn){q g a c n:Nat}(hv:hs[q]?=some (.slice (some ⟨g,0,none⟩) n c))(hA:Arr W g 3 (ints (t.getD q [])))(ha:a<(t.getD q []).length)(x:Int):Half base (W.setCell ⟨g,a,none⟩ (.int .i64 x)) o L S fs (t.set q ((t.getD q []).set a x)) hs sf cf sn cn:=by
 obtain⟨cur,rest,hg,_⟩:=hA;have h0:=zD W ⟨g,a,none⟩ (.int .i64 x);refine⟨?_,h.ownF.kept h0 (.inr (zO h.ownF hg (by decide))),?_,h.rows.poke hv ha x⟩
 ·rw[List.length_set]
  refine zB h.box h0 (fun e=>?_);have e:g=o:=Oj e;subst e;have:=h.box;rw[hg]at this;simp at this
 rw[List.length_set];exact h.ownN.kept h0 (.inr (zO h.ownN hg (by decide)))
theorem Half.move {base o o':Nat}{W:World}{L S L' S':Int}{fs:List Bool}{t:List (List Int)}{hs:List Value}{sf sn:Option Addr}{cf cn:Nat}(h:Half base W o L S fs t hs sf cf sn cn)(hb:W.heap[o']?=some (.cells #[.int .i64 L',.int .i64 S',.slice sf fs.length cf,.slice sn t.length cn] 30 (0,0))):Half base W o' L' S' fs t hs sf cf sn cn:=⟨hb,h.ownF,h.ownN,h.rows⟩
def pB (t:List (List Int))(n k:Nat):Prop:=∀r∈t,r.length=k/\∀x∈r,0<=x/\x<n
theorem pB.set {t:List (List Int)}{n k q a:Nat}{x:Int}(h:pB t n k)(hq:q<t.length)(h0:0<=x)(hx:x<n):pB (t.set q ((t.getD q []).set a x)) n k:=by
 intro r hr;rcases List.mem_or_eq_of_mem_set hr with hr|rfl
 ·exact h r hr
 have:=h _ (mW (d:=[]) hq);refine⟨by rw[List.length_set];exact this.1,fun y hy=>?_⟩;rcases List.mem_or_eq_of_mem_set hy with hy|rfl
 ·exact this.2 y hy
 exact⟨h0,hx⟩
theorem pB.vd {t:List (List Int)}{n k:Nat}{S:Int}{fs:List Bool}(h:pB t n k)(h1:1<=k)(h6:k<=6)(hn:1<=n)(a7:n<=512)(hf:fs.length=n)(ht:t.length=n)(a8:0<=S)(a9:S<n):VD ⟨k,S,fs,t⟩ n k:=by
 refine⟨rfl,h1,h6,hf,hn,by omega,ht,a8,a9,fun q hq=>?_,fun q a hq ha=>?_,fun q a hq ha=>?_⟩
 ·have h0:q<t.length:=by omega
  exact(h _ (mW h0)).1
 ·have h0:q<t.length:=by omega
  have h:=h (t.getD q []) (mW h0);have h2:a<(t.getD q []).length:=by omega
  exact(h.2 ((t.getD q []).getD a 0) (mW h2)).1
 have h0:q<t.length:=by omega
 have h:=h (t.getD q []) (mW h0);have h2:a<(t.getD q []).length:=by omega
 exact(h.2 ((t.getD q []).getD a 0) (mW h2)).2
def qCR (B tb:Nat)(w:World)(letters most:Nat)(e:Ending)(w':World):Prop :=
 ∃(v:Value) (m:DfaV) (n:Nat),e=.returned v/\qLL w w' v m/\VD m n letters/\n<=most/\wH B w' tb/\w.grownBy w' (some tb)
theorem qKF (B tb:Nat)(w:World)(letters most:Nat)(h1:1<=letters)(h6:letters<=6)(a9:1<=most)(hm:most<=500)(hT:wH B w tb):Calls Tryz.prog 20 #[.pointer (some ⟨tb,0,none⟩),.int .i64 (letters:Int),.int .i64 (most:Int)] w (qCR B tb w letters most):=by
 have l5:=hT.lt;have o6:=hT.ge;obtain⟨wA,d7⟩:=Nm ((w.alloc (.cells #[.int .i64 0,.int .i64 0,.slice none 0 0,.slice none 0 0] 30)).alloc (.cells #[.int .i64 letters,.int .i64 0,.slice none 0 0,.slice none 0 0] 30));obtain⟨a8,b9,b5,g0⟩:=rL w #[.int .i64 0,.int .i64 0,.slice none 0 0,.slice none 0 0] #[.int .i64 letters,.int .i64 0,.slice none 0 0,.slice none 0 0] 30;rw[<-d7]at a8 b9 b5 g0;obtain⟨P,hP⟩:=Nm w.heap.size;have h8:=Kh hP;rw[<-hP]at a8 b9 g0 l5;have j2:=hT.kept b5 (by simp);obtain⟨n8,n7,n3,m4,m6⟩:=K5 a8 b9 b5 d7 j2;clear a8 b9 b5 d7 j2 hT;go_enter Tryz.func20,Tryz.ntmps20;go_upto_region 2 with fail;rw[<-m4.out,<-h8.out];clear hP;go_wp2_with fail;refine(tG B tb _ _ (by omega) m6.out).mono ?_;rintro e w1 ⟨r,rfl,l7,c9,j6,i5⟩;replace c9:=c9 (by omega);obtain⟨n,rfl⟩:∃n:Nat,r=(n:Int)-1:=⟨(r+1).toNat,by omega⟩;have l9:1<=n:=by omega
 have l8:n<=most:=by omega
 have m0:(1:Int)+((n:Int)-1)=n:=by omega
 obtain⟨k1,k6,o7⟩:=K3 j6 i5 m0;clear l7 c9 j6 i5;go_wp2_with fail;refine(tG B tb _ _ (by omega) k1.out).mono ?_;rintro e w2 ⟨s,rfl,l6,c8,j5,i4⟩;replace c8:=c8 (by omega);obtain⟨s,rfl⟩:∃s':Nat,s=s':=⟨s.toNat,by omega⟩;have H4:=zC k6.out i4;have b8:=zB n7.out H4 (by simp;omega);obtain⟨c0,c1,c2,c3⟩:=zE b8;have f1:=frozen_of_row w2 (P+1) 1 _ _ b8;have k0:=Kh j5;have f6:=Kh H4;clear j5 i4 H4 k1 k6;go_wp2;obtain⟨w3,b3⟩:=Nm (w2.setCell ⟨P+1,1,none⟩ (.int .i64 (s:Int)));have i7:w3.heap[P+1]?=some (.cells #[.int .i64 (letters:Int),.int .i64 (s:Int),.slice none 0 0,.slice none 0 0] 30 (0,0)):=by rw[b3,heap_setCell_same w2 (P+1) 1 _ _ _ b8];simp
 have b7:w2.grownBy w3 (some (P+1)):=by rw[b3];exact zD w2 ⟨P+1,1,none⟩ _
 have a6:=zB (zB n8.out f6.out (by simp;omega)) b7;have j4:=k0.out.kept b7 (fun k e=>by have:=Oj e;subst this;omega);have i1:w.grownBy w3 (some tb):=zA (zC (zA (zH w (some tb)) n3.out) f6.out) b7 (fun x e=>by have:=Oj e;have:=h8.out;omega);have j7:Half (P+1) w3 (P+1) letters s [] [] [] none 0 none 0:=⟨i7,World.ownsRow_nil _ _ _ _,World.ownsRow_nil _ _ _ _,OwnsT.nil⟩;obtain⟨H3,k9,j9,k5⟩:=K4 j7 a6 j4 i1;rw[<-b3];clear b3 i7 b7 a6 j4 i1 j7 c0 c1 c2 c3 f1 b8 k0 f6
 go_loopg [9,10,11] n (fun gh i v10 v11 wr=>∃(q:Nat) (fs:List Bool) (t:List (List Int)) (hs:List Value) (sf:Option Addr) (cf:Nat) (sn:Option Addr) (cn:Nat),gh+q=n/\i=.int .i64 q/\fs.length=q/\t.length=q/\pB t n letters/\Half (P+1) wr (P+1) letters s fs t hs sf cf sn cn/\wH B wr tb/\wr.heap[P]?=some (.cells #[.int .i64 0,.int .i64 0,.slice none 0 0,.slice none 0 0] 30 (0,0))/\w.grownBy wr (some tb))
 case atStart=>exact⟨0,[],[],[],none,0,none,0,by omega,rfl,rfl,rfl,(fun r hr=>by simp at hr),H3.out,j9.out,k9.out,k5.out⟩
 obtain⟨q,fs,t,hs,sf,cf,sn,cn,hg,rfl,rfl,H7,g7,hH,j0,a7,i2⟩:=hrel;obtain⟨HG,HH,c5,h0,f4,k2⟩:=K6 hg hH j0 a7 i2 g7;clear hg hH j0 a7 i2 g7 H3 k9 j9 k5;by_cases hq:fs.length<n
 ·have o3:(fs.length:Int)<n:=by omega
  obtain⟨w5,c7⟩:=Nm wr.drew;have a3:wr.grownBy w5 none:=(by rw[c7];exact zN wr none);have j8:=Kh c7;have e9:=Kh (HH.out.grow a3);have e5:=Kh (c5.out.kept a3 (by simp));have k4:=Kh (zA f4.out a3);have k8:=Kh (zB h0.out a3);obtain⟨d0,d1,d2,d3⟩:=zE e9.out.box;have C2:=Kh d2;clear c7 a3 d0 d1 d2 d3 HH c5 f4 h0;go_upto_region 7 with fail;refine wp_region_noPanic ?_;refine xE (G:=vU 8 (fun _=>True) (fun W=>W.cell? ⟨P+1,2,none⟩=some (.slice sf fs.length cf))) (by kernel_rfl) ?_;rw[<-j8.out];refine yG 0 ?_;refine kQ 1 ?_;refine yG 2 ?_;refine oneG (i:=3) (by kernel_rfl) rfl (fun K hK=>?_);go_simp
  go_at_call 5
  refine(tG B tb _ _ (by omega) e5.out).mono ?_;rintro e w6 ⟨b,rfl,o4,a8,j3,b6⟩;have c4:=e9.out.tape e5.out b6;obtain⟨d0,d1,d2,d3⟩:=zE c4.box;have C2:=Kh d2;refine hK.out _ _ ⟨trivial,fun _=>C2.out⟩ ?_;clear hK K d0 d1 d2 d3
  try simp only[Act.put,sPa,sPb,sPc]
  refine yG 4 ?_;refine oneG (i:=5) (by kernel_rfl) rfl (fun K hK=>?_);go_simp;have h7:=c4.grow (Ga w6 (.cells #[.bool (decide (b=1))] 4) none);have i3:=heap_alloc_new w6 (.cells #[.bool (decide (b=1))] 4);obtain⟨d0,d1,d2,d3⟩:=zE h7.box;refine hK.out _ _ ⟨trivial,fun _=>d2⟩ ?_;clear hK K d0 d1 d2 d3
  try simp only[Act.put,sPa,sPb,sPc]
  have o0:P+2<=w6.heap.size:=by have:=zM c4.box;omega
  refine oneG (i:=6) (by kernel_rfl) rfl (fun K hK=>?_);refine oI rfl (.tmp 28) (.tmp 32) 27 rfl xL (P+1) _ _ _ rfl h7.ownF _ _ _ rfl i3 rfl ?g1 ?g2 ?g3 ?_
  case g1=>unfold maxLen;omega
  case g2=>omega
  case g3=>rw[zL];omega
  intro sa' sc' w8 H1 H8;have H6:=zB h7.box H8 (fun e=>zO h7.ownF h7.box (by decide) e);obtain⟨d0,d1,d2,d3⟩:=zE H6;have f2:=zF H6 2;refine hK.out _ _ ⟨trivial,fun _=>d2⟩ ?_;clear hK K
  try simp only[Act.put,sPa,sPb,sPc]
  have C2:=Kh d2;refine yG 7 ?_;refine oneG (i:=8) (by kernel_rfl) rfl (fun K hK=>?_);go_simp;refine hK.out _ _ ⟨trivial,fun h=>by simp at h⟩ ?_;clear hK K d0 d1 d2 d3 f2 H6
  try simp only[Act.put,sPa,sPb,sPc]
  refine nO (by kernel_rfl) ?_ _;refine NoPanic.normal ?_;obtain⟨hF,m3⟩:=h7.pushF H1 H8 rfl;have d8:=((j3.kept (Ga w6 (.cells #[.bool (decide (b=1))] 4) none) (by simp)).kept H8 (fun k e=>by have:=(h7.ownF.lt k e).1;omega)).kept (zD w8 ⟨P+1,2,none⟩ (.slice sa' (fs.length+1) sc')) (fun k e=>by have e:P+1=k:=Oj e;omega);have d6:=zB (zB (zB (zB k8.out b6 (by simp;omega)) (Ga w6 (.cells #[.bool (decide (b=1))] 4) none)) H8 (fun e=>by have:=(h7.ownF.lt _ e).1;omega)) (zD w8 ⟨P+1,2,none⟩ (.slice sa' (fs.length+1) sc'));have d5:w.grownBy (w8.setCell ⟨P+1,2,none⟩ (.slice sa' (fs.length+1) sc')) (some tb):=zA (zA (zA (zC k4.out b6) (Ga w6 (.cells #[.bool (decide (b=1))] 4) none)) H8 (fun k e=>by have:=(h7.ownF.lt k e).1;have:=h8.out;omega)) (zD w8 ⟨P+1,2,none⟩ (.slice sa' (fs.length+1) sc')) (fun k e=>by have e:P+1=k:=Oj e;have:=h8.out;omega);obtain⟨w9,g4⟩:=Nm (w8.setCell ⟨P+1,2,none⟩ (.slice sa' (fs.length+1) sc'));rw[<-g4]at hF d8 d6 d5⊢;obtain⟨HF,b1,k7,k3⟩:=K4 hF d8 d6 d5;clear g4 m3 hF d8 d6 d5 H1 H8 i3 h7 c4 j3 b6 C2 e9 e5 k4 k8 j8;go_wp2
  go_loopg [10,11] letters (fun gh ov i wx=>∃(a:Nat) (row:List Int) (sr:Option Addr) (cr:Nat),gh+a=letters/\i=.int .i64 a/\row.length=a/\ov=.slice sr row.length cr/\(∀x∈row,0<=x/\x<n)/\wx.ownsRow w9.heap.size 3 1 (.slice sr row.length cr) row.length (ints row)/\wH B wx tb/\w9.grownBy wx (some tb))
  case atStart=>exact⟨0,[],none,0,by omega,rfl,rfl,rfl,(fun x hx=>by simp at hx),World.ownsRow_nil _ _ _ _,b1.out,zH _ _⟩
  obtain⟨a,row,sr,cr,hg,rfl,rfl,rfl,g6,a1,i9,i0⟩:=hrel;obtain⟨b2,h9,d9,H9⟩:=K4 hg a1 i9 i0;clear hg a1 i9 i0;by_cases ha:row.length<letters
  ·have o5:(row.length:Int)<letters:=by omega
   have o1:=d9.out.lt;go_wp2_with fail;refine(tG B tb _ _ (by omega) d9.out).mono ?_;rintro e wy ⟨x,rfl,l3,c6,i8,b4⟩;replace c6:=c6 (by omega);have l1:tb<w9.heap.size:=b1.out.lt;have H0:=zX h9.out b4 (by simpa using l1);have l0:=(zC H9.out b4).size;have e7:=Kh H0;have m5:=Kh i8;have n0:=Kh (zC H9.out b4);clear H0 i8 b4;go_wp2_with (first|(at_builtin;refine app1 rfl _ _ _ rfl yP w9.heap.size _ row.length (ints row) rfl e7.out _ rfl rfl ?c1 ?c2 ?c3 ?_)|fail)
   case c1=>unfold maxLen;omega
   case c2=>omega
   case c3=>exact l0
   intro sr' cr' w10 h5 H5 g9;have e8:=Kh h5;have e6:=Kh (m5.out.kept H5 (fun k e=>by have:=(e7.out.lt k e).1;omega));have f7:=Kh (zA n0.out H5 (fun k e=>(e7.out.lt k e).1));clear h5 H5;go_wp2;go_roundg (letters-(row.length+1))
   case measure=>have:=b2.out;omega
   refine⟨row.length+1,row++[x],sr',cr',by omega,by go_num,by simp,by simp,?_,?_,e6.out,f7.out⟩
   ·intro y hy
    rcases List.mem_append.1 hy with hy|hy
    ·exact g6 y hy
    rw[List.mem_singleton]at hy;subst hy;exact⟨l3,c6⟩
   rw[show ints (row++[x])=ints row++[.int .i64 x] by simp[ints],List.length_append,List.length_singleton];exact e8.out
  have g5:row.length=letters:=by have:=b2.out;omega
  have hH:=HF.out.tape b1.out H9.out;have l2:P+1<=w9.heap.size:=Nat.le_of_lt (zM HF.out.box);have a0:=yU h9.out l2
  have a5:∀i (hi:i<hs.length),∀k,hs[i].ownBlock=some k->(Value.slice sr row.length cr).ownBlock≠some k:=fun i hi k hk e=>by
   have h1:=(HF.out.rows.lt hi hk).2;have h2:=(h9.out.lt k e).1;omega
  have f8:=Kh a5;obtain⟨d0,d1,d2,d3⟩:=zE hH.box;have n9:=zM hH.box;have m1:=b1.out.lt;obtain⟨H2,m7,m8⟩:=K3 hH a0 g5;have n1:=Kh (zC k3.out H9.out);have n5:=Kh (zB k7.out H9.out (by simp;omega));clear hH a0 g5 a5 d0 d1 d2 h9 H9 HF b1 k3 k7;have m9:=Kh H2.out.ownN;have b0:=Kh H7;clear H7;go_wp2_with (first|(at_builtin;refine app1 rfl _ _ _ rfl vX (P+1) _ t.length hs rfl m9.out _ rfl rfl ?c1 ?c2 ?c3 ?_)|fail)
  case c1=>have:=b0.out;unfold maxLen;omega
  case c2=>have:=b0.out;omega
  case c3=>omega
  intro sn' cn' w11 h4 h3 g8;have H6:=zB H2.out.box h3 (fun e=>zO H2.out.ownN H2.out.box (by decide) e);obtain⟨d0,d1,d2,d3⟩:=zE H6;have f2:=zF H6 3;obtain⟨hN,m2⟩:=H2.out.pushN h4 h3 m7.out f8.out rfl;have j1:=(d9.out.kept h3 (fun k e=>by have:=(H2.out.ownN.lt k e).1;omega)).kept (zD w11 ⟨P+1,3,none⟩ (.slice sn' (t.length+1) cn')) (fun k e=>by have e:P+1=k:=Oj e;omega);have i6:=zB (zB n5.out h3 (fun e=>by have:=(H2.out.ownN.lt _ e).1;omega)) (zD w11 ⟨P+1,3,none⟩ (.slice sn' (t.length+1) cn'));have a2:w.grownBy (w11.setCell ⟨P+1,3,none⟩ (.slice sn' (t.length+1) cn')) (some tb):=zA (zA n1.out h3 (fun k e=>by have:=(H2.out.ownN.lt k e).1;have:=h8.out;omega)) (zD w11 ⟨P+1,3,none⟩ (.slice sn' (t.length+1) cn')) (fun k e=>by have e:P+1=k:=Oj e;have:=h8.out;omega);obtain⟨n2,e4,f9,f5⟩:=K4 hN j1 i6 a2;clear m2 H6 hN j1 i6 a2 h4 h3;go_wp2;go_roundg (n-(fs.length+1))
  case measure=>have:=HG.out;omega
  refine⟨fs.length+1,fs++[decide (b=1)],t++[row],_,sa',sc',sn',cn',by omega,by go_num,by simp,by simp[b0.out],?_,n2.out,e4.out,f9.out,f5.out⟩;intro r hr;rcases List.mem_append.1 hr with hr|hr
  ·exact k2.out r hr
  rw[List.mem_singleton]at hr;subst hr;exact⟨m8.out,g6⟩
 have a4:fs.length=n:=by have:=HG.out;omega
 have hB:=HH.out;have n4:=Kh a4;have n6:=Kh hB;obtain⟨d0,d1,d2,d3⟩:=zE HH.out.box;obtain⟨e0,e1,e2,e3⟩:=zE h0.out;have f0:=zF h0.out 0;have f1:=zF h0.out 1;have f2:=zF h0.out 2;have f3:=zF h0.out 3;have b0:=Kh H7;clear hB a4 H7;go_wp2;refine bodyPost_ret (v:=.agg #[.int .i64 letters,.int .i64 s,.slice sf fs.length cf,.slice sn t.length cn]) (by simp[results,Tryz.results20,go_sem,e0,e1,e2,e3]) rfl ?_;obtain⟨o2,d4⟩:=vY h0.out (.int .i64 letters) (.int .i64 s) (.slice sf fs.length cf) (.slice sn t.length cn);have l4:=c5.out.lt;have a4:=n4.out;have H7:=b0.out;refine⟨_,⟨letters,s,fs,t⟩,n,rfl,⟨P+1,hs,sf,cf,sn,cn,rfl,by have:=h8.out;omega,(n6.out.base (by have:=h8.out;omega)).far d4 h0.out (by omega)⟩,k2.out.vd h1 h6 l9 (by omega) a4 (H7.trans a4) l6 c8,l8,c5.out.kept d4 (fun k e=>by have e:P=k:=Oj e;omega),zY f4.out d4 (by show _<=P;have:=h8.out;omega)⟩
def iU (R:DfaV->Nat->Prop)(B tb:Nat)(w:World)(letters most:Nat)(e:Ending)(w':World):Prop :=
 ∃(v:Value) (m:DfaV) (n:Nat),e=.returned v/\qLL w w' v m/\VD m n letters/\n<=most/\R m n/\wH B w' tb/\w.grownBy w' (some tb)
def qOI (t:List (List Int))(k q a:Nat):Prop:=∀q' a',a'<k->(q'<q\/(q'=q/\a'<a))->(q':Int)<=ent t q' a'
def OrdD (m:DfaV)(n:Nat):Prop:=m.start=0/\∀k:Nat,m.letters=k->qOI m.next k n 0
theorem lW {t:List (List Int)}{q a q' a':Nat}{x:Int}(hq:q<t.length)(ha:a<(t.getD q []).length):ent (t.set q ((t.getD q []).set a x)) q' a'=if q'=q/\a'=a then x else ent t q' a':=by
 unfold ent;by_cases h:q'=q
 ·subst h
  rw[dX _ _ _ _ hq];by_cases h2:a'=a
  ·subst h2;rw[dX _ _ _ _ ha];simp
  rw[getD_set_ne _ _ _ _ _ (Ne.symm h2)];simp[h2]
 rw[getD_set_ne _ _ _ _ _ (Ne.symm h)];simp[h]
theorem qOI.step {t:List (List Int)}{k q a:Nat}{x:Int}(h:qOI t k q a)(hq:q<t.length)(ha:a<(t.getD q []).length)(hx:(q:Int)<=x):qOI (t.set q ((t.getD q []).set a x)) k q (a+1):=by
 intro q' a' h1 h2;rw[lW hq ha]
 split
 ·rename_i h3;rw[h3.1];exact hx
 rename_i h3
 refine h q' a' h1 ?_;rcases h2 with h2|⟨h2,h4⟩
 ·exact .inl h2
 exact .inr ⟨h2,by
  rcases Nat.lt_or_ge a' a with h5|h5
  ·exact h5
  exact absurd ⟨h2,by omega⟩ h3⟩
theorem pB.ent {t:List (List Int)}{n k q a:Nat}(h:pB t n k)(hq:q<t.length)(ha:a<k):0<=ent t q a/\ent t q a<n:=by
 have h:=h (t.getD q []) (mW hq);have h0:a<(t.getD q []).length:=by omega
 exact h.2 ((t.getD q []).getD a 0) (mW h0)
theorem Half.start {base o:Nat}{W:World}{L S:Int}{fs:List Bool}{t:List (List Int)}{hs:List Value}{sf sn:Option Addr}{cf cn:Nat}(h:Half base W o L S fs t hs sf cf sn cn)(S':Int):Half base (W.setCell ⟨o,1,none⟩ (.int .i64 S')) o L S' fs t hs sf cf sn cn:=by
 have h0:=zD W ⟨o,1,none⟩ (.int .i64 S');have s1:=heap_setCell_same W o 1 _ _ (.int .i64 S') h.box;refine⟨by rw[s1];simp,h.ownF.kept h0 (.inr (zO h.ownF h.box (by decide))),h.ownN.kept h0 (.inr (zO h.ownN h.box (by decide))),h.rows.kept h0 (fun k e=>.inr ?_)⟩;have e:o=k:=Oj e;subst e;exact⟨_,_,_,h.box,by decide⟩
theorem qWC (B tb:Nat)(w:World)(letters most:Nat)(h1:1<=letters)(h6:letters<=6)(a9:1<=most)(hm:most<=500)(hT:wH B w tb):Calls Tryz.prog 17 #[.pointer (some ⟨tb,0,none⟩),.int .i64 (letters:Int),.int .i64 (most:Int)] w (iU OrdD B tb w letters most):=by
 have f6:=hT.lt;have i4:=hT.ge;obtain⟨P,hP⟩:=Nm w.heap.size;have H6:=Kh hP;obtain⟨wA,b6⟩:=Nm (w.alloc (.cells #[.int .i64 0,.int .i64 0,.slice none 0 0,.slice none 0 0] 30));have a7:=heap_alloc_new w (.cells #[.int .i64 0,.int .i64 0,.slice none 0 0,.slice none 0 0] 30);have a5:=Ga w (.cells #[.int .i64 0,.int .i64 0,.slice none 0 0,.slice none 0 0] 30) none;have b9:=zL w (.cells #[.int .i64 0,.int .i64 0,.slice none 0 0,.slice none 0 0] 30);rw[<-b6]at a7 a5 b9;rw[<-hP]at a7 b9 f6;have c7:=Kh (hT.kept a5 (by simp));obtain⟨f2,g3,g2⟩:=K3 a7 a5 b6;have HD:=Kh (qKF B tb wA letters most h1 h6 a9 hm c7.out);clear a7 a5 b6 hT;go_enter Tryz.func17,Tryz.ntmps17;go_upto_region 1 with fail;rw[<-g2.out,<-H6.out];clear hP;go_wp2_with fail;refine HD.out.mono ?_;rintro e w1 ⟨v,⟨L,S,fs,t⟩,n,rfl,b2,h5,f8,c5,a6⟩;obtain⟨o,hs,sf,cf,sn,cn,rfl,ho,hH⟩:=b2;have hL:L=letters:=h5.hk;subst hL;have c3:fs.length=n:=h5.hn;have h3:t.length=n:=h5.nl
 have h0:pB t n letters:=fun r hr=>by
  obtain⟨q,hq,rfl⟩:=List.getElem_of_mem hr;have e:t.getD q []=t[q]:=by simp[List.getD_eq_getElem?_getD,hq]
  have hl:t[q].length=letters:=by rw[<-e];exact h5.row q (by omega)
  refine⟨hl,fun x hx=>?_⟩;obtain⟨a,ha,rfl⟩:=List.getElem_of_mem hx;have e2:ent t q a=t[q][a]:=by unfold Proofs.YtcoimliafiammaaGreat.ent;rw[e];simp[List.getD_eq_getElem?_getD,ha]
  rw[<-e2];exact⟨h5.lo q a (by omega) (by omega),h5.hi q a (by omega) (by omega)⟩
 have f9:=h5.n1;have g7:=h5.nbig;obtain⟨e9,c9,HH,d5,b8,f0⟩:=K6 a6 c5 hH h0 h3 c3;have f4:=Kh (zB f2.out a6 (by simp;omega));have HO:=Kh ho;have g4:=a6.size;clear a6 c5 hH h0 h5 ho HD c7 f2;go_upto_region 2 with fail;obtain⟨Q,hQ⟩:=Nm w1.heap.size;have H5:=Ga w1 (.cells #[.int .i64 letters,.int .i64 S,.slice sf n cf,.slice sn n cn] 30) none;have H9:=heap_alloc_new w1 (.cells #[.int .i64 letters,.int .i64 S,.slice sf n cf,.slice sn n cn] 30);obtain⟨w2,c2⟩:=Nm (w1.alloc (.cells #[.int .i64 letters,.int .i64 S,.slice sf n cf,.slice sn n cn] 30));rw[<-c2]at H9 H5⊢;rw[<-hQ]at H9⊢;have c6:=(HH.out.grow H5).move (L':=letters) (S':=S) (o':=Q) (by rw[f0.out,b8.out];exact H9);have d7:=Kh c6;have f3:=Kh (zB f4.out H5);have c8:=Kh (c9.out.kept H5 (by simp));have d9:=Kh (zA (zC (zA (zH w (some tb)) g3.out) e9.out) H5);obtain⟨d0,d1,d2,d3⟩:=zE H9;have b7:P<Q:=by omega
 clear H5 H9 c2 c6 HH f4 c9 e9 d0 d1 d2 h3 c3;have HQ:=Kh hQ;clear hQ;go_wp2
 go_loopg [8,9,10,18] n (fun gh v8 v9 v10 i wr=>∃(q:Nat) (t:List (List Int)),gh+q=n/\i=.int .i64 q/\t.length=n/\pB t n letters/\qOI t letters q 0/\Half wA.heap.size wr Q letters S fs t hs sf cf sn cn/\wH B wr tb/\wr.heap[P]?=some (.cells #[.int .i64 0,.int .i64 0,.slice none 0 0,.slice none 0 0] 30 (0,0))/\w.grownBy wr (some tb))
 case atStart=>exact⟨0,t,by omega,rfl,b8.out,d5.out,fun q' a' _ h=>by omega,d7.out,c8.out,f3.out,d9.out⟩
 obtain⟨q,t,hg,rfl,h3,h0,h4,hH,a0,H8,H7⟩:=hrel;obtain⟨HG,HH,a8,h8,b0,H2⟩:=K6 hg hH a0 H8 H7 h0;have H3:=Kh h4;have H1:=Kh h3;clear hg a0 H8 H7 d9 c8 f3 d7 d5 b8 h4;by_cases hq:q<n
 ·have g6:(q:Int)<n:=by omega
  have H4:(t.getD q []).length=letters:=(h0 _ (mW (by omega))).1;obtain⟨kb,g,c,rfl,e1,e2,e3,e4,e5,e6,e7,e8⟩:=hH.at (q:=q) (by omega) (by omega);obtain⟨d0,d1,d2,d3⟩:=zE hH.box;rw[H4]at e3 e4 e5;rw[h3]at d3 e1;obtain⟨E3,E2,E6,E7⟩:=K4 e3 e2 e6 e7;have i1:cn<=9223372036854775807:=by unfold maxLen at e2;omega
  have hc:c<=9223372036854775807:=by unfold maxLen at e6;omega
  clear d0 d1 d2 e8 e3 e2 e6 H4 h0 h3 hH;go_wp2;obtain⟨wo,c1⟩:=Nm wr;rw[<-c1]at HH a8 h8 b0⊢;clear d3 e4 c1 wr
  go_loopg [9,10,27] letters (fun gh v9 v10 i wx=>∃(a:Nat) (t':List (List Int)),gh+a=letters/\i=.int .i64 a/\t'.length=n/\pB t' n letters/\qOI t' letters q a/\Half wA.heap.size wx Q letters S fs t' hs sf cf (some ⟨kb,0,none⟩) cn/\wH B wx tb/\wx.heap[P]?=some (.cells #[.int .i64 0,.int .i64 0,.slice none 0 0,.slice none 0 0] 30 (0,0))/\w.grownBy wx (some tb))
  case atStart=>exact⟨0,t,by omega,rfl,H1.out,H2.out,H3.out,HH.out,a8.out,h8.out,b0.out⟩
  obtain⟨a,t',hg,rfl,h3,h0,h4,hH,a0,H8,H7⟩:=hrel;obtain⟨d8,d6,a1,a4,a3,a2⟩:=K6 hg hH a0 H8 H7 h0;have H0:=Kh h4;have h7:=Kh h3;clear hg a0 H8 H7 b0 a8 h8 HH H2 H1 H3 h4;by_cases ha:a<letters
  ·have i3:(a:Int)<letters:=by omega
   have H4:(t'.getD q []).length=letters:=(h0 _ (mW (by omega))).1;obtain⟨kb',g',c',e0,e1',e2,e3,e4,e5',e6,e7',e8⟩:=hH.at (q:=q) (by omega) (by omega);have e0:kb=kb':=by simpa using e0
   subst e0;rw[H4]at e3 e4 e5';rw[E3.out]at e3;simp only[Option.some.injEq,Value.slice.injEq,Addr.mk.injEq,and_true,true_and]at e3;obtain⟨rfl,rfl⟩:=e3;obtain⟨d0,d1,d2,d3⟩:=zE hH.box;rw[h3]at d3 e1';have h9:=e8.int a (by omega);have i0:=e8.frozen a;have g0:=h0.ent (q:=q) (a:=a) (by omega) ha;have hx:(t'.getD q []).getD a 0=ent t' q a:=rfl;rw[hx]at h9;obtain⟨x,c0⟩:=Nm (ent t' q a);rw[<-c0]at h9 g0;obtain⟨x,rfl⟩:∃y:Nat,x=y:=⟨x.toNat,by omega⟩;have E8:=Kh e8;have d4:=Kh H4;clear d0 d1 d2 e8 e2 e6 H4 h0 h3 hH hx c0;go_wp2
   all_goals
    go_roundg (letters-(a+1))
    case measure=>have:=d8.out;omega
    obtain⟨y,hy⟩:=Nm (max (q:Int) (x:Int):Int)
    first
    |
     have b1:(x:Int)=y:=by omega
     rw[b1]
    |
     have b1:(q:Int)=y:=by omega
     rw[b1]
    | rw[<-hy]
    have b5:=zD wr ⟨g,a,none⟩ (.int .i64 y);have g8:P<g:=(by omega);have g9:w.heap.size<=g:=by have:=H6.out;omega
    have f5:tb≠g:=(by omega);refine⟨a+1,t'.set q ((t'.getD q []).set a y),by omega,by go_num,by rw[List.length_set];exact h7.out,a2.out.set (by have:=h7.out;omega) (by omega) (by omega),H0.out.step (by have:=h7.out;omega) (by have:=d4.out;omega) (by omega),d6.out.poke E3.out E8.out (by have:=d4.out;omega) _,a1.out.kept b5 (fun k e=>by have e:g=k:=Oj e;omega),zB a4.out b5 (fun e=>by have e:g=P:=Oj e;omega),zY a3.out b5 (by show _<=g;omega)⟩
  have i2:a=letters:=by have:=d8.out;omega
  clear h0 h3 hH;go_wp2;go_roundg (n-(q+1))
  case measure=>have:=HG.out;omega
  refine⟨q+1,t',by omega,by go_num,h7.out,a2.out,fun q' a' h1 h2=>H0.out q' a' h1 (by omega),d6.out,a1.out,a4.out,a3.out⟩
 have f7:q=n:=by have:=HG.out;omega
 obtain⟨d0,d1,d2,d3⟩:=zE hH.box;obtain⟨x0,x1,x2,x3⟩:=zE h8.out;have f1:=zF hH.box 1;have y0:=zF h8.out 0;have y1:=zF h8.out 1;have y2:=zF h8.out 2;have y3:=zF h8.out 3;clear h0 h3 hH;go_wp2;refine bodyPost_ret (v:=.agg #[.int .i64 letters,.int .i64 0,.slice sf fs.length cf,.slice sn t.length cn]) (by simp[results,Tryz.results17,go_sem,x0,x1,x2,x3,b7,Nat.ne_of_lt b7,Nat.ne_of_gt b7]) rfl ?_;have g1:=HH.out.start 0;have b4:=zD wr ⟨Q,1,none⟩ (.int .i64 0);have c4:=zB h8.out b4 (fun e=>by have e:Q=P:=Oj e;omega);obtain⟨g5,b3⟩:=vY c4 (.int .i64 letters) (.int .i64 0) (.slice sf fs.length cf) (.slice sn t.length cn);refine⟨_,⟨letters,0,fs,t⟩,n,rfl,⟨Q,hs,sf,cf,sn,cn,rfl,by have:=H6.out;omega,(g1.base (by have:=H6.out;omega)).far b3 c4 (by omega)⟩,H2.out.vd h1 h6 f9 (by omega) f0.out H1.out (by omega) (by omega),f8,⟨rfl,fun k hk=>?_⟩,(a8.out.kept b4 (fun k e=>by have e:Q=k:=Oj e;omega)).kept b3 (fun k e=>by have e:P=k:=Oj e;omega),zY (zY b0.out b4 (by show _<=Q;have:=H6.out;omega)) b3 (by show _<=P;have:=H6.out;omega)⟩;have hk:letters=k:=Int.ofNat.inj hk;subst hk;subst f7;exact H3.out
theorem xBP (n:Nat)(h:n<=4096):∀w:World,(Instr.makeSlice 22 (.int .i64 (n:Int)) (.int .i64 (n:Int))).run Tryz.prog w=.ok (.slice (some ⟨w.heap.size,0,none⟩) n n) (w.alloc (.cells (madeCells #[.int .i64 0] n) 3)) :=
 fun w=>run_make_row' 22 3 (.int .i64 0) 8 Tryz.underlying22 (by kernel_rfl) rfl .i64 .i64 n (by omega) (by omega) w
theorem qWN (n:Nat):(madeCells #[.int .i64 0] n).toList=nats (List.replicate n 0):=by
 have:=mU (z:=.int .i64 0) rfl n;rw[Nat.mul_one]at this;rw[xJ];exact this
end Go.Proofs.YtcoimliafiammaaGreat
