/- Part 18 of the proof. -/
import Derived.Test.YtjfdomfendbhfaaQf17
import Derived.Deep.RegionHeld
set_option linter.unusedVariables false
set_option linter.unusedSimpArgs false
set_option maxRecDepth 100000
set_option maxHeartbeats 16000000
namespace Go.Proofs.Ytjfdomfendbhfaa
open Go.RowKit
theorem validRef_any (B:Nat)(w:World)(pv cv:Value)(root:Int)(cs:List ChoV)(i:Nat)(r:Int)(h:qN B w cv cs)(hi:i<cs.length):
  Calls Try.prog 37 #[.agg #[pv,cv,.int .i64 root],.int .i64 (i:Int),.int .i64 r] w fun e w'=>e=.returned (.bool (refB cs i (cs.getD i default).p r))/\w.grownBy w' none:=by
 obtain⟨b,off,cap,rfl,hb,hc,hm,h9⟩:=h.at_ (by omega);have H6:cap<=9223372036854775807:=by unfold maxLen at hm;omega
 obtain⟨n,hn⟩:∃ n,n=cs.length:=⟨_,rfl⟩;have HN:=Kh hn;have h8:=hi;rw[<- hn]at hc hi ⊢;have h4:=Ga w (.cells #[pv,.slice (some ⟨b,off,none⟩) n cap,.int .i64 root] 25) none;have h5:=heap_alloc_new w (.cells #[pv,.slice (some ⟨b,off,none⟩) n cap,.int .i64 root] 25);obtain⟨wA,h7⟩:∃ w1,w1=w.alloc (.cells #[pv,.slice (some ⟨b,off,none⟩) n cap,.int .i64 root] 25):=⟨_,rfl⟩;obtain⟨P,hP⟩:∃ P,P=w.heap.size:=⟨_,rfl⟩;rw[<- h7]at h4 h5;rw[<- hP]at h5;have h3:=h9.kept h4 (by simp);obtain⟨p0,p1,p2⟩:=zH h5;have c1:=h3.p i h8;have H2:=Kh h3;have H0:=Kh h7;have H1:=Kh hP;have h6:=Kh h4;obtain⟨x,hx⟩:∃ x,x=(cs.getD i default).p:=⟨_,rfl⟩;have HX:=Kh hx;rw[<- hx]at c1;rw[<- hx];have H5:(i:Int)<n:=by omega
 have H4:(0:Int)<=i:=by omega
 clear h h9 h3 h4 h5 h7 hP hx hn h8;go_enter Try.func37,Try.ntmps37;go_upto_region 1 with fail;rw[<- H0.out,<- H1.out];by_cases h0:r<0
 ·have HR:Hid (refB cs i x r=false):=Kh (by simp[refB];omega)
  go_wp2;go_ret;exact⟨zY HR.out.symm,h6.out⟩
 by_cases h1:1+(i:Int)<r
 ·have HR:Hid (refB cs i x r=false):=Kh (by simp[refB];omega)
  go_wp2;go_ret;exact⟨zY HR.out.symm,h6.out⟩
 by_cases h2:r<2
 ·have HR:Hid (refB cs i x r=true):=Kh (by simp[refB];omega)
  have hd:decide (r<2)=true:=by simpa using h2
  go_wp2
  go_quiet (fail)
  go_wp2;go_ret;exact⟨zY (by rw[HR.out]),zB h6.out (by first|exact zP _ none|exact zN _ _ none) (by simp)⟩
 ·have hd:decide (r<2)=false:=by simpa using h2
  obtain⟨q,rfl⟩:∃ q:Nat,r=(q:Int)+2:=⟨(r - 2).toNat,by omega⟩;have c2:=H2.out.p q (by have:=HN.out;omega);have e2:IntKind.i64.wrap ((q:Int)+2 - 2)=(q:Int):=by rw[show (q:Int)+2 - 2=q by omega];exact wG (by unfold maxLen at hm;omega)
  have e3:(q:Int)+2 - 2=(q:Int):=by omega
  have hq:q<n:=by omega
  have H3:(q:Int)<n:=by omega
  obtain⟨y,hy⟩:∃ y,y=(cs.getD q default).p:=⟨_,rfl⟩;rw[<- hy]at c2
  have HR:Hid (refB cs i x ((q:Int)+2)=decide (x<y)):=Kh (by
   have e:((q:Int)+2).toNat - 2=q:=by omega
   simp only[refB,e,<- hy];rw[Bool.eq_iff_iff];simp only[Bool.and_eq_true,decide_eq_true_eq]
   omega)
  clear hy;go_wp2
  go_quiet (fail)
  go_wp2;go_ret;exact⟨zY (by rw[HR.out]),zB h6.out (by first|exact zP _ none|exact zN _ _ none) (by simp)⟩
theorem iI (B:Nat)(w:World)(v:Value)(g:DiaV)(letters:Int)(hB:B<=w.heap.size)(h:qM B w v g):
  Calls Try.prog 9 #[v,.int .i64 letters] w fun e w'=>e=.returned (.int .i64 (diaE g letters))/\w.grownBy w' none:=by
 obtain⟨pv,cv,rfl,hp,hc⟩:=h;obtain⟨pa,pc,rfl⟩:=hp.shape;obtain⟨ca,cc,rfl⟩:=hc.shape;have a6:=hp.len_le;have b8:=hc.len_le;unfold maxLen at a6 b8;obtain⟨ps,cs,root⟩:=g;simp only at hp hc a6 b8 ⊢;obtain⟨np,b5⟩:∃ n,n=ps.length:=⟨_,rfl⟩;obtain⟨nc,b6⟩:∃ n,n=cs.length:=⟨_,rfl⟩;rw[<- b5]at hp a6 ⊢;rw[<- b6]at hc b8 ⊢;have h9:=Ga w (.cells #[.slice pa np pc,.slice ca nc cc,.int .i64 root] 25) none;have a3:=heap_alloc_new w (.cells #[.slice pa np pc,.slice ca nc cc,.int .i64 root] 25);obtain⟨wA,c0⟩:∃ w1,w1=w.alloc (.cells #[.slice pa np pc,.slice ca nc cc,.int .i64 root] 25):=⟨_,rfl⟩;obtain⟨P,hP⟩:∃ P,P=w.heap.size:=⟨_,rfl⟩;rw[<- c0]at h9 a3;rw[<- hP]at a3;have d3:=hp.kept h9 (by simp);have d6:=hc.kept h9 (by simp);obtain⟨p0,p1,p2⟩:=zH a3;have e3:=h9.size;have H2:=Kh b5;have h7:=Kh b6;have f4:=Kh d3;have f6:=Kh d6;have c8:=Kh a3;have f0:=Kh c0;have f5:=Kh hP;have h0:=Kh h9;have g0:Hid (B<=wA.heap.size):=Kh (by omega);clear hp hc d3 d6 h9 a3 c0 hP b5 b6 e3;go_enter Try.func9,Try.ntmps9;go_upto_region 1 with fail;rw[<- f0.out,<- f5.out];by_cases h1:letters<1
 ·go_wp2
  go_ret;exact⟨yC (qAK (.inl h1)).symm,h0.out⟩
 by_cases h2:6<letters
 ·go_wp2
  go_ret;exact⟨yC (qAK (.inr h2)).symm,h0.out⟩
 have H1:Hid (¬ (letters<1\/6<letters)):=Kh (by omega);by_cases h3:300<np
 ·have e9:(300:Int)<np:=by omega
  go_wp2;go_ret;exact⟨yC (gW H1.out (.inl (by rw[<- H2.out];exact h3))).symm,h0.out⟩
 have e9:¬ (300:Int)<np:=by omega
 by_cases h4:20000<nc
 ·have e8:(20000:Int)<nc:=by omega
  go_wp2;go_ret;exact⟨yC (gW H1.out (.inr (by rw[<- h7.out];exact h4))).symm,h0.out⟩
 have e8:¬ (20000:Int)<nc:=by omega
 have H3:Hid (¬ (300<ps.length\/20000<cs.length)):=Kh (by rw[<- H2.out,<- h7.out];omega);go_wp2
 go_loopg [6,7,29] np (fun gh s6 s7 i wr=>∃ k:Nat,gh+k=np/\i=.int .i64 k/\vM letters (ps.drop k)=vM letters ps/\wA.grownBy wr none)
 case atStart=>exact⟨0,rfl,rfl,rfl,zM _ _⟩
 case round =>
  obtain⟨k,a2,rfl,d2,hg⟩:=hrel;have H7:=Kh a2;have HG:=Kh hg;have H6:=Kh d2;clear a2 d2;by_cases hk:k<np
  ·have e6:(k:Int)<np:=by omega
   have d1:=f4.out.kept hg (by simp);obtain⟨b,off,cap,e,e7,H0,b9,H5⟩:=d1.at_ (by rw[<- H2.out];omega);rw[<- H2.out]at e H0 H5;simp only[Value.slice.injEq,true_and]at e;obtain⟨rfl,rfl⟩:=e;obtain⟨sa,sc,c1,H4,b4⟩:=H5 k hk;obtain⟨q,hq⟩:∃ q,q=ps.getD k []:=⟨_,rfl⟩;rw[<- hq]at c1 H4 b4;have e4:pc<=9223372036854775807:=by unfold maxLen at b9;omega
   have HV:Hid (∀ W:World,wr.grownBy W none->Calls Try.prog 36 #[.agg #[.slice sa q.length sc],.int .i64 letters] W fun e w'=>e=.returned (.int .i64 (patW q letters))/\wA.grownBy w' none):=Kh (fun W hW=>(kZ B W _ q letters (H4.kept hW (by simp)) b4).mono fun e w' ⟨he,hg'⟩=>⟨he,zB HG.out (zD hW hg') (by simp)⟩);have HQ:=Kh hq;obtain⟨E,hE⟩:∃ E,E=patW q letters:=⟨_,rfl⟩;rw[<- hE]at HV;have HE:=Kh hE;obtain⟨ql,d0⟩:∃ n,n=q.length:=⟨_,rfl⟩;rw[<- d0]at c1 HV;clear d1 H5 H4 b4 hq hg hE d0;go_wp2_with fail;refine(HV.out _ (Ga wr _ none)).mono ?_;rintro e w1 ⟨rfl,h9⟩;have e0:=Kh h9;clear h9 HV;by_cases hE:E=0
   ·have e1:(E != 0)=false:=by simp[hE]
    have c6:=Kh hE;clear hE;go_wp2;go_roundg (np - (k+1))
    case measure=>have:=H7.out;omega
    case rel=>exact⟨k+1,by have:=H7.out;omega,by go_num,(mO (by rw[<- H2.out];exact hk) (by rw[<- HQ.out,<- HE.out];exact c6.out)).trans H6.out,e0.out⟩
   ·have e1:(E != 0)=true:=by rw[bne_iff_ne];exact hE
    have c6:=Kh hE;clear hE;go_wp2;go_ret;exact⟨yC (by rw[qFJ (g:=⟨ps,cs,root⟩) H1.out H3.out (k:=k) (by rw[<- H2.out];exact hk) H6.out (by rw[<- HQ.out,<- HE.out];exact c6.out)];show E=patW (ps.getD k []) letters;rw[<- HQ.out,<- HE.out]),zB h0.out (e0.out) (by simp)⟩
  ·have e5:k=np:=by have:=H7.out;omega
   have f3:Hid (vM letters ps=0):=Kh (by rw[<- H6.out];exact jA (by rw[<- H2.out];exact hk));have H9:Hid (diaE ⟨ps,cs,root⟩ letters=dH ps.length cs root):=Kh (qFK H1.out H3.out f3.out);have a0:¬ (k:Int)<np:=(by omega);obtain⟨p0,p1,p2⟩:=zH (zA c8.out hg (by simp));clear e5 hg H7 a6;go_wp2;clear p0 p1 p2
   go_loopg [8,9,43] nc (fun gh s8 s9 i wr=>∃ k:Nat,gh+k=nc/\i=.int .i64 k/\wE ps.length cs k/\wA.grownBy wr none)
   case atStart=>exact⟨0,rfl,rfl,dF _ _,HG.out⟩
   case round =>
    clear HG a0 hk;obtain⟨k,a2,rfl,d5,hg⟩:=hrel;have H7:=Kh a2;have HG:=Kh hg;have e2:=Kh d5;clear a2 d5;by_cases hk:k<nc
    ·have e6:(k:Int)<nc:=by omega
     have b7:=f6.out.kept hg (by simp);have f7:=Kh b7;obtain⟨b,off,cap,e,e7,H0,b9,a9⟩:=b7.at_ (by rw[<- h7.out];omega);rw[<- h7.out]at e H0;simp only[Value.slice.injEq,true_and]at e;obtain⟨rfl,rfl⟩:=e;have e4:cc<=9223372036854775807:=by unfold maxLen at b9;omega
     have a1:k<cs.length:=(by rw[<- h7.out];exact hk);have c1:=a9.p k a1;have c2:=a9.y k a1;have c3:=a9.n k a1;have a4:Hid (∀ (W:World) (r:Int),wr.grownBy W none->Calls Try.prog 37 #[.agg #[.slice pa np pc,.slice (some ⟨b,off,none⟩) nc cc,.int .i64 root],.int .i64 (k:Int),.int .i64 r] W fun e w'=>e=.returned (.bool (refB cs k (cs.getD k default).p r))/\W.grownBy w' none):=Kh (fun W r hW=>validRef_any B W _ _ root cs k r (f7.out.kept hW (by simp)) a1);obtain⟨c,b0⟩:∃ c,c=cs.getD k default:=⟨_,rfl⟩;rw[<- b0]at c1 c2 c3 a4;have HC:=Kh b0
     have h8:Hid (choB ps.length cs k=(decide (0<=c.p/\c.p<np) && (refB cs k c.p c.y && refB cs k c.p c.n))):=Kh (by
      rw[b0,H2.out];rfl)
     clear b7 a9 a1 b0;obtain⟨x,y,n⟩:=c;simp only at c1 c2 c3 a4 h8;obtain⟨by_,d7⟩:∃ b,b=refB cs k x y:=⟨_,rfl⟩;obtain⟨bn,d8⟩:∃ b,b=refB cs k x n:=⟨_,rfl⟩;have c4:=Kh (fun W hW=>a4.out W y hW);have c5:=Kh (fun W hW=>a4.out W n hW);rw[<- d7]at c4 h8;rw[<- d8]at c5 h8;have H0:=heap_alloc_new wr (.cells #[.int .i64 x,.int .i64 y,.int .i64 n] 45);have a8:=Ga wr (.cells #[.int .i64 x,.int .i64 y,.int .i64 n] 45) none;obtain⟨w2,b3⟩:∃ w2,w2=wr.alloc (.cells #[.int .i64 x,.int .i64 y,.int .i64 n] 45):=⟨_,rfl⟩;obtain⟨R,hR⟩:∃ R,R=wr.heap.size:=⟨_,rfl⟩;rw[<- b3]at H0 a8;rw[<- hR]at H0;have f1:=Kh b3;have f2:=Kh hR;have f9:=Kh H0;have H8:=Kh a8;have a5:=Kh (zA (zA c8.out hg (by simp)) a8 (by simp));obtain⟨p0,p1,p2⟩:=zH a5.out;obtain⟨r0,r1,r2⟩:=zH H0;clear d7 d8 b3 hR H0 a8 hg a4;go_upto_region 15 with fail;rw[<- f1.out,<- f2.out];clear c1 c2 c3;by_cases hx0:x<0
     ·have HF:Hid (choB ps.length cs k=false):=Kh (by rw[h8.out,show decide (0<=x/\x<(np:Int))=false by simp;omega];rfl)
      go_wp2;go_ret;exact⟨yC (by rw[H9.out,sC (by rw[<- h7.out];exact hk) HF.out]),zB h0.out (zB HG.out H8.out (by simp)) (by simp)⟩
     by_cases hx1:(np:Int)<=x
     ·have HF:Hid (choB ps.length cs k=false):=Kh (by rw[h8.out,show decide (0<=x/\x<(np:Int))=false by simp;omega];rfl)
      go_wp2;go_ret;exact⟨yC (by rw[H9.out,sC (by rw[<- h7.out];exact hk) HF.out]),zB h0.out (zB HG.out H8.out (by simp)) (by simp)⟩
     have c9:decide (0<=x/\x<(np:Int))=true:=by simp;omega
     rw[c9,Bool.true_and]at h8;clear c9;go_wp2_with fail;refine(c4.out _ H8.out).mono ?_;rintro e w3 ⟨rfl,a7⟩;have b1:=Kh a7;have c7:=Kh (zA a5.out a7 (by simp));have f8:=Kh (zA f9.out a7 (by simp));obtain⟨p0,p1,p2⟩:=zH c7.out;obtain⟨r0,r1,r2⟩:=zH f8.out;clear a7 c4;cases by_ with
     | false =>
      have HF:Hid (choB ps.length cs k=false):=Kh (by rw[h8.out];rfl);go_wp2;go_ret;exact⟨yC (by rw[H9.out,sC (by rw[<- h7.out];exact hk) HF.out]),zB h0.out (zB (zB HG.out H8.out (by simp)) b1.out (by simp)) (by simp)⟩
     | true =>
      rw[Bool.true_and]at h8;go_wp2_with fail;refine(c5.out _ (zD H8.out b1.out)).mono ?_;rintro e w4 ⟨rfl,d4⟩;have d9:=Kh d4;clear d4 c5;cases bn with
      | false =>
       have HF:Hid (choB ps.length cs k=false):=Kh h8.out;go_wp2;go_ret;exact⟨yC (by rw[H9.out,sC (by rw[<- h7.out];exact hk) HF.out]),zB h0.out (zB (zB (zB HG.out H8.out (by simp)) b1.out (by simp)) d9.out (by simp)) (by simp)⟩
      | true =>
       go_wp2;go_roundg (nc - (k+1))
       case measure=>have:=H7.out;omega
       case rel=>exact⟨k+1,by have:=H7.out;omega,by go_num,oP e2.out h8.out,zB (zB (zB HG.out H8.out (by simp)) b1.out (by simp)) d9.out (by simp)⟩
    ·have a0:¬ (k:Int)<nc:=by omega
     have b2:=Kh (dG (root:=root) (by rw[<- h7.out];exact hk) e2.out);rw[<- h7.out]at b2;obtain⟨p0,p1,p2⟩:=zH (zA c8.out hg (by simp));clear hg;by_cases h5:root<0
     ·go_wp2
      go_ret;exact⟨yC (by rw[H9.out,b2.out,if_neg (by omega)]),zB h0.out (HG.out) (by simp)⟩
     by_cases h6:1+(nc:Int)<root
     ·go_wp2
      go_ret;exact⟨yC (by rw[H9.out,b2.out,if_neg (by omega)]),zB h0.out (HG.out) (by simp)⟩
     go_wp2;go_ret;exact⟨yC (by rw[H9.out,b2.out,if_pos (by omega)]),zB h0.out (HG.out) (by simp)⟩
theorem dL (B:Nat)(w:World)(v:Value)(g:DiaV)(m:Nat->Bool)(fid:FuncId)(caps:Array Value)(h:qM B w v g)(hc:wE g.pats.length g.chos g.chos.length)(h0:0<=g.root)(h1:g.root<=1+(g.chos.length:Int))(hE:∀ (args:Array Value) (W:World),Sem.run Try.prog (callFunc fid args) W=.ok (.enter fid args) W)(hF:∀ (W:World) (p:Nat),w.grownBy W none->p<g.pats.length->Calls Try.prog fid (#[.int .i64 (p:Int)]++caps) W fun e w'=>e=.returned (.bool (m p))/\W.grownBy w' none):
  Calls Try.prog 40 #[v,.func (.func fid) #[] caps] w fun e w'=>e=.returned (.bool (decG g.chos m g.root))/\w.grownBy w' none:=by
 obtain⟨pv,cv,rfl,hp,h7⟩:=h;obtain⟨ca,cc,rfl⟩:=h7.shape;have H8:=h7.len_le;unfold maxLen at H8;obtain⟨ps,cs,root⟩:=g;simp only at hp hc h7 H8 h0 h1 hF ⊢;obtain⟨r0,rfl⟩:∃ n:Nat,root=(n:Int):=⟨root.toNat,by omega⟩;obtain⟨nc,H5⟩:∃ n,n=cs.length:=⟨_,rfl⟩;rw[<- H5]at h7 H8 h1 ⊢;have H2:=Ga w (.cells #[pv,.slice ca nc cc,.int .i64 (r0:Int)] 25) none;have H1:=heap_alloc_new w (.cells #[pv,.slice ca nc cc,.int .i64 (r0:Int)] 25);obtain⟨wA,a0⟩:∃ w1,w1=w.alloc (.cells #[pv,.slice ca nc cc,.int .i64 (r0:Int)] 25):=⟨_,rfl⟩;obtain⟨P,hP⟩:∃ P,P=w.heap.size:=⟨_,rfl⟩;rw[<- a0]at H2 H1;rw[<- hP]at H1;have a7:=h7.kept H2 (by simp);obtain⟨p0,p1,p2⟩:=zH H1;have a2:=Kh H5;have c4:=Kh a7;have c6:=Kh H1;have a8:=Kh hc;have b6:=Kh a0;have c0:=Kh hP;have b0:=Kh H2;have HE:=Kh hE;have HF:=Kh hF;have b9:=Kh h1;obtain⟨ans,h4⟩:∃ b,b=decG cs m (r0:Int):=⟨_,rfl⟩;rw[<- h4];have a4:=Kh h4;clear hp h7 a7 H2 H1 a0 hP H5 hc h1 h0 hF hE h4;go_enter Try.func40,Try.ntmps40;go_upto_region 1 with fail;rw[<- b6.out,<- c0.out];go_wp2;clear p0 p1 p2
 go_loopg [5,6] r0 (fun gh r s6 wr=>∃ q:Nat,gh=q/\r=.int .i64 q/\q<=1+nc/\decG cs m q=ans/\wA.grownBy wr none)
 case atStart=>exact⟨r0,rfl,rfl,by have:=b9.out;omega,a4.out.symm,zM _ _⟩
 case round =>
  obtain⟨q,a5,rfl,b3,h9,hg⟩:=hrel;have a9:=Kh a5;clear a5;have HG:=Kh hg;have h5:=Kh h9;clear h9;by_cases hq:2<=q
  ·have b4:(2:Int)<=q:=by omega
   obtain⟨i,rfl⟩:∃ i,q=i+2:=⟨q - 2,by omega⟩;have hi:i<nc:=(by omega);have H0:=c4.out.kept hg (by simp);obtain⟨b,off,cap,e,d1,h3,b5,H3⟩:=H0.at_ (by rw[<- a2.out];omega);rw[<- a2.out]at e h3;simp only[Value.slice.injEq,true_and]at e;obtain⟨rfl,rfl⟩:=e;have c9:cc<=9223372036854775807:=by unfold maxLen at b5;omega
   have h8:i<cs.length:=(by rw[<- a2.out];exact hi);have c1:=H3.p i h8;have c2:=H3.y i h8;have c3:=H3.n i h8;have h6:=jP (m:=m) a8.out (r:=((i+2:Nat):Int)) (by omega) (by omega);have e0:((i+2:Nat):Int).toNat - 2=i:=by omega
   rw[e0]at h6;have H9:=qJ (a8.out i h8);obtain⟨c,a6⟩:∃ c,c=cs.getD i default:=⟨_,rfl⟩;rw[<- a6]at c1 c2 c3 h6 H9;clear H0 H3 h8 a6;obtain⟨x,y,n⟩:=c;simp only at c1 c2 c3 h6 H9;obtain⟨xn,rfl⟩:∃ k:Nat,x=(k:Int):=⟨x.toNat,by omega⟩;obtain⟨yn,rfl⟩:∃ k:Nat,y=(k:Int):=⟨y.toNat,by omega⟩;obtain⟨nn,rfl⟩:∃ k:Nat,n=(k:Int):=⟨n.toNat,by omega⟩;rw[Int.toNat_natCast]at h6;have b2:xn<ps.length:=(by omega);have c7:yn<i+2:=(by omega);have c8:nn<i+2:=(by omega);have a1:=Kh h6;have h2:=Kh (fun(W:World) (hW:wr.grownBy W none)=>HF.out W xn (zB b0.out (zB HG.out hW (by simp)) (by simp)) b2);obtain⟨b,hb⟩:∃ b,b=m xn:=⟨_,rfl⟩;rw[<- hb]at a1 h2;obtain⟨p0,p1,p2⟩:=zH (zA c6.out hg (by simp));have h3:=heap_alloc_new wr (.cells #[.int .i64 (xn:Int),.int .i64 (yn:Int),.int .i64 (nn:Int)] 45);have H7:=Ga wr (.cells #[.int .i64 (xn:Int),.int .i64 (yn:Int),.int .i64 (nn:Int)] 45) none;obtain⟨w2,H4⟩:∃ w2,w2=wr.alloc (.cells #[.int .i64 (xn:Int),.int .i64 (yn:Int),.int .i64 (nn:Int)] 45):=⟨_,rfl⟩;obtain⟨R,hR⟩:∃ R,R=wr.heap.size:=⟨_,rfl⟩;rw[<- H4]at h3 H7;rw[<- hR]at h3;have b7:=Kh H4;have b8:=Kh hR;have c5:=Kh h3;have a3:=Kh H7;obtain⟨r0,r1,r2⟩:=zH h3;have e2:IntKind.i64.wrap ((i+2:Nat) - 2:Int)=(i:Int):=by rw[show ((i+2:Nat) - 2:Int)=i by omega];exact wG (by omega)
   have e3:((i+2:Nat) - 2:Int)=(i:Int):=by omega
   have d0:(i:Int)<nc:=(by omega);clear hb H4 hR h3 H7 hg h6 H9 b3;go_upto_region 4 with fail;rw[<- b7.out,<- b8.out];clear c1 c2 c3;go_wp2_with fail;rw[HE.out,Oper.upon_enter];refine(h2.out _ a3.out).mono ?_;rintro e w3 ⟨rfl,H6⟩;have b1:=Kh H6;obtain⟨r0,r1,r2⟩:=zH (zA c5.out H6 (by simp));clear H6 h2;cases b with
   | true =>
    go_wp2;go_roundg yn
    case measure=>have:=a9.out;omega
    case rel=>exact⟨yn,rfl,rfl,by omega,by rw[<- h5.out];exact a1.out.symm,zB (zB HG.out a3.out (by simp)) b1.out (by simp)⟩
   | false =>
    go_wp2;go_roundg nn
    case measure=>have:=a9.out;omega
    case rel=>exact⟨nn,rfl,rfl,by omega,by rw[<- h5.out];exact a1.out.symm,zB (zB HG.out a3.out (by simp)) b1.out (by simp)⟩
  ·have b4:¬ (2:Int)<=q:=by omega
   have HA:Hid (decide ((q:Int)=1)=ans):=Kh (by rw[<- h5.out,qAL _ _ (by omega)]);clear hg;go_wp2;go_ret;exact⟨zY (by rw[<- HA.out];first|rfl|simp|decide),zB b0.out HG.out (by simp)⟩
theorem match_anyW (b off cap:Nat)(bs:List ByteArray)(s:ByteArray)(w:World)(hcap:bs.length<=cap)(hcm:cap<=maxLen)(hra:vW w b off (bs.map .string))(hs:∀ i (h:i<bs.length),bs[i].size<=maxLen)(hss:s.size<=maxLen)(hL:SomeLen w):
  Calls Try.prog 42 #[.agg #[.slice (some ⟨b,off,none⟩) bs.length cap],.string s] w fun e w'=>e=.returned (.bool (yG bs s))/\w.grownBy w' none:=by
 have H0:s.size<=9223372036854775807:=by unfold maxLen at hss;omega
 have g0:=Ga w (.cells #[.slice (some ⟨b,off,none⟩) bs.length cap] 28) none;have ra0:=hra.kept g0 (by simp);go_enter Try.func42,Try.ntmps42;go_wp2_with fail;have bx0:=heap_alloc_new w (.cells #[.slice (some ⟨b,off,none⟩) bs.length cap] 28);have h3:Row (b+1) (w.alloc (.cells #[.slice (some ⟨b,off,none⟩) bs.length cap] 28)) (.slice (some ⟨b,off,none⟩) bs.length cap) (txtV bs):=.inr ⟨b,off,cap,by rw[yB],by omega,by rw[yB];exact hcap,hcm,ra0⟩;refine(kZ (b+1) _ _ bs 6 h3 hs).mono ?_;rintro e w1 ⟨rfl,g1⟩;have ra1:=ra0.kept g1 (by simp);have h4:=zJ (zA bx0 g1 (by simp)) 0 (by simp);simp only[List.getElem_toArray,List.getElem_cons_zero]at h4;have h9:=(hL.kept g0 (by simp)).kept g1 (by simp);have gw:=zD g0 g1;clear g0 ra0 bx0 g1 hra;clear h3;have h2:patW bs 6=0 ↔ yN bs 6=0:=vG;obtain⟨E,h5⟩:∃ E,E=patW bs 6:=⟨_,rfl⟩;rw[<- h5]at h2 ⊢;have a7:=Kh h5;clear h5;by_cases hV:yN bs 6=0
 ·have H8:E=0:=h2.2 hV
  subst H8;clear h2;have HV:=Kh hV;clear hV;go_wp2_with fail;refine(pZ s 6 _ (by unfold maxLen;omega)).mono ?_;rintro e w2 ⟨rfl,rfl⟩;have hz:=wY HV.out;have h6:0<bs.length:=hz.2.2.2.2.1;have a1:bs.length<=8:=hz.2.2.1;have h7:=ra1.map 0 h6;rw[Nat.add_zero]at h7;have H4:cap<=9223372036854775807:=by unfold maxLen at hcm;omega
  have a6:=Kh hcm;clear hz hcm;by_cases hW:zW s 6=true
  ·by_cases h1:bs.length=1
   ·have H9:((bs.length:Int) - 1 == 0)=true:=by simp[h1]
    have H1:=Kh h1;clear h1;go_wp2;go_ret;exact⟨zY (patMatch_one HV.out hW H1.out h6).symm,gw⟩
   ·have H9:((bs.length:Int) - 1 == 0)=false:=by rw[beq_eq_false_iff_ne];omega
    go_wp2_with fail;refine(Try.strings_CutPrefix _ _ _).mono ?_;rintro e w2 ⟨rfl,rfl⟩;by_cases hP:Lib.hasPrefix s.data.toList bs[0].data.toList=true
    ·go_wp2
     go_loopw [6,46] (fun rs i wr=>∃ (k:Nat) (r:List UInt8),k<=bs.length - 1 - 1/\i=.int .i64 k/\rs=.string ⟨r.toArray⟩/\r.length<=2048 /\
       rL ((mid bs).drop k) r=rL (mid bs) (Lib.trimPrefix s.data.toList bs[0].data.toList) /\
       vW wr b off (bs.map .string)/\wr.cell? ⟨w.heap.size,0,none⟩=some (.slice (some ⟨b,off,none⟩) bs.length cap)/\SomeLen wr/\w.grownBy wr none)
      (fun _ i _=>bs.length - (intOf i).toNat)
     case atStart=>exact⟨0,_,Nat.zero_le _,rfl,rfl,trim_le HV.out hW,rfl,ra1,h4,h9,gw⟩
     case round =>
      clear ra1 h4 h9 gw h7;obtain⟨k,r,hk,rfl,rfl,a0,h0,rar,H3,h8,gr⟩:=hrel;have HF:=Kh h0;clear h0;by_cases hlt:k<bs.length - 1 - 1
      ·have H6:=rar.map (1+k) (by omega)
       rw[<- Nat.add_assoc]at H6;have H2:(k:Int)<((bs.length - 1 - 1:Nat):Int):=(by omega);go_wp2_with fail;obtain⟨_,m,hm⟩:=id h8
       refine(Try.strings_Cut _ _ m _ (by
        have:(ByteArray.mk r.toArray).size=r.toArray.size:=rfl
        rw[this,List.size_toArray];omega) hm).mono ?_
       rintro e w3 ⟨rfl,m',rfl⟩;have H5:=cut_le r bs[1+k].data.toList;by_cases hf:(Lib.cut r bs[1+k].data.toList).2.2=true
       ·go_wp2
        go_roundw
        case rel =>
         exact⟨k+1,_,by omega,by go_num,rfl,by omega,by rw[<- HF.out];exact findAll_step bs r k hlt hf,rar.of_heap rfl,H3,h8.kept (zN _ _ none) (by simp),zD gr (zN _ _ _)⟩
        case measure=>simp[intOf];omega
       ·go_wp2
        go_ret;exact⟨zY (by rw[eq_comm];exact patMatch_none (by omega) (by omega) (by rw[<- HF.out];exact findAll_stop bs r k hlt hf)),zD gr (zN _ _ _)⟩
      ·have H5:=rar.map (bs.length - 1) (by omega)
       have a4:((bs.length:Int) - 1).toNat=bs.length - 1:=by omega
       have a3:(bs.length:Int) - 1<bs.length:=(by omega);have a2:0<=(bs.length:Int) - 1:=by omega
       go_wp2_with fail
       refine(Try.strings_HasSuffix _ _ _ (by
        have:(ByteArray.mk r.toArray).size=r.toArray.size:=rfl
        rw[this,List.size_toArray];omega)).mono ?_
       rintro e w3 ⟨rfl,rfl⟩;go_wp2;go_ret;refine⟨zY ?_,gr⟩;rw[eq_comm];refine patMatch_end HV.out hW (by omega) (by omega) hP ?_;rw[<- HF.out,List.drop_eq_nil_of_le (by rw[rW];omega)];rfl
    ·go_wp2
     go_ret;exact⟨zY (by rw[eq_comm];exact patMatch_nopre (by omega) (by omega) hP),gw⟩
  ·go_wp2
   go_ret;exact⟨zY (by simp[yG,hW]),gw⟩
 ·have H7:(E != 0)=true:=by rw[bne_iff_ne];exact fun e=>hV (h2.1 e)
  have a5:(E == 0)=false:=by rw[beq_eq_false_iff_ne];exact fun e=>hV (h2.1 e)
  clear h2;have HV:=Kh hV;clear hV;go_wp2;go_ret;exact⟨zY (by simp[yG,HV.out]),gw⟩
def diaH (g:DiaV)(s:ByteArray):Bool:=decide (diaE g 6=0) && (zW s 6 && decG g.chos (fun p=>yG (g.pats.getD p []) s) g.root)
theorem patW_pos {bs:List ByteArray}{letters:Int}(h:patW bs letters=0):0<bs.length:=(wY (vG.1 h)).2.2.2.2.1
theorem holds1_any (B:Nat)(w:World)(P Q:Nat)(pv cv rv:Value)(ps:List (List ByteArray))(s:ByteArray)(p:Nat)(hb:w.heap[P]?=some (.cells #[pv,cv,rv] 25 (0,0)))(hq:w.heap[Q]?=some (.cells #[.string s] 9 (0,0)))(h:uJ B w pv ps)(hp:p<ps.length)(h0:0<(ps.getD p []).length)(hs:s.size<=maxLen)(hL:SomeLen w):
  Calls Try.prog 41 #[.int .i64 (p:Int),.pointer (some ⟨P,0,none⟩),.pointer (some ⟨Q,0,none⟩)] w fun e w'=>e=.returned (.bool (yG (ps.getD p []) s))/\w.grownBy w' none:=by
 obtain⟨b,off,cap,rfl,H5,H6,H1,h2⟩:=h.at_ (by omega);obtain⟨sa,sc,c1,h1,h3⟩:=h2 p hp;obtain⟨q,h6⟩:∃ q,q=ps.getD p []:=⟨_,rfl⟩;rw[<- h6]at c1 h1 h3 h0 ⊢;obtain⟨kb,ko,kc,e,_,h4,h9,h8⟩:=h1.some_ (by rw[yB];exact h0);rw[yB]at e h4;simp only[Value.slice.injEq]at e;obtain⟨rfl,_,rfl⟩:=e;obtain⟨r0,r1,r2⟩:=zH hb;have c2:w.cell? ⟨Q,0,none⟩=some (.string s):=by simpa using zJ hq 0 (by simp)
 have HM:Hid (∀ W:World,w.grownBy W none->Calls Try.prog 42 #[.agg #[.slice (some ⟨kb,ko,none⟩) q.length sc],.string s] W fun e w'=>e=.returned (.bool (yG q s))/\w.grownBy w' none):=Kh (fun W hW =>
  (match_anyW kb ko sc q s W h4 h9 (h8.kept hW (by simp)) h3 hs (hL.kept hW (by simp))).mono fun e w' ⟨he,hg⟩=>⟨he,zD hW hg⟩)
 have HC:Hid (∀ W:World,w.grownBy W none->W.cell? ⟨P,0,none⟩=some (.slice (some ⟨b,off,none⟩) ps.length cap)/\W.cell? ⟨b,off+p,none⟩=some (.slice (some ⟨kb,ko,none⟩) q.length sc)/\W.cell? ⟨Q,0,none⟩=some (.string s)):=Kh (fun W hW=>⟨xG r0 hW,xG c1 hW,xG c2 hW⟩);obtain⟨n,hn⟩:∃ n,n=ps.length:=⟨_,rfl⟩;obtain⟨ql,h5⟩:∃ n,n=q.length:=⟨_,rfl⟩;obtain⟨mm,h7⟩:∃ m,m=yG q s:=⟨_,rfl⟩;rw[<- hn]at hp r0 HC;rw[<- h5]at c1 HM HC;rw[<- h7]at HM ⊢;have H4:cap<=9223372036854775807:=by unfold maxLen at H1;omega
 have H3:n<=9223372036854775807:=by omega
 have H2:(p:Int)<n:=by omega
 have GA:w.grownBy w.drew none:=zP _ _;clear h2 h1 h3 h4 h9 h8 hb hq h6 hn h5 h7 h h0 hL;go_enter Try.func41,Try.ntmps41;go_upto_region 1 with fail
 go_region_held3 (fun w'=>w'.cell? ⟨P,0,none⟩=some (.slice (some ⟨b,off,none⟩) n cap)/\w'.cell? ⟨b,off+p,none⟩=some (.slice (some ⟨kb,ko,none⟩) ql sc)/\w'.cell? ⟨Q,0,none⟩=some (.string s))
  (first|go_keep|exact HC.out _ H0|fail)
  (first|(go_at_call 42;(with_reducible refine(HM.out _ GA).mono ?_);rintro e w7 ⟨rfl,H0⟩)|fail)
 all_goals
  go_wp2;go_ret;exact⟨rfl,by first|assumption|exact H0⟩
theorem iJ (B:Nat)(w:World)(v:Value)(g:DiaV)(s:ByteArray)(hB:B<=w.heap.size)(h:qM B w v g)(hs:s.size<=maxLen)(hL:SomeLen w):
  Calls Try.prog 11 #[v,.string s] w fun e w'=>e=.returned (.bool (diaH g s))/\w.grownBy w' none:=by
 obtain⟨pv,cv,rfl,hp,hc⟩:=h;obtain⟨ps,cs,root⟩:=g;simp only at hp hc ⊢;obtain⟨w0,b0⟩:∃ w0:World,w0=w:=⟨w,rfl⟩;have H5:=Ga w (.cells #[pv,cv,.int .i64 root] 25) none;have H2:=heap_alloc_new w (.cells #[pv,cv,.int .i64 root] 25);obtain⟨w1,h9⟩:∃ w1,w1=w.alloc (.cells #[pv,cv,.int .i64 root] 25):=⟨_,rfl⟩;obtain⟨P,hP⟩:∃ P,P=w.heap.size:=⟨_,rfl⟩;have H8:w1.heap.size=P+1:=by rw[h9,hP,zO]
 rw[<- h9]at H5 H2;rw[<- hP]at H2;have H1:=Ga w1 (.cells #[.string s] 9) none;have h2:=heap_alloc_new w1 (.cells #[.string s] 9);obtain⟨wA,H3⟩:∃ w2,w2=w1.alloc (.cells #[.string s] 9):=⟨_,rfl⟩;rw[<- H3]at H1 h2;rw[H8]at h2;have H6:=zA H2 H1 (by simp);have h1:=zB H5 H1 (by simp);rw[h9]at H3;have a3:=Kh H3;have a6:=Kh hP;have H7:=Kh h1;have a9:=Kh H6;have a2:=Kh h2;have HP:=Kh (hp.kept h1 (by simp));have HC:=Kh (hc.kept h1 (by simp));have a7:=Kh (hL.kept h1 (by simp))
 have HV:Hid (∀ W:World,wA.grownBy W none->Calls Try.prog 9 #[.agg #[pv,cv,.int .i64 root],.int .i64 6] W fun e w'=>e=.returned (.int .i64 (diaE ⟨ps,cs,root⟩ 6))/\W.grownBy w' none):=Kh (fun W hW =>
  iI B W _ ⟨ps,cs,root⟩ 6 (by have:=h1.size;have:=hW.size;omega) ⟨pv,cv,rfl,HP.out.kept hW (by simp),HC.out.kept hW (by simp)⟩)
 have a0:=Kh (fun W=>pZ s 6 W hs);obtain⟨E,hE⟩:∃ E,E=diaE ⟨ps,cs,root⟩ 6:=⟨_,rfl⟩;obtain⟨vb,H4⟩:∃ b,b=zW s 6:=⟨_,rfl⟩;rw[<- hE]at HV;rw[<- H4]at a0;have HE:=Kh hE;have a4:=Kh H4;obtain⟨p0,p1,p2⟩:=zH H6;have c2:wA.cell? ⟨P+1,0,none⟩=some (.string s):=by simpa using zJ h2 0 (by simp)
 obtain⟨Q,hQ⟩:∃ Q,Q=P+1:=⟨_,rfl⟩;rw[<- hQ]at c2 a2;have a5:=Kh hQ;clear hp hc H5 H2 H1 h2 H6 h1 h9 H3 hP hE H4 hQ H8;go_enter Try.func11,Try.ntmps11;go_upto_region 1 with fail;rw[<- a6.out,<- a5.out];rw[<- a3.out];go_wp2_with fail;refine(HV.out _ (zM _ _)).mono ?_;rintro e w3 ⟨rfl,H0⟩;have h0:=Kh H0;have h4:=Kh (zA a9.out H0 (by simp));have h3:=Kh (zA a2.out H0 (by simp));obtain⟨p0,p1,p2⟩:=zH h4.out;have c2:w3.cell? ⟨Q,0,none⟩=some (.string s):=by simpa using zJ h3.out 0 (by simp)
 clear H0 HV;by_cases hE:E=0
 case neg =>
  have e1:(E != 0)=true:=by rw[bne_iff_ne];exact hE
  have HR:Hid (diaH ⟨ps,cs,root⟩ s=false):=Kh (by
   unfold diaH;rw[show decide (diaE ⟨ps,cs,root⟩ 6=0)=false by rw[decide_eq_false_iff_not,<- HE.out];exact hE];rfl)
  clear hE;go_wp2;go_ret;exact⟨zY HR.out.symm,zB H7.out h0.out (by simp)⟩
 have e1:(E != 0)=false:=by simp[hE]
 have HD:=Kh (nX (g:=⟨ps,cs,root⟩) (letters:=6) (by rw[<- HE.out];exact hE))
 have HR:Hid (diaH ⟨ps,cs,root⟩ s=(vb && decG cs (fun p=>yG (ps.getD p []) s) root)):=Kh (by
  unfold diaH;rw[show decide (diaE ⟨ps,cs,root⟩ 6=0)=true by rw[decide_eq_true_eq,<- HE.out];exact hE,a4.out];rfl)
 clear hE;go_wp2_with fail;refine(a0.out _).mono ?_;rintro e w4 ⟨rfl,rfl⟩;cases vb with
 | false =>
  go_wp2;go_ret;exact⟨zY HR.out.symm,zB H7.out h0.out (by simp)⟩
 | true =>
  rw[Bool.true_and]at HR
  have a1:Hid (Calls Try.prog 40 #[.agg #[pv,cv,.int .i64 root],.func (.func 41) #[] #[.pointer (some ⟨P,0,none⟩),.pointer (some ⟨Q,0,none⟩)]] w3 fun e w'=>e=.returned (.bool (decG cs (fun p=>yG (ps.getD p []) s) root))/\w3.grownBy w' none):=Kh (by
   obtain⟨_,_,_,_,h5,h6,h7,h8⟩:=HD.out;refine dL B w3 _ ⟨ps,cs,root⟩ (fun p=>yG (ps.getD p []) s) _ _ ⟨pv,cv,rfl,HP.out.kept h0.out (by simp),HC.out.kept h0.out (by simp)⟩ h6 h7 h8 (fun _ _=>rfl) (fun W p hW hp=>?_)
   exact holds1_any B W P Q pv cv _ ps s p (zA h4.out hW (by simp)) (zA h3.out hW (by simp)) ((HP.out.kept h0.out (by simp)).kept hW (by simp)) hp (patW_pos (by rw[zG hp];exact h5 _ (List.getElem_mem hp))) hs ((a7.out.kept h0.out (by simp)).kept hW (by simp)))
  go_wp2_with fail;refine a1.out.mono ?_;rintro e w5 ⟨rfl,H9⟩;have a8:=Kh H9;clear H9 a1;go_wp2;go_ret;exact⟨zY HR.out.symm,zB (zB H7.out h0.out (by simp)) a8.out (by simp)⟩
def famB (l:List (List (List Int))):List (List ByteArray):=l.map fun p=>p.map strOfNums
theorem kG (l:List (List (List Int))):(famB l).length=l.length:=by simp[famB]
theorem strs_txtV (p:List (List Int)):strs p=txtV (p.map strOfNums):=by simp[strs,txtV]
def qIU (ds:List DfaV)(k:Nat)(lw:List (List Nat×List Nat)):Bool :=
 decide ((lw.map (·.2)).Nodup) && (decide ((lw.map (·.2))[0]?=some (st0T ds)) && (lw.all (fun p=>(List.range k).all fun a=>decide (nxtT ds p.2 a∈lw.map (·.2))) && lw.all (fun p=>decide (∀ a∈p.1,a<k) && decide (sE (nxtT ds) (st0T ds) p.1=p.2))))
theorem qHN {ds:List DfaV}{k:Nat}{lw:List (List Nat×List Nat)}(h:qIU ds k lw=true):BfsD (nxtT ds) k (st0T ds) (lw.map (·.2)):=by
 simp only[qIU,Bool.and_eq_true,decide_eq_true_eq,List.all_eq_true]at h;obtain⟨h1,h2,h3,h4⟩:=h;refine⟨h1,h2,fun x hx b hb=>?_,fun x hx=>?_⟩
 ·obtain⟨p,hp,rfl⟩:=List.mem_map.1 hx
  exact h3 p hp b (List.mem_range.2 hb)
 ·obtain⟨p,hp,rfl⟩:=List.mem_map.1 hx
  exact⟨p.1,(h4 p hp).1,(h4 p hp).2⟩
def dK:DfaV:=⟨2,0,[false,false,true],[[1,0],[1,2],[1,2]]⟩
def psFL:List (List (List Int)):=[[[]],[[],[97]],[[],[98]],[[97],[]],[[98],[]],[[],[97],[]],[[],[98],[]]]
def psPL:List (List (List Int)):=[[[],[97],[]],[[],[98],[]]]
def psF:List (List ByteArray):=famB psFL
def psP:List (List ByteArray):=famB psPL
theorem famF:famL 5 2 1 0=psFL:=by decide +kernel
theorem famFE:famE 5 2 1 0=0:=by decide +kernel
theorem famPP:famL 6 2 1 0=psPL:=by decide +kernel
theorem famPE:famE 6 2 1 0=0:=by decide +kernel
theorem ofEF:ofE dK psF=0:=by decide +kernel
theorem ofEP:ofE dK psP=0:=by decide +kernel
def tupD (d:DfaV):Int×Int×List Bool×List (List Int):=(d.letters,d.start,d.final,d.next)
def mkD (t:Int×Int×List Bool×List (List Int)):DfaV:=⟨t.1,t.2.1,t.2.2.1,t.2.2.2⟩
theorem qIL {l:List DfaV}{t:List (Int×Int×List Bool×List (List Int))}(h:l.map tupD=t):l=t.map mkD:=by
 subst h;rw[List.map_map];exact(List.map_id' l).symm
def tF:List DfaV:=([(2,0,[true,false],[[1,1],[1,1]]),(2,0,[false,true],[[1,0],[1,0]]),
 (2,0,[false,true],[[0,1],[0,1]]),(2,0,[false,true,false],[[1,2],[1,1],[2,2]]),
 (2,0,[false,false,true],[[1,2],[1,1],[2,2]]),(2,0,[false,true],[[1,0],[1,1]]),
 (2,0,[false,true],[[0,1],[1,1]]),(2,0,[false,false,true],[[1,0],[1,2],[1,2]])]:List (Int×Int×List Bool×List (List Int))).map mkD
def tP:List DfaV:=([(2,0,[false,true],[[1,0],[1,1]]),(2,0,[false,true],[[0,1],[1,1]]),(2,0,[false,false,true],[[1,0],[1,2],[1,2]])]:List (Int×Int×List Bool×List (List Int))).map mkD
theorem ofTF:ofT dK psF=tF:=qIL (by decide +kernel)
theorem ofTP:ofT dK psP=tP:=qIL (by decide +kernel)
def lF:List (List Nat×List Nat):=[([],[0,0,0,0,0,0,0,0]),([0],[1,1,0,1,1,1,0,1]),([1],[1,0,1,2,2,0,1,0]),
 ([0,1],[1,0,1,1,1,1,1,2]),([1,0],[1,1,0,2,2,1,1,1]),([0,1,0],[1,1,0,1,1,1,1,1]),
 ([1,0,1],[1,0,1,2,2,1,1,2])]
def lP:List (List Nat×List Nat):=[([],[0,0,0]),([0],[1,0,1]),([1],[0,1,0]),([0,1],[1,1,2]),([1,0],[1,1,1])]
theorem bfsF:BfsD (nxtT (ofT dK psF)) 2 (st0T (ofT dK psF)) (lF.map (·.2)):=by rw[ofTF];exact qHN (by decide +kernel)
theorem bfsP:BfsD (nxtT (ofT dK psP)) 2 (st0T (ofT dK psP)) (lP.map (·.2)):=by rw[ofTP];exact qHN (by decide +kernel)
theorem underF:qID (ofT dK psF) 2:=⟨_,bfsF,by decide⟩
theorem underP:qID (ofT dK psP) 2:=⟨_,bfsP,by decide⟩
theorem noConfF:¬ Conf (ofT dK psF) 7 2:=by
 rw[gX (by rw[uM];decide) bfsF,ofTF];have:(lF.map (·.2)).all (fun x=>(lF.map (·.2)).all fun y=>!(decide (mtsT tF 7 x=mtsT tF 7 y) && (accT tF x 7 && !accT tF y 7)))=true:=by decide +kernel
 rw[List.all_eq_true]at this;rintro ⟨x,y,hx,hy,h1,h2,h3⟩;have h4:=this x hx;rw[List.all_eq_true]at h4;have h5:=h4 y hy;simp[h1,h2,h3]at h5
theorem confP:Conf (ofT dK psP) 2 2:=by
 rw[gX (by rw[uM];decide) bfsP,ofTP];exact⟨[1,1,2],[1,1,1],by decide,by decide,by decide +kernel,by decide +kernel,by decide +kernel⟩
theorem dK_vd:VD dK 3 2:=qDK (d:=dK) (by decide +kernel)
theorem qDL {u:List Nat}(hu:yI 2 u):run dK 0 u<3:=qEK dK_vd u (by decide) hu
theorem patW_mono {bs:List ByteArray}{k:Int}(h:patW bs k=0)(hk:k<=6):patW bs 6=0:=vG.2 (oY (vG.1 h) hk (Int.le_refl 6))
theorem of_dia {d:DfaV}{ps:List (List ByteArray)}{g:DiaV}(hE:ofE d ps=0)(h1:g.pats=ps)(h2:wE ps.length g.chos g.chos.length)(h3:0<=g.root)(h4:g.root<=1+(g.chos.length:Int))(hl:g.chos.length<=20000):diaE g 6=0/\diaE g d.letters=0:=by
 obtain⟨e1,e2,e3⟩:=mQ hE;have hv:=qDK e1;have hk:=hv.hk;have k1:=hv.k1;have k6:=hv.k6;have hp:=uL.1 e3;exact⟨qHE (by omega) (by omega) (by rw[h1];exact e2) hl (fun p hp2=>patW_mono (hp p (by rw[<- h1];exact hp2)) (by omega)) (by rw[h1];exact h2) h3 h4,qHE (by omega) (by omega) (by rw[h1];exact e2) hl (fun p hp2=>hp p (by rw[<- h1];exact hp2)) (by rw[h1];exact h2) h3 h4⟩
theorem of_holds {d:DfaV}{ps:List (List ByteArray)}{g:DiaV}(hE:ofE d ps=0)(h1:g.pats=ps)(h2:wE ps.length g.chos g.chos.length)(h3:0<=g.root)(h4:g.root<=1+(g.chos.length:Int))(hl:g.chos.length<=20000)(h5:∀ u,yI d.letters.toNat u->decG g.chos (fun i=>acc (xM (ps.getD i []) d.letters) (st0 (xM (ps.getD i []) d.letters)) u) g.root=acc d (st0 d) u){s:ByteArray}(hs:zW s d.letters=true):diaH g s=acc d (st0 d) (zL s):=by
 obtain⟨e1,e2,e3⟩:=mQ hE;have hv:=qDK e1;have hk:=hv.hk;have k1:=hv.k1;have k6:=hv.k6;have hp:=uL.1 e3;obtain⟨k,h7⟩:∃ k,k=d.letters.toNat:=⟨_,rfl⟩;have h0:d.letters=(k:Int):=by rw[h7];exact hk
 rw[h0]at hs;have h8:=(sX hs).1;have h6:=h5 (zL s) (by rw[<- h7];exact h8);rw[<- h6,diaH,(of_dia hE h1 h2 h3 h4 hl).1,pF hs (by omega) (Int.le_refl 6)];simp only[decide_true,Bool.true_and];refine qDS h2 (fun i hi=>?_) h4;have h9:patW (ps.getD i []) (k:Int)=0:=by rw[<- h0,zG hi];exact hp _ (List.getElem_mem hi)
 rw[h1,h0];exact(patDfa_acc (vG.1 h9) hs).symm
theorem lets_at {u:List Nat}{i:Nat}(hu:yI 2 u)(hi:i<u.length):∃ h:i<(strOfNums (lets u)).size,(((strOfNums (lets u))[i]'h).toNat:Nat)=97+u.getD i 0:=by
 have hq:i<(strOfNums (lets u)).size:=by rw[strOfNums_size];simpa [lets] using hi
 refine⟨hq,?_⟩;have e2:(strOfNums (lets u)).data.toList[i]'(by simpa using hq)=(strOfNums (lets u))[i]'hq:=rfl;have e1:(strOfNums (lets u)).data.toList=(lets u).map (fun n=>UInt8.ofNat n.toNat):=strOfNums_data _;rw[<- e2,zG hi];have e3:(lets u)[i]'(by simpa [lets] using hi)=97+((u[i]:Nat):Int):=by simp[lets]
 simp only[e1,List.getElem_map,e3];have:=hu _ (List.getElem_mem hi);rw[UInt8.toNat_ofNat'];omega
theorem qBI {u:List Nat}{i:Nat}(hi:i<u.length):run dK 0 (u.take (i+1))=nx dK (run dK 0 (u.take i)) (u.getD i 0):=by
 rw[zR (d:=0) hi];unfold run;rw[List.foldl_append];rfl
theorem nxK:nx dK 0 0=1/\nx dK 0 1=0/\nx dK 1 0=1/\nx dK 1 1=2/\nx dK 2 0=1/\nx dK 2 1=2:=by decide +kernel
theorem nxK_ne {q x:Nat}(hq:q<3)(hx:x<2):decide (nx dK q x≠0)=(decide (x=0) || decide (q≠0)):=by
 obtain⟨h1,h2,h3,h4,h5,h6⟩:=nxK;rcases (by omega:q=0\/q=1\/q=2) with rfl|rfl|rfl<;>rcases (by omega:x=0\/x=1) with rfl|rfl<;>simp[h1,h2,h3,h4,h5,h6]
theorem accK (u:List Nat)(hu:yI 2 u):acc dK 0 u=decide (run dK 0 u=2):=by
 have h:=qDL hu;unfold acc
 generalize run dK 0 u=q at h
 rcases (by omega:q=0\/q=1\/q=2) with rfl|rfl|rfl<;>rfl
theorem qFH (w:World)(u:List Nat)(hu:yI 2 u)(hl:u.length<=4000):
  Calls Try.prog 46 #[.string (strOfNums (lets u))] w fun e w'=>e=.returned (.bool (acc dK 0 u))/\w=w':=by
 have H2:Hid (∀ i,i<u.length->∃ h:i<(strOfNums (lets u)).size,(((strOfNums (lets u))[i]'h).toNat:Nat)=97+u.getD i 0):=Kh (fun i hi=>lets_at hu hi);obtain⟨S,hS⟩:∃ S,S=strOfNums (lets u):=⟨_,rfl⟩;have a1:S.size=u.length:=by rw[hS,strOfNums_size];simp[lets]
 rw[<- hS]at H2 ⊢;obtain⟨n,hn⟩:∃ n,n=u.length:=⟨_,rfl⟩;rw[<- hn]at a1 H2 hl;have HN:=Kh hn;have H6:=Kh hu;have a0:Hid (∀ i,yI 2 (u.take i)):=Kh (fun i a ha=>hu a (List.mem_of_mem_take ha));clear hS hn hu;go_enter Try.func46,Try.ntmps46;go_wp2
 go_loopg [3,4] n (fun gh v3 v4 wr=>∃ i:Nat,gh+i=n/\v4=.int .i64 i/\v3=.bool (decide (run dK 0 (u.take i)≠0))/\w=wr)
 case atStart=>exact⟨0,rfl,rfl,rfl,rfl⟩
 case round =>
  obtain⟨i,H9,rfl,rfl,rfl⟩:=hrel;have h8:=Kh H9;clear H9;by_cases hi:i<n
  ·have a2:(i:Int)<S.size:=by omega
   obtain⟨hb,hx⟩:=H2.out i hi;have H0:u.getD i 0<2:=H6.out _ (by rw[zG (by rw[<- HN.out];exact hi)];exact List.getElem_mem _);have H1:=Kh (nxK_ne (qDL (a0.out i)) H0);rw[<- qBI (by rw[<- HN.out];exact hi)]at H1;obtain⟨b,h7⟩:∃ b,b=decide (run dK 0 (u.take i)≠0):=⟨_,rfl⟩;rw[<- h7]at H1 ⊢;rcases (by omega:u.getD i 0=0\/u.getD i 0=1) with e|e
   ·rw[e]at hx H1
    have H3:((S[i].toNat:Nat):Int)=97:=by rw[hx];rfl
    have HE:Hid (decide (run dK 0 (u.take (i+1))≠0)=true):=Kh (by rw[H1.out];simp);clear hx e H0 h7;cases b with
    | true =>
     go_wp2;go_roundg (n - (i+1))
     case measure=>have:=h8.out;omega
     case rel=>exact⟨i+1,by have:=h8.out;omega,by go_num,by rw[HE.out],rfl⟩
    | false =>
     go_wp2;go_roundg (n - (i+1))
     case measure=>have:=h8.out;omega
     case rel=>exact⟨i+1,by have:=h8.out;omega,by go_num,by rw[HE.out],rfl⟩
   ·rw[e]at hx H1
    have H3:((S[i].toNat:Nat):Int)=98:=by rw[hx];rfl
    have HE:Hid (decide (run dK 0 (u.take (i+1))≠0)=b):=Kh (by rw[H1.out];simp);clear hx e H0 h7;cases b with
    | true =>
     go_wp2;go_roundg (n - (i+1))
     case measure=>have:=h8.out;omega
     case rel=>exact⟨i+1,by have:=h8.out;omega,by go_num,by rw[HE.out],rfl⟩
    | false =>
     go_wp2;go_roundg (n - (i+1))
     case measure=>have:=h8.out;omega
     case rel=>exact⟨i+1,by have:=h8.out;omega,by go_num,by rw[HE.out],rfl⟩
  ·have H5:i=n:=by have:=h8.out;omega
   have a2:¬ (i:Int)<S.size:=(by omega);have a3:Hid (u.take i=u):=Kh (List.take_of_length_le (by rw[<- HN.out];omega));obtain⟨bb,h7⟩:∃ b,b=decide (run dK 0 (u.take i)≠0):=⟨_,rfl⟩;rw[<- h7];rw[a3.out]at h7;have H7:=Kh (accK u H6.out);by_cases h0:run dK 0 u=0
   ·have HA:Hid (acc dK 0 u=false):=Kh (by rw[H7.out,h0];rfl)
    obtain rfl:bb=false:=by rw[h7];simp[h0]
    clear h0 H5 h7;go_wp2;go_ret;exact⟨zY HA.out.symm,rfl⟩
   ·obtain rfl:bb=true:=by rw[h7];simp[h0]
    clear h7
    obtain⟨m,rfl⟩:∃ m,n=m+1:=by
     rcases Nat.eq_zero_or_pos n with hz|hz
     ·exfalso
      apply h0;have H4:u=[]:=List.eq_nil_of_length_eq_zero (by rw[<- HN.out];exact hz);rw[H4];rfl
     ·exact⟨n - 1,by omega⟩
    obtain⟨hb,hx⟩:=H2.out m (by omega);have H0:u.getD m 0<2:=H6.out _ (by rw[zG (by rw[<- HN.out];omega)];exact List.getElem_mem _);have h9:=qBI (u:=u) (i:=m) (by rw[<- HN.out];omega);rw[List.take_of_length_le (by rw[<- HN.out];omega)]at h9;have H8:=qDL (a0.out m);have e5:((S.size:Nat):Int) - 1=(m:Int):=by omega
    have e6:IntKind.i64.wrap (((S.size:Nat):Int) - 1)=(m:Int):=by rw[e5];exact wG (by omega)
    have a4:(m:Int)<S.size:=(by omega);have a5:m<S.size:=(by omega);rcases (by omega:u.getD m 0=0\/u.getD m 0=1) with e|e
    ·rw[e]at hx h9
     have H3:((S[m].toNat:Nat):Int)=97:=by rw[hx];rfl
     have HA:Hid (acc dK 0 u=false):=Kh (by
      rw[H7.out,h9];obtain⟨h1,h2,h3,h4,h5,h6⟩:=nxK
      rcases (by omega:run dK 0 (u.take m)=0\/run dK 0 (u.take m)=1\/run dK 0 (u.take m)=2) with q|q|q<;>rw[q]<;>simp[h1,h3,h5])
     clear hx e H0 h9 H8 h0 H5;go_wp2;go_ret;exact⟨zY HA.out.symm,rfl⟩
    ·rw[e]at hx h9
     have H3:((S[m].toNat:Nat):Int)=98:=by rw[hx];rfl
     have HA:Hid (acc dK 0 u=true):=Kh (by
      rw[H7.out];rw[h9]at h0 ⊢;obtain⟨h1,h2,h3,h4,h5,h6⟩:=nxK;rcases (by omega:run dK 0 (u.take m)=0\/run dK 0 (u.take m)=1\/run dK 0 (u.take m)=2) with q|q|q<;>rw[q]at h0 ⊢
      ·exact absurd h2 h0
      ·rw[h4];rfl
      ·rw[h6];rfl)
     clear hx e H0 h9 H8 h0 H5;go_wp2;go_ret;exact⟨zY HA.out.symm,rfl⟩
theorem RowT.litC {B:Nat}{e:TypeId}{w:World}{b:Nat}{cs:Array Value}{m:Nat×Nat}{n:Nat}(h:w.heap[b]?=some (.cells cs e m))(hb:b<B)(hn:cs.size=n)(hm:n<=maxLen):RowT B e w (.slice (some ⟨b,0,none⟩) n n) cs.toList :=
 .inr ⟨b,0,n,cs,m,by simp[hn],hb,by simp[hn],hm,h,fun i hi=>by
  rw[Nat.zero_add]
  have:i<cs.size:=by simpa using hi
  simp[this]⟩
theorem qA {w:World}{v:Value}{svs:List Value}{l:List (List (List Int))}(h:RowT w.heap.size 28 w v svs)(hr:xY w.heap.size 9 strs w svs l)(hs:∀ p∈l,∀ u∈p,u.length<=4096):uJ w.heap.size w v (famB l):=by
 refine⟨svs,h.row,by rw[kG];exact hr.1,fun i h1 h2=>?_⟩;have h3:i<l.length:=by rw[kG]at h2;exact h2
 have e:(famB l)[i]=l[i].map strOfNums:=by simp[famB]
 rw[e];refine⟨?_,fun j hj=>?_⟩
 ·have:=(hr.2 i h1 h3).row
  rw[strs_txtV]at this;exact this
 ·have h0:j<l[i].length:=by simpa using hj
  have:=hs l[i] (List.getElem_mem h3) _ (List.getElem_mem h0);have e2:(l[i].map strOfNums)[j]=strOfNums (l[i][j]):=by simp
  rw[e2,strOfNums_size];unfold maxLen;omega
theorem dK_lit (w:World):∃ w',w'=((((w.alloc (.cells #[.bool false,.bool false,.bool true] 4)).alloc (.cells #[.int .i64 1,.int .i64 0] 3)).alloc (.cells #[.int .i64 1,.int .i64 2] 3)).alloc (.cells #[.int .i64 1,.int .i64 2] 3)).alloc (.cells #[.slice (some ⟨w.heap.size+1,0,none⟩) 2 2,.slice (some ⟨w.heap.size+1+1,0,none⟩) 2 2,.slice (some ⟨w.heap.size+1+1+1,0,none⟩) 2 2] 34)/\w.grownBy w' none/\w'.heap.size=w.heap.size+5 /\
  uT w'.heap.size w' (.agg #[.int .i64 2,.int .i64 0,.slice (some ⟨w.heap.size,0,none⟩) 3 3,.slice (some ⟨w.heap.size+1+1+1+1,0,none⟩) 3 3]) dK:=by
 obtain⟨w1,h7⟩:∃ w1,w1=w.alloc (.cells #[.bool false,.bool false,.bool true] 4):=⟨_,rfl⟩;obtain⟨w2,h6⟩:∃ w2,w2=w1.alloc (.cells #[.int .i64 1,.int .i64 0] 3):=⟨_,rfl⟩;obtain⟨w3,h5⟩:∃ w3,w3=w2.alloc (.cells #[.int .i64 1,.int .i64 2] 3):=⟨_,rfl⟩;obtain⟨w4,h4⟩:∃ w4,w4=w3.alloc (.cells #[.int .i64 1,.int .i64 2] 3):=⟨_,rfl⟩;obtain⟨w5,h0⟩:∃ w5,w5=w4.alloc (.cells #[.slice (some ⟨w.heap.size+1,0,none⟩) 2 2,.slice (some ⟨w.heap.size+1+1,0,none⟩) 2 2,.slice (some ⟨w.heap.size+1+1+1,0,none⟩) 2 2] 34):=⟨_,rfl⟩;have g1:w.grownBy w1 none:=by rw[h7];exact Ga _ _ _
 have g2:w1.grownBy w2 none:=by rw[h6];exact Ga _ _ _
 have g3:w2.grownBy w3 none:=by rw[h5];exact Ga _ _ _
 have g4:w3.grownBy w4 none:=by rw[h4];exact Ga _ _ _
 have g5:w4.grownBy w5 none:=by rw[h0];exact Ga _ _ _
 have z1:w1.heap.size=w.heap.size+1:=by rw[h7,zO]
 have z2:w2.heap.size=w.heap.size+2:=by rw[h6,zO,z1]
 have z3:w3.heap.size=w.heap.size+3:=by rw[h5,zO,z2]
 have z4:w4.heap.size=w.heap.size+4:=by rw[h4,zO,z3]
 have z5:w5.heap.size=w.heap.size+5:=by rw[h0,zO,z4]
 have b1:w5.heap[w.heap.size]?=some (.cells #[.bool false,.bool false,.bool true] 4 (0,0)):=zA (zA (zA (zA (by rw[h7];exact heap_alloc_new w _) g2 (by simp)) g3 (by simp)) g4 (by simp)) g5 (by simp);have b2:w5.heap[w.heap.size+1]?=some (.cells #[.int .i64 1,.int .i64 0] 3 (0,0)):=zA (zA (zA (by rw[h6,<- z1];exact heap_alloc_new w1 _) g3 (by simp)) g4 (by simp)) g5 (by simp);have b3:w5.heap[w.heap.size+1+1]?=some (.cells #[.int .i64 1,.int .i64 2] 3 (0,0)):=zA (zA (by rw[h5,<- z2];exact heap_alloc_new w2 _) g4 (by simp)) g5 (by simp);have b4:w5.heap[w.heap.size+1+1+1]?=some (.cells #[.int .i64 1,.int .i64 2] 3 (0,0)):=zA (by rw[h4,<- z3];exact heap_alloc_new w3 _) g5 (by simp);have b5:w5.heap[w.heap.size+1+1+1+1]?=some (.cells #[.slice (some ⟨w.heap.size+1,0,none⟩) 2 2,.slice (some ⟨w.heap.size+1+1,0,none⟩) 2 2,.slice (some ⟨w.heap.size+1+1+1,0,none⟩) 2 2] 34 (0,0)):=by rw[h0,<- z4];exact heap_alloc_new w4 _
 have m2:2<=maxLen:=by unfold maxLen;omega
 have m3:3<=maxLen:=by unfold maxLen;omega
 refine⟨w5,by rw[h0,h4,h5,h6,h7],zB (zB (zB (zB g1 g2 (by simp)) g3 (by simp)) g4 (by simp)) g5 (by simp),z5,_,_,rfl,?_,?_⟩
 ·exact(RowT.litC b1 (by omega) rfl m3).row
 ·refine Mat.of_rowT (RowT.litC b5 (by omega) rfl m3) ⟨rfl,fun i h1 h2=>?_⟩ (Nat.le_refl _)
  have h3:i<3:=h2;rcases (by omega:i=0\/i=1\/i=2) with rfl|rfl|rfl
  ·exact RowT.litC b2 (by omega) rfl m2
  ·exact RowT.litC b3 (by omega) rfl m2
  ·exact RowT.litC b4 (by omega) rfl m2
theorem cells_holds {w':World}{v:Value}{g:DiaV}(h:qM w'.heap.size w' v g):∃ ap cp ac cc,v=.agg #[.slice ap g.pats.length cp,.slice ac g.chos.length cc,.int .i64 g.root]:=by
 obtain⟨pv,cv,rfl,h1,h2⟩:=h;obtain⟨ap,cp,rfl⟩:=h1.shape;obtain⟨ac,cc,rfl⟩:=h2.shape;exact⟨ap,cp,ac,cc,rfl⟩
theorem tM (letters:Nat)(u:List Int):(block letters u 0).length=letters:=by simp[block]
theorem block_get {letters c:Nat}(u:List Int)(h:c<letters):(block letters u 0)[c]'(by rw[tM];exact h)=u++[97+(c:Int)]:=by simp[block]
theorem kQ (letters:Nat):∀ n,upTo letters (n+1)=[[]]++(upTo letters n).flatMap fun u=>block letters u 0
 | 0=>by simp[upTo,lex]
 | n+1=>by
  have ih:=kQ letters n
  rw[wF letters (n+1),qAD]
  conv=>rhs;rw[wF letters n,List.flatMap_append,<- List.append_assoc,<- ih]
def grown (letters n i:Nat):List (List Int):=[[]]++((upTo letters n).take i).flatMap fun u=>block letters u 0
theorem qCS {letters n i:Nat}(h:(upTo letters n).length<=i):grown letters n i=upTo letters (n+1):=by
 rw[grown,List.take_of_length_le h,kQ]
theorem iD {letters n i:Nat}(h:i<(upTo letters n).length):grown letters n (i+1)=grown letters n i++block letters (upTo letters n)[i] 0:=by
 rw[grown,List.take_succ_eq_append_getElem h,List.flatMap_append,<- List.append_assoc];simp[grown]
theorem qCR (letters n i:Nat):grown letters n i <+: upTo letters (n+1):=by
 have e:upTo letters (n+1)=grown letters n i++((upTo letters n).drop i).flatMap fun u=>block letters u 0:=by
  rw[kQ,grown,List.append_assoc,<- List.flatMap_append,List.take_append_drop]
 rw[e];exact List.prefix_append _ _
theorem hH {letters n:Nat}(h1:1<=letters):∀ i,i<=(upTo letters n).length->i+1<=(grown letters n i).length
 | 0,_=>by simp[grown]
 | i+1,h=>by
  have:=hH (n:=n) h1 i (by omega)
  rw[iD (by omega),List.length_append,tM];omega
theorem upTo_pre (letters n:Nat):upTo letters n <+: upTo letters (n+1):=by rw[wF];exact List.prefix_append _ _
theorem qGM {α:Type}{a b:List α}(h:a <+: b){i:Nat}(hi:i<a.length):a[i]=b[i]'(Nat.lt_of_lt_of_le hi h.length_le):=by
 obtain⟨c,rfl⟩:=h;rw[List.getElem_append_left]
theorem lS {letters n:Nat}{u:List Int}(h:u∈upTo letters n):u.length<n:=by
 simp only[upTo,List.mem_flatMap,List.mem_range]at h;obtain⟨m,hm,hu⟩:=h;rw[(qF hu).1];exact hm
theorem upTo_last {letters n i:Nat}(h:(upTo letters n).length<=i)(hi:i<(upTo letters (n+1)).length):((upTo letters (n+1))[i]).length=n:=by
 have e:(upTo letters (n+1))[i]=(lex letters n)[i - (upTo letters n).length]'(by rw[wF,List.length_append]at hi;omega):=by
  simp only[wF];rw[List.getElem_append_right h]
 rw[e];exact(qF (List.getElem_mem _)).1
theorem grown_step {letters n i x:Nat}(h:i<(upTo letters n).length)(hx:x<letters):grown letters n i++(block letters (upTo letters n)[i] 0).take (x+1)=(grown letters n i++(block letters (upTo letters n)[i] 0).take x)++[(upTo letters n)[i]++[97+(x:Int)]]:=by
 rw[List.take_succ_eq_append_getElem (by rw[tM];exact hx),block_get _ hx,List.append_assoc]
theorem grown_part (letters n i x:Nat)(h:i<(upTo letters n).length):grown letters n i++(block letters (upTo letters n)[i] 0).take x <+: upTo letters (n+1):=by
 refine List.IsPrefix.trans ?_ (qCR letters n (i+1));rw[iD h];exact List.prefix_append_right_inj _ |>.2 (List.take_prefix _ _)
theorem xD {w w':World}{p:Addr}{u:Value}(h:w.cell? p=some u)(hg:w.grownBy w' none):w'.cell? p=some u:=(World.cell?_of_block (hg.block p.block (World.block_lt_of_cell? w p h) (by simp))).trans h
end Go.Proofs.Ytjfdomfendbhfaa
