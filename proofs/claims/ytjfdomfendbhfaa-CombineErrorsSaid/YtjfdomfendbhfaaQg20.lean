/- Part 20 of the proof. -/
import Derived.Test.YtjfdomfendbhfaaQg19
import Derived.Deep.RegionHeld
set_option linter.unusedVariables false
set_option linter.unusedSimpArgs false
set_option maxRecDepth 100000
set_option maxHeartbeats 16000000
namespace Go.Proofs.Ytjfdomfendbhfaa
open Go.RowKit
theorem cvalid_any (B:Nat)(w:World)(v:Value)(g:DiaV)(letters:Int)(hB:B<=w.heap.size)(h:dG B w v g):
  Calls Try.prog 9 #[v,.int .i64 letters] w fun e w'=>e=.returned (.int .i64 (diaE g letters))/\w.grownBy w' none:=by
 obtain⟨pv,cv,rfl,hp,hc⟩:=h;obtain⟨pa,pc,rfl⟩:=hp.shape;obtain⟨ca,cc,rfl⟩:=hc.shape;have a6:=hp.len_le;have b8:=hc.len_le;unfold maxLen at a6 b8;obtain⟨ps,cs,root⟩:=g;simp only at hp hc a6 b8 ⊢;obtain⟨np,b5⟩:∃ n,n=ps.length:=⟨_,rfl⟩;obtain⟨nc,b6⟩:∃ n,n=cs.length:=⟨_,rfl⟩;rw[<- b5]at hp a6 ⊢;rw[<- b6]at hc b8 ⊢;have h9:=Ga w (.cells #[.slice pa np pc,.slice ca nc cc,.int .i64 root] 25) none;have a3:=heap_alloc_new w (.cells #[.slice pa np pc,.slice ca nc cc,.int .i64 root] 25);obtain⟨wA,c0⟩:∃ w1,w1=w.alloc (.cells #[.slice pa np pc,.slice ca nc cc,.int .i64 root] 25):=⟨_,rfl⟩;obtain⟨P,hP⟩:∃ P,P=w.heap.size:=⟨_,rfl⟩;rw[<- c0]at h9 a3;rw[<- hP]at a3;have d3:=hp.kept h9 (by simp);have d6:=hc.kept h9 (by simp);obtain⟨p0,p1,p2⟩:=zM a3;have e3:=h9.size;have H2:=Kh b5;have h7:=Kh b6;have f4:=Kh d3;have f6:=Kh d6;have c8:=Kh a3;have f0:=Kh c0;have f5:=Kh hP;have h0:=Kh h9;have g0:Hid (B<=wA.heap.size):=Kh (by omega);clear hp hc d3 d6 h9 a3 c0 hP b5 b6 e3;go_enter Try.func9,Try.ntmps9;go_upto_region 1 with fail;rw[<- f0.out,<- f5.out];by_cases h1:letters<1
 ·go_wp2
  go_ret;exact⟨yA (qEN (.inl h1)).symm,h0.out⟩
 by_cases h2:6<letters
 ·go_wp2
  go_ret;exact⟨yA (qEN (.inr h2)).symm,h0.out⟩
 have H1:Hid (¬ (letters<1\/6<letters)):=Kh (by omega);by_cases h3:300<np
 ·have e9:(300:Int)<np:=by omega
  go_wp2;go_ret;exact⟨yA (qEM H1.out (.inl (by rw[<- H2.out];exact h3))).symm,h0.out⟩
 have e9:¬ (300:Int)<np:=by omega
 by_cases h4:20000<nc
 ·have e8:(20000:Int)<nc:=by omega
  go_wp2;go_ret;exact⟨yA (qEM H1.out (.inr (by rw[<- h7.out];exact h4))).symm,h0.out⟩
 have e8:¬ (20000:Int)<nc:=by omega
 have H3:Hid (¬ (300<ps.length\/20000<cs.length)):=Kh (by rw[<- H2.out,<- h7.out];omega);go_wp2
 go_loopg [6,7,29] np (fun gh s6 s7 i wr=>∃ k:Nat,gh+k=np/\i=.int .i64 k/\vP letters (ps.drop k)=vP letters ps/\wA.grownBy wr none)
 case atStart=>exact⟨0,rfl,rfl,rfl,zL _ _⟩
 case round =>
  obtain⟨k,a2,rfl,d2,hg⟩:=hrel;have H7:=Kh a2;have HG:=Kh hg;have H6:=Kh d2;clear a2 d2;by_cases hk:k<np
  ·have e6:(k:Int)<np:=by omega
   have d1:=f4.out.kept hg (by simp);obtain⟨b,off,cap,e,e7,H0,b9,H5⟩:=d1.at_ (by rw[<- H2.out];omega);rw[<- H2.out]at e H0 H5;simp only[Value.slice.injEq,true_and]at e;obtain⟨rfl,rfl⟩:=e;obtain⟨sa,sc,c1,H4,b4⟩:=H5 k hk;obtain⟨q,hq⟩:∃ q,q=ps.getD k []:=⟨_,rfl⟩;rw[<- hq]at c1 H4 b4;have e4:pc<=9223372036854775807:=by unfold maxLen at b9;omega
   have HV:Hid (∀ W:World,wr.grownBy W none->Calls Try.prog 36 #[.agg #[.slice sa q.length sc],.int .i64 letters] W fun e w'=>e=.returned (.int .i64 (patW q letters))/\wA.grownBy w' none):=Kh (fun W hW=>(kJ B W _ q letters (H4.kept hW (by simp)) b4).mono fun e w' ⟨he,hg'⟩=>⟨he,zA HG.out (zD hW hg') (by simp)⟩);have HQ:=Kh hq;obtain⟨E,hE⟩:∃ E,E=patW q letters:=⟨_,rfl⟩;rw[<- hE]at HV;have HE:=Kh hE;obtain⟨ql,d0⟩:∃ n,n=q.length:=⟨_,rfl⟩;rw[<- d0]at c1 HV;clear d1 H5 H4 b4 hq hg hE d0;go_wp2_with fail;refine(HV.out _ (Ga wr _ none)).mono ?_;rintro e w1 ⟨rfl,h9⟩;have e0:=Kh h9;clear h9 HV;by_cases hE:E=0
   ·have e1:(E != 0)=false:=by simp[hE]
    have c6:=Kh hE;clear hE;go_wp2;go_roundg (np - (k+1))
    case measure=>have:=H7.out;omega
    case rel=>exact⟨k+1,by have:=H7.out;omega,by go_num,(jO (by rw[<- H2.out];exact hk) (by rw[<- HQ.out,<- HE.out];exact c6.out)).trans H6.out,e0.out⟩
   ·have e1:(E != 0)=true:=by rw[bne_iff_ne];exact hE
    have c6:=Kh hE;clear hE;go_wp2;go_ret;exact⟨yA (by rw[diaE_pat (g:=⟨ps,cs,root⟩) H1.out H3.out (k:=k) (by rw[<- H2.out];exact hk) H6.out (by rw[<- HQ.out,<- HE.out];exact c6.out)];show E=patW (ps.getD k []) letters;rw[<- HQ.out,<- HE.out]),zA h0.out (e0.out) (by simp)⟩
  ·have e5:k=np:=by have:=H7.out;omega
   have f3:Hid (vP letters ps=0):=Kh (by rw[<- H6.out];exact gY (by rw[<- H2.out];exact hk));have H9:Hid (diaE ⟨ps,cs,root⟩ letters=dF ps.length cs root):=Kh (diaE_cho H1.out H3.out f3.out);have a0:¬ (k:Int)<np:=(by omega);obtain⟨p0,p1,p2⟩:=zM (zB c8.out hg (by simp));clear e5 hg H7 a6;go_wp2;clear p0 p1 p2
   go_loopg [8,9,43] nc (fun gh s8 s9 i wr=>∃ k:Nat,gh+k=nc/\i=.int .i64 k/\vD ps.length cs k/\wA.grownBy wr none)
   case atStart=>exact⟨0,rfl,rfl,chosTo_zero _ _,HG.out⟩
   case round =>
    clear HG a0 hk;obtain⟨k,a2,rfl,d5,hg⟩:=hrel;have H7:=Kh a2;have HG:=Kh hg;have e2:=Kh d5;clear a2 d5;by_cases hk:k<nc
    ·have e6:(k:Int)<nc:=by omega
     have b7:=f6.out.kept hg (by simp);have f7:=Kh b7;obtain⟨b,off,cap,e,e7,H0,b9,a9⟩:=b7.at_ (by rw[<- h7.out];omega);rw[<- h7.out]at e H0;simp only[Value.slice.injEq,true_and]at e;obtain⟨rfl,rfl⟩:=e;have e4:cc<=9223372036854775807:=by unfold maxLen at b9;omega
     have a1:k<cs.length:=(by rw[<- h7.out];exact hk);have c1:=a9.p k a1;have c2:=a9.y k a1;have c3:=a9.n k a1;have a4:Hid (∀ (W:World) (r:Int),wr.grownBy W none->Calls Try.prog 37 #[.agg #[.slice pa np pc,.slice (some ⟨b,off,none⟩) nc cc,.int .i64 root],.int .i64 (k:Int),.int .i64 r] W fun e w'=>e=.returned (.bool (refB cs k (cs.getD k default).p r))/\W.grownBy w' none):=Kh (fun W r hW=>validRef_any B W _ _ root cs k r (f7.out.kept hW (by simp)) a1);obtain⟨c,b0⟩:∃ c,c=cs.getD k default:=⟨_,rfl⟩;rw[<- b0]at c1 c2 c3 a4;have HC:=Kh b0
     have h8:Hid (choB ps.length cs k=(decide (0<=c.p/\c.p<np) && (refB cs k c.p c.y && refB cs k c.p c.n))):=Kh (by
      rw[b0,H2.out];rfl)
     clear b7 a9 a1 b0;obtain⟨x,y,n⟩:=c;simp only at c1 c2 c3 a4 h8;obtain⟨by_,d7⟩:∃ b,b=refB cs k x y:=⟨_,rfl⟩;obtain⟨bn,d8⟩:∃ b,b=refB cs k x n:=⟨_,rfl⟩;have c4:=Kh (fun W hW=>a4.out W y hW);have c5:=Kh (fun W hW=>a4.out W n hW);rw[<- d7]at c4 h8;rw[<- d8]at c5 h8;have H0:=heap_alloc_new wr (.cells #[.int .i64 x,.int .i64 y,.int .i64 n] 45);have a8:=Ga wr (.cells #[.int .i64 x,.int .i64 y,.int .i64 n] 45) none;obtain⟨w2,b3⟩:∃ w2,w2=wr.alloc (.cells #[.int .i64 x,.int .i64 y,.int .i64 n] 45):=⟨_,rfl⟩;obtain⟨R,hR⟩:∃ R,R=wr.heap.size:=⟨_,rfl⟩;rw[<- b3]at H0 a8;rw[<- hR]at H0;have f1:=Kh b3;have f2:=Kh hR;have f9:=Kh H0;have H8:=Kh a8;have a5:=Kh (zB (zB c8.out hg (by simp)) a8 (by simp));obtain⟨p0,p1,p2⟩:=zM a5.out;obtain⟨r0,r1,r2⟩:=zM H0;clear d7 d8 b3 hR H0 a8 hg a4;go_upto_region 15 with fail;rw[<- f1.out,<- f2.out];clear c1 c2 c3;by_cases hx0:x<0
     ·have HF:Hid (choB ps.length cs k=false):=Kh (by rw[h8.out,show decide (0<=x/\x<(np:Int))=false by simp;omega];rfl)
      go_wp2;go_ret;exact⟨yA (by rw[H9.out,jD (by rw[<- h7.out];exact hk) HF.out]),zA h0.out (zA HG.out H8.out (by simp)) (by simp)⟩
     by_cases hx1:(np:Int)<=x
     ·have HF:Hid (choB ps.length cs k=false):=Kh (by rw[h8.out,show decide (0<=x/\x<(np:Int))=false by simp;omega];rfl)
      go_wp2;go_ret;exact⟨yA (by rw[H9.out,jD (by rw[<- h7.out];exact hk) HF.out]),zA h0.out (zA HG.out H8.out (by simp)) (by simp)⟩
     have c9:decide (0<=x/\x<(np:Int))=true:=by simp;omega
     rw[c9,Bool.true_and]at h8;clear c9;go_wp2_with fail;refine(c4.out _ H8.out).mono ?_;rintro e w3 ⟨rfl,a7⟩;have b1:=Kh a7;have c7:=Kh (zB a5.out a7 (by simp));have f8:=Kh (zB f9.out a7 (by simp));obtain⟨p0,p1,p2⟩:=zM c7.out;obtain⟨r0,r1,r2⟩:=zM f8.out;clear a7 c4;cases by_ with
     | false =>
      have HF:Hid (choB ps.length cs k=false):=Kh (by rw[h8.out];rfl);go_wp2;go_ret;exact⟨yA (by rw[H9.out,jD (by rw[<- h7.out];exact hk) HF.out]),zA h0.out (zA (zA HG.out H8.out (by simp)) b1.out (by simp)) (by simp)⟩
     | true =>
      rw[Bool.true_and]at h8;go_wp2_with fail;refine(c5.out _ (zD H8.out b1.out)).mono ?_;rintro e w4 ⟨rfl,d4⟩;have d9:=Kh d4;clear d4 c5;cases bn with
      | false =>
       have HF:Hid (choB ps.length cs k=false):=Kh h8.out;go_wp2;go_ret;exact⟨yA (by rw[H9.out,jD (by rw[<- h7.out];exact hk) HF.out]),zA h0.out (zA (zA (zA HG.out H8.out (by simp)) b1.out (by simp)) d9.out (by simp)) (by simp)⟩
      | true =>
       go_wp2;go_roundg (nc - (k+1))
       case measure=>have:=H7.out;omega
       case rel=>exact⟨k+1,by have:=H7.out;omega,by go_num,eL e2.out h8.out,zA (zA (zA HG.out H8.out (by simp)) b1.out (by simp)) d9.out (by simp)⟩
    ·have a0:¬ (k:Int)<nc:=by omega
     have b2:=Kh (qCB (root:=root) (by rw[<- h7.out];exact hk) e2.out);rw[<- h7.out]at b2;obtain⟨p0,p1,p2⟩:=zM (zB c8.out hg (by simp));clear hg;by_cases h5:root<0
     ·go_wp2
      go_ret;exact⟨yA (by rw[H9.out,b2.out,if_neg (by omega)]),zA h0.out (HG.out) (by simp)⟩
     by_cases h6:1+(nc:Int)<root
     ·go_wp2
      go_ret;exact⟨yA (by rw[H9.out,b2.out,if_neg (by omega)]),zA h0.out (HG.out) (by simp)⟩
     go_wp2;go_ret;exact⟨yA (by rw[H9.out,b2.out,if_pos (by omega)]),zA h0.out (HG.out) (by simp)⟩
theorem cdecide_any (B:Nat)(w:World)(v:Value)(g:DiaV)(m:Nat->Bool)(fid:FuncId)(caps:Array Value)(h:dG B w v g)(hc:vD g.pats.length g.chos g.chos.length)(h0:0<=g.root)(h1:g.root<=1+(g.chos.length:Int))(hE:∀ (args:Array Value) (W:World),Sem.run Try.prog (callFunc fid args) W=.ok (.enter fid args) W)(hF:∀ (W:World) (p:Nat),w.grownBy W none->p<g.pats.length->Calls Try.prog fid (#[.int .i64 (p:Int)]++caps) W fun e w'=>e=.returned (.bool (m p))/\W.grownBy w' none):
  Calls Try.prog 40 #[v,.func (.func fid) #[] caps] w fun e w'=>e=.returned (.bool (decG g.chos m g.root))/\w.grownBy w' none:=by
 obtain⟨pv,cv,rfl,hp,h7⟩:=h;obtain⟨ca,cc,rfl⟩:=h7.shape;have H8:=h7.len_le;unfold maxLen at H8;obtain⟨ps,cs,root⟩:=g;simp only at hp hc h7 H8 h0 h1 hF ⊢;obtain⟨r0,rfl⟩:∃ n:Nat,root=(n:Int):=⟨root.toNat,by omega⟩;obtain⟨nc,H5⟩:∃ n,n=cs.length:=⟨_,rfl⟩;rw[<- H5]at h7 H8 h1 ⊢;have H2:=Ga w (.cells #[pv,.slice ca nc cc,.int .i64 (r0:Int)] 25) none;have H1:=heap_alloc_new w (.cells #[pv,.slice ca nc cc,.int .i64 (r0:Int)] 25);obtain⟨wA,a0⟩:∃ w1,w1=w.alloc (.cells #[pv,.slice ca nc cc,.int .i64 (r0:Int)] 25):=⟨_,rfl⟩;obtain⟨P,hP⟩:∃ P,P=w.heap.size:=⟨_,rfl⟩;rw[<- a0]at H2 H1;rw[<- hP]at H1;have a7:=h7.kept H2 (by simp);obtain⟨p0,p1,p2⟩:=zM H1;have a2:=Kh H5;have c4:=Kh a7;have c6:=Kh H1;have a8:=Kh hc;have b6:=Kh a0;have c0:=Kh hP;have b0:=Kh H2;have HE:=Kh hE;have HF:=Kh hF;have b9:=Kh h1;obtain⟨ans,h4⟩:∃ b,b=decG cs m (r0:Int):=⟨_,rfl⟩;rw[<- h4];have a4:=Kh h4;clear hp h7 a7 H2 H1 a0 hP H5 hc h1 h0 hF hE h4;go_enter Try.func40,Try.ntmps40;go_upto_region 1 with fail;rw[<- b6.out,<- c0.out];go_wp2;clear p0 p1 p2
 go_loopg [5,6] r0 (fun gh r s6 wr=>∃ q:Nat,gh=q/\r=.int .i64 q/\q<=1+nc/\decG cs m q=ans/\wA.grownBy wr none)
 case atStart=>exact⟨r0,rfl,rfl,by have:=b9.out;omega,a4.out.symm,zL _ _⟩
 case round =>
  obtain⟨q,a5,rfl,b3,h9,hg⟩:=hrel;have a9:=Kh a5;clear a5;have HG:=Kh hg;have h5:=Kh h9;clear h9;by_cases hq:2<=q
  ·have b4:(2:Int)<=q:=by omega
   obtain⟨i,rfl⟩:∃ i,q=i+2:=⟨q - 2,by omega⟩;have hi:i<nc:=(by omega);have H0:=c4.out.kept hg (by simp);obtain⟨b,off,cap,e,d1,h3,b5,H3⟩:=H0.at_ (by rw[<- a2.out];omega);rw[<- a2.out]at e h3;simp only[Value.slice.injEq,true_and]at e;obtain⟨rfl,rfl⟩:=e;have c9:cc<=9223372036854775807:=by unfold maxLen at b5;omega
   have h8:i<cs.length:=(by rw[<- a2.out];exact hi);have c1:=H3.p i h8;have c2:=H3.y i h8;have c3:=H3.n i h8;have h6:=eE (m:=m) a8.out (r:=((i+2:Nat):Int)) (by omega) (by omega);have e0:((i+2:Nat):Int).toNat - 2=i:=by omega
   rw[e0]at h6;have H9:=nZ (a8.out i h8);obtain⟨c,a6⟩:∃ c,c=cs.getD i default:=⟨_,rfl⟩;rw[<- a6]at c1 c2 c3 h6 H9;clear H0 H3 h8 a6;obtain⟨x,y,n⟩:=c;simp only at c1 c2 c3 h6 H9;obtain⟨xn,rfl⟩:∃ k:Nat,x=(k:Int):=⟨x.toNat,by omega⟩;obtain⟨yn,rfl⟩:∃ k:Nat,y=(k:Int):=⟨y.toNat,by omega⟩;obtain⟨nn,rfl⟩:∃ k:Nat,n=(k:Int):=⟨n.toNat,by omega⟩;rw[Int.toNat_natCast]at h6;have b2:xn<ps.length:=(by omega);have c7:yn<i+2:=(by omega);have c8:nn<i+2:=(by omega);have a1:=Kh h6;have h2:=Kh (fun(W:World) (hW:wr.grownBy W none)=>HF.out W xn (zA b0.out (zA HG.out hW (by simp)) (by simp)) b2);obtain⟨b,hb⟩:∃ b,b=m xn:=⟨_,rfl⟩;rw[<- hb]at a1 h2;obtain⟨p0,p1,p2⟩:=zM (zB c6.out hg (by simp));have h3:=heap_alloc_new wr (.cells #[.int .i64 (xn:Int),.int .i64 (yn:Int),.int .i64 (nn:Int)] 45);have H7:=Ga wr (.cells #[.int .i64 (xn:Int),.int .i64 (yn:Int),.int .i64 (nn:Int)] 45) none;obtain⟨w2,H4⟩:∃ w2,w2=wr.alloc (.cells #[.int .i64 (xn:Int),.int .i64 (yn:Int),.int .i64 (nn:Int)] 45):=⟨_,rfl⟩;obtain⟨R,hR⟩:∃ R,R=wr.heap.size:=⟨_,rfl⟩;rw[<- H4]at h3 H7;rw[<- hR]at h3;have b7:=Kh H4;have b8:=Kh hR;have c5:=Kh h3;have a3:=Kh H7;obtain⟨r0,r1,r2⟩:=zM h3;have e2:IntKind.i64.wrap ((i+2:Nat) - 2:Int)=(i:Int):=by rw[show ((i+2:Nat) - 2:Int)=i by omega];exact sO (by omega)
   have e3:((i+2:Nat) - 2:Int)=(i:Int):=by omega
   have d0:(i:Int)<nc:=(by omega);clear hb H4 hR h3 H7 hg h6 H9 b3;go_upto_region 4 with fail;rw[<- b7.out,<- b8.out];clear c1 c2 c3;go_wp2_with fail;rw[HE.out,Oper.upon_enter];refine(h2.out _ a3.out).mono ?_;rintro e w3 ⟨rfl,H6⟩;have b1:=Kh H6;obtain⟨r0,r1,r2⟩:=zM (zB c5.out H6 (by simp));clear H6 h2;cases b with
   | true =>
    go_wp2;go_roundg yn
    case measure=>have:=a9.out;omega
    case rel=>exact⟨yn,rfl,rfl,by omega,by rw[<- h5.out];exact a1.out.symm,zA (zA HG.out a3.out (by simp)) b1.out (by simp)⟩
   | false =>
    go_wp2;go_roundg nn
    case measure=>have:=a9.out;omega
    case rel=>exact⟨nn,rfl,rfl,by omega,by rw[<- h5.out];exact a1.out.symm,zA (zA HG.out a3.out (by simp)) b1.out (by simp)⟩
  ·have b4:¬ (2:Int)<=q:=by omega
   have HA:Hid (decide ((q:Int)=1)=ans):=Kh (by rw[<- h5.out,qEP _ _ (by omega)]);clear hg;go_wp2;go_ret;exact⟨yB (by rw[<- HA.out];first|rfl|simp|decide),zA b0.out HG.out (by simp)⟩
theorem match_anyW (b off cap:Nat)(bs:List ByteArray)(s:ByteArray)(w:World)(hcap:bs.length<=cap)(hcm:cap<=maxLen)(hra:uV w b off (bs.map .string))(hs:∀ i (h:i<bs.length),bs[i].size<=maxLen)(hss:s.size<=maxLen)(hL:pF w):
  Calls Try.prog 42 #[.agg #[.slice (some ⟨b,off,none⟩) bs.length cap],.string s] w fun e w'=>e=.returned (.bool (xO bs s))/\w.grownBy w' none:=by
 have H0:s.size<=9223372036854775807:=by unfold maxLen at hss;omega
 have g0:=Ga w (.cells #[.slice (some ⟨b,off,none⟩) bs.length cap] 28) none;have ra0:=hra.kept g0 (by simp);go_enter Try.func42,Try.ntmps42;go_wp2_with fail;have bx0:=heap_alloc_new w (.cells #[.slice (some ⟨b,off,none⟩) bs.length cap] 28);have h3:Row (b+1) (w.alloc (.cells #[.slice (some ⟨b,off,none⟩) bs.length cap] 28)) (.slice (some ⟨b,off,none⟩) bs.length cap) (txtV bs):=.inr ⟨b,off,cap,by rw[zX],by omega,by rw[zX];exact hcap,hcm,ra0⟩;refine(kJ (b+1) _ _ bs 6 h3 hs).mono ?_;rintro e w1 ⟨rfl,g1⟩;have ra1:=ra0.kept g1 (by simp);have h4:=zH (zB bx0 g1 (by simp)) 0 (by simp);simp only[List.getElem_toArray,List.getElem_cons_zero]at h4;have h9:=(hL.kept g0 (by simp)).kept g1 (by simp);have gw:=zD g0 g1;clear g0 ra0 bx0 g1 hra;clear h3;have h2:patW bs 6=0 ↔ yM bs 6=0:=vW;obtain⟨E,h5⟩:∃ E,E=patW bs 6:=⟨_,rfl⟩;rw[<- h5]at h2 ⊢;have a7:=Kh h5;clear h5;by_cases hV:yM bs 6=0
 ·have H8:E=0:=h2.2 hV
  subst H8;clear h2;have HV:=Kh hV;clear hV;go_wp2_with fail;refine(pU s 6 _ (by unfold maxLen;omega)).mono ?_;rintro e w2 ⟨rfl,rfl⟩;have hz:=wT HV.out;have h6:0<bs.length:=hz.2.2.2.2.1;have a1:bs.length<=8:=hz.2.2.1;have h7:=ra1.map 0 h6;rw[Nat.add_zero]at h7;have H4:cap<=9223372036854775807:=by unfold maxLen at hcm;omega
  have a6:=Kh hcm;clear hz hcm;by_cases hW:zY s 6=true
  ·by_cases h1:bs.length=1
   ·have H9:((bs.length:Int) - 1 == 0)=true:=by simp[h1]
    have H1:=Kh h1;clear h1;go_wp2;go_ret;exact⟨yB (patMatch_one HV.out hW H1.out h6).symm,gw⟩
   ·have H9:((bs.length:Int) - 1 == 0)=false:=by rw[beq_eq_false_iff_ne];omega
    go_wp2_with fail;refine(Try.strings_CutPrefix _ _ _).mono ?_;rintro e w2 ⟨rfl,rfl⟩;by_cases hP:Lib.hasPrefix s.data.toList bs[0].data.toList=true
    ·go_wp2
     go_loopw [6,46] (fun rs i wr=>∃ (k:Nat) (r:List UInt8),k<=bs.length - 1 - 1/\i=.int .i64 k/\rs=.string ⟨r.toArray⟩/\r.length<=2048 /\
       rG ((mid bs).drop k) r=rG (mid bs) (Lib.trimPrefix s.data.toList bs[0].data.toList) /\
       uV wr b off (bs.map .string)/\wr.cell? ⟨w.heap.size,0,none⟩=some (.slice (some ⟨b,off,none⟩) bs.length cap)/\pF wr/\w.grownBy wr none)
      (fun _ i _=>bs.length - (intOf i).toNat)
     case atStart=>exact⟨0,_,Nat.zero_le _,rfl,rfl,trim_le HV.out hW,rfl,ra1,h4,h9,gw⟩
     case round =>
      clear ra1 h4 h9 gw h7;obtain⟨k,r,hk,rfl,rfl,a0,h0,rar,H3,h8,gr⟩:=hrel;have HF:=Kh h0;clear h0;by_cases hlt:k<bs.length - 1 - 1
      ·have H6:=rar.map (1+k) (by omega)
       rw[<- Nat.add_assoc]at H6;have H2:(k:Int)<((bs.length - 1 - 1:Nat):Int):=(by omega);go_wp2_with fail;obtain⟨_,m,hm⟩:=id h8
       refine(Try.strings_Cut _ _ m _ (by
        have:(ByteArray.mk r.toArray).size=r.toArray.size:=rfl
        rw[this,List.size_toArray];omega) hm).mono ?_
       rintro e w3 ⟨rfl,m',rfl⟩;have H5:=cut_le r bs[1+k].data.toList;by_cases hf:(Lib.cut r bs[1+k].data.toList).2.2=true
       ·go_wp2
        go_roundw
        case rel =>
         exact⟨k+1,_,by omega,by go_num,rfl,by omega,by rw[<- HF.out];exact findAll_step bs r k hlt hf,rar.of_heap rfl,H3,h8.kept (zN _ _ none) (by simp),zD gr (zN _ _ _)⟩
        case measure=>simp[intOf];omega
       ·go_wp2
        go_ret;exact⟨yB (by rw[eq_comm];exact patMatch_none (by omega) (by omega) (by rw[<- HF.out];exact findAll_stop bs r k hlt hf)),zD gr (zN _ _ _)⟩
      ·have H5:=rar.map (bs.length - 1) (by omega)
       have a4:((bs.length:Int) - 1).toNat=bs.length - 1:=by omega
       have a3:(bs.length:Int) - 1<bs.length:=(by omega);have a2:0<=(bs.length:Int) - 1:=by omega
       go_wp2_with fail
       refine(Try.strings_HasSuffix _ _ _ (by
        have:(ByteArray.mk r.toArray).size=r.toArray.size:=rfl
        rw[this,List.size_toArray];omega)).mono ?_
       rintro e w3 ⟨rfl,rfl⟩;go_wp2;go_ret;refine⟨yB ?_,gr⟩;rw[eq_comm];refine patMatch_end HV.out hW (by omega) (by omega) hP ?_;rw[<- HF.out,List.drop_eq_nil_of_le (by rw[mH];omega)];rfl
    ·go_wp2
     go_ret;exact⟨yB (by rw[eq_comm];exact patMatch_nopre (by omega) (by omega) hP),gw⟩
  ·go_wp2
   go_ret;exact⟨yB (by simp[xO,hW]),gw⟩
 ·have H7:(E != 0)=true:=by rw[bne_iff_ne];exact fun e=>hV (h2.1 e)
  have a5:(E == 0)=false:=by rw[beq_eq_false_iff_ne];exact fun e=>hV (h2.1 e)
  clear h2;have HV:=Kh hV;clear hV;go_wp2;go_ret;exact⟨yB (by simp[xO,HV.out]),gw⟩
def diaH (g:DiaV)(s:ByteArray):Bool:=decide (diaE g 6=0) && (zY s 6 && decG g.chos (fun p=>xO (g.pats.getD p []) s) g.root)
theorem patW_pos {bs:List ByteArray}{letters:Int}(h:patW bs letters=0):0<bs.length:=(wT (vW.1 h)).2.2.2.2.1
theorem holds1_any (B:Nat)(w:World)(P Q:Nat)(pv cv rv:Value)(ps:List (List ByteArray))(s:ByteArray)(p:Nat)(hb:w.heap[P]?=some (.cells #[pv,cv,rv] 25 (0,0)))(hq:w.heap[Q]?=some (.cells #[.string s] 9 (0,0)))(h:PatsIn B w pv ps)(hp:p<ps.length)(h0:0<(ps.getD p []).length)(hs:s.size<=maxLen)(hL:pF w):
  Calls Try.prog 41 #[.int .i64 (p:Int),.pointer (some ⟨P,0,none⟩),.pointer (some ⟨Q,0,none⟩)] w fun e w'=>e=.returned (.bool (xO (ps.getD p []) s))/\w.grownBy w' none:=by
 obtain⟨b,off,cap,rfl,H5,H6,H1,h2⟩:=h.at_ (by omega);obtain⟨sa,sc,c1,h1,h3⟩:=h2 p hp;obtain⟨q,h6⟩:∃ q,q=ps.getD p []:=⟨_,rfl⟩;rw[<- h6]at c1 h1 h3 h0 ⊢;obtain⟨kb,ko,kc,e,_,h4,h9,h8⟩:=h1.some_ (by rw[zX];exact h0);rw[zX]at e h4;simp only[Value.slice.injEq]at e;obtain⟨rfl,_,rfl⟩:=e;obtain⟨r0,r1,r2⟩:=zM hb;have c2:w.cell? ⟨Q,0,none⟩=some (.string s):=by simpa using zH hq 0 (by simp)
 have HM:Hid (∀ W:World,w.grownBy W none->Calls Try.prog 42 #[.agg #[.slice (some ⟨kb,ko,none⟩) q.length sc],.string s] W fun e w'=>e=.returned (.bool (xO q s))/\w.grownBy w' none):=Kh (fun W hW =>
  (match_anyW kb ko sc q s W h4 h9 (h8.kept hW (by simp)) h3 hs (hL.kept hW (by simp))).mono fun e w' ⟨he,hg⟩=>⟨he,zD hW hg⟩)
 have HC:Hid (∀ W:World,w.grownBy W none->W.cell? ⟨P,0,none⟩=some (.slice (some ⟨b,off,none⟩) ps.length cap)/\W.cell? ⟨b,off+p,none⟩=some (.slice (some ⟨kb,ko,none⟩) q.length sc)/\W.cell? ⟨Q,0,none⟩=some (.string s)):=Kh (fun W hW=>⟨xE r0 hW,xE c1 hW,xE c2 hW⟩);obtain⟨n,hn⟩:∃ n,n=ps.length:=⟨_,rfl⟩;obtain⟨ql,h5⟩:∃ n,n=q.length:=⟨_,rfl⟩;obtain⟨mm,h7⟩:∃ m,m=xO q s:=⟨_,rfl⟩;rw[<- hn]at hp r0 HC;rw[<- h5]at c1 HM HC;rw[<- h7]at HM ⊢;have H4:cap<=9223372036854775807:=by unfold maxLen at H1;omega
 have H3:n<=9223372036854775807:=by omega
 have H2:(p:Int)<n:=by omega
 have GA:w.grownBy w.drew none:=zO _ _;clear h2 h1 h3 h4 h9 h8 hb hq h6 hn h5 h7 h h0 hL;go_enter Try.func41,Try.ntmps41;go_upto_region 1 with fail
 go_region_held3 (fun w'=>w'.cell? ⟨P,0,none⟩=some (.slice (some ⟨b,off,none⟩) n cap)/\w'.cell? ⟨b,off+p,none⟩=some (.slice (some ⟨kb,ko,none⟩) ql sc)/\w'.cell? ⟨Q,0,none⟩=some (.string s))
  (first|go_keep|exact HC.out _ H0|fail)
  (first|(go_at_call 42;(with_reducible refine(HM.out _ GA).mono ?_);rintro e w7 ⟨rfl,H0⟩)|fail)
 all_goals
  go_wp2;go_ret;exact⟨rfl,by first|assumption|exact H0⟩
theorem cholds_any (B:Nat)(w:World)(v:Value)(g:DiaV)(s:ByteArray)(hB:B<=w.heap.size)(h:dG B w v g)(hs:s.size<=maxLen)(hL:pF w):
  Calls Try.prog 11 #[v,.string s] w fun e w'=>e=.returned (.bool (diaH g s))/\w.grownBy w' none:=by
 obtain⟨pv,cv,rfl,hp,hc⟩:=h;obtain⟨ps,cs,root⟩:=g;simp only at hp hc ⊢;obtain⟨w0,b0⟩:∃ w0:World,w0=w:=⟨w,rfl⟩;have H5:=Ga w (.cells #[pv,cv,.int .i64 root] 25) none;have H2:=heap_alloc_new w (.cells #[pv,cv,.int .i64 root] 25);obtain⟨w1,h9⟩:∃ w1,w1=w.alloc (.cells #[pv,cv,.int .i64 root] 25):=⟨_,rfl⟩;obtain⟨P,hP⟩:∃ P,P=w.heap.size:=⟨_,rfl⟩;have H8:w1.heap.size=P+1:=by rw[h9,hP,zJ]
 rw[<- h9]at H5 H2;rw[<- hP]at H2;have H1:=Ga w1 (.cells #[.string s] 9) none;have h2:=heap_alloc_new w1 (.cells #[.string s] 9);obtain⟨wA,H3⟩:∃ w2,w2=w1.alloc (.cells #[.string s] 9):=⟨_,rfl⟩;rw[<- H3]at H1 h2;rw[H8]at h2;have H6:=zB H2 H1 (by simp);have h1:=zA H5 H1 (by simp);rw[h9]at H3;have a3:=Kh H3;have a6:=Kh hP;have H7:=Kh h1;have a9:=Kh H6;have a2:=Kh h2;have HP:=Kh (hp.kept h1 (by simp));have HC:=Kh (hc.kept h1 (by simp));have a7:=Kh (hL.kept h1 (by simp))
 have HV:Hid (∀ W:World,wA.grownBy W none->Calls Try.prog 9 #[.agg #[pv,cv,.int .i64 root],.int .i64 6] W fun e w'=>e=.returned (.int .i64 (diaE ⟨ps,cs,root⟩ 6))/\W.grownBy w' none):=Kh (fun W hW =>
  cvalid_any B W _ ⟨ps,cs,root⟩ 6 (by have:=h1.size;have:=hW.size;omega) ⟨pv,cv,rfl,HP.out.kept hW (by simp),HC.out.kept hW (by simp)⟩)
 have a0:=Kh (fun W=>pU s 6 W hs);obtain⟨E,hE⟩:∃ E,E=diaE ⟨ps,cs,root⟩ 6:=⟨_,rfl⟩;obtain⟨vb,H4⟩:∃ b,b=zY s 6:=⟨_,rfl⟩;rw[<- hE]at HV;rw[<- H4]at a0;have HE:=Kh hE;have a4:=Kh H4;obtain⟨p0,p1,p2⟩:=zM H6;have c2:wA.cell? ⟨P+1,0,none⟩=some (.string s):=by simpa using zH h2 0 (by simp)
 obtain⟨Q,hQ⟩:∃ Q,Q=P+1:=⟨_,rfl⟩;rw[<- hQ]at c2 a2;have a5:=Kh hQ;clear hp hc H5 H2 H1 h2 H6 h1 h9 H3 hP hE H4 hQ H8;go_enter Try.func11,Try.ntmps11;go_upto_region 1 with fail;rw[<- a6.out,<- a5.out];rw[<- a3.out];go_wp2_with fail;refine(HV.out _ (zL _ _)).mono ?_;rintro e w3 ⟨rfl,H0⟩;have h0:=Kh H0;have h4:=Kh (zB a9.out H0 (by simp));have h3:=Kh (zB a2.out H0 (by simp));obtain⟨p0,p1,p2⟩:=zM h4.out;have c2:w3.cell? ⟨Q,0,none⟩=some (.string s):=by simpa using zH h3.out 0 (by simp)
 clear H0 HV;by_cases hE:E=0
 case neg =>
  have e1:(E != 0)=true:=by rw[bne_iff_ne];exact hE
  have HR:Hid (diaH ⟨ps,cs,root⟩ s=false):=Kh (by
   unfold diaH;rw[show decide (diaE ⟨ps,cs,root⟩ 6=0)=false by rw[decide_eq_false_iff_not,<- HE.out];exact hE];rfl)
  clear hE;go_wp2;go_ret;exact⟨yB HR.out.symm,zA H7.out h0.out (by simp)⟩
 have e1:(E != 0)=false:=by simp[hE]
 have HD:=Kh (diaE_zero (g:=⟨ps,cs,root⟩) (letters:=6) (by rw[<- HE.out];exact hE))
 have HR:Hid (diaH ⟨ps,cs,root⟩ s=(vb && decG cs (fun p=>xO (ps.getD p []) s) root)):=Kh (by
  unfold diaH;rw[show decide (diaE ⟨ps,cs,root⟩ 6=0)=true by rw[decide_eq_true_eq,<- HE.out];exact hE,a4.out];rfl)
 clear hE;go_wp2_with fail;refine(a0.out _).mono ?_;rintro e w4 ⟨rfl,rfl⟩;cases vb with
 | false =>
  go_wp2;go_ret;exact⟨yB HR.out.symm,zA H7.out h0.out (by simp)⟩
 | true =>
  rw[Bool.true_and]at HR
  have a1:Hid (Calls Try.prog 40 #[.agg #[pv,cv,.int .i64 root],.func (.func 41) #[] #[.pointer (some ⟨P,0,none⟩),.pointer (some ⟨Q,0,none⟩)]] w3 fun e w'=>e=.returned (.bool (decG cs (fun p=>xO (ps.getD p []) s) root))/\w3.grownBy w' none):=Kh (by
   obtain⟨_,_,_,_,h5,h6,h7,h8⟩:=HD.out;refine cdecide_any B w3 _ ⟨ps,cs,root⟩ (fun p=>xO (ps.getD p []) s) _ _ ⟨pv,cv,rfl,HP.out.kept h0.out (by simp),HC.out.kept h0.out (by simp)⟩ h6 h7 h8 (fun _ _=>rfl) (fun W p hW hp=>?_)
   exact holds1_any B W P Q pv cv _ ps s p (zB h4.out hW (by simp)) (zB h3.out hW (by simp)) ((HP.out.kept h0.out (by simp)).kept hW (by simp)) hp (patW_pos (by rw[zG hp];exact h5 _ (List.getElem_mem hp))) hs ((a7.out.kept h0.out (by simp)).kept hW (by simp)))
  go_wp2_with fail;refine a1.out.mono ?_;rintro e w5 ⟨rfl,H9⟩;have a8:=Kh H9;clear H9 a1;go_wp2;go_ret;exact⟨yB HR.out.symm,zA (zA H7.out h0.out (by simp)) a8.out (by simp)⟩
def famB (l:List (List (List Int))):List (List ByteArray):=l.map fun p=>p.map strOfNums
theorem vS (l:List (List (List Int))):(famB l).length=l.length:=by simp[famB]
theorem strs_txtV (p:List (List Int)):strs p=txtV (p.map strOfNums):=by simp[strs,txtV]
def qHX (ds:List DfaV)(k:Nat)(lw:List (List Nat×List Nat)):Bool :=
 decide ((lw.map (·.2)).Nodup) && (decide ((lw.map (·.2))[0]?=some (st0T ds)) && (lw.all (fun p=>(List.range k).all fun a=>decide (nxtT ds p.2 a∈lw.map (·.2))) && lw.all (fun p=>decide (∀ a∈p.1,a<k) && decide (sI (nxtT ds) (st0T ds) p.1=p.2))))
theorem qGR {ds:List DfaV}{k:Nat}{lw:List (List Nat×List Nat)}(h:qHX ds k lw=true):BfsD (nxtT ds) k (st0T ds) (lw.map (·.2)):=by
 simp only[qHX,Bool.and_eq_true,decide_eq_true_eq,List.all_eq_true]at h;obtain⟨h1,h2,h3,h4⟩:=h;refine⟨h1,h2,fun x hx b hb=>?_,fun x hx=>?_⟩
 ·obtain⟨p,hp,rfl⟩:=List.mem_map.1 hx
  exact h3 p hp b (List.mem_range.2 hb)
 ·obtain⟨p,hp,rfl⟩:=List.mem_map.1 hx
  exact⟨p.1,(h4 p hp).1,(h4 p hp).2⟩
def dK:DfaV:=⟨2,0,[false,false,true],[[1,0],[1,2],[1,2]]⟩
def psFL:List (List (List Int)):=[[[]],[[],[97]],[[],[98]],[[97],[]],[[98],[]],[[],[97],[]],[[],[98],[]]]
def psPL:List (List (List Int)):=[[[],[97],[]],[[],[98],[]]]
def psF:List (List ByteArray):=famB psFL
def psP:List (List ByteArray):=famB psPL
theorem famF:famL 5 2 1 0=psFL:=by decide +kernel
theorem famFE:famE 5 2 1 0=0:=by decide +kernel
theorem famPP:famL 6 2 1 0=psPL:=by decide +kernel
theorem famPE:famE 6 2 1 0=0:=by decide +kernel
theorem ofEF:ofE dK psF=0:=by decide +kernel
theorem ofEP:ofE dK psP=0:=by decide +kernel
def tupD (d:DfaV):Int×Int×List Bool×List (List Int):=(d.letters,d.start,d.final,d.next)
def mkD (t:Int×Int×List Bool×List (List Int)):DfaV:=⟨t.1,t.2.1,t.2.2.1,t.2.2.2⟩
theorem qHO {l:List DfaV}{t:List (Int×Int×List Bool×List (List Int))}(h:l.map tupD=t):l=t.map mkD:=by
 subst h;rw[List.map_map];exact(List.map_id' l).symm
def tF:List DfaV:=([(2,0,[true,false],[[1,1],[1,1]]),(2,0,[false,true],[[1,0],[1,0]]),
 (2,0,[false,true],[[0,1],[0,1]]),(2,0,[false,true,false],[[1,2],[1,1],[2,2]]),
 (2,0,[false,false,true],[[1,2],[1,1],[2,2]]),(2,0,[false,true],[[1,0],[1,1]]),
 (2,0,[false,true],[[0,1],[1,1]]),(2,0,[false,false,true],[[1,0],[1,2],[1,2]])]:List (Int×Int×List Bool×List (List Int))).map mkD
def tP:List DfaV:=([(2,0,[false,true],[[1,0],[1,1]]),(2,0,[false,true],[[0,1],[1,1]]),(2,0,[false,false,true],[[1,0],[1,2],[1,2]])]:List (Int×Int×List Bool×List (List Int))).map mkD
theorem ofTF:ofT dK psF=tF:=qHO (by decide +kernel)
theorem ofTP:ofT dK psP=tP:=qHO (by decide +kernel)
def lF:List (List Nat×List Nat):=[([],[0,0,0,0,0,0,0,0]),([0],[1,1,0,1,1,1,0,1]),([1],[1,0,1,2,2,0,1,0]),
 ([0,1],[1,0,1,1,1,1,1,2]),([1,0],[1,1,0,2,2,1,1,1]),([0,1,0],[1,1,0,1,1,1,1,1]),
 ([1,0,1],[1,0,1,2,2,1,1,2])]
def lP:List (List Nat×List Nat):=[([],[0,0,0]),([0],[1,0,1]),([1],[0,1,0]),([0,1],[1,1,2]),([1,0],[1,1,1])]
theorem bfsF:BfsD (nxtT (ofT dK psF)) 2 (st0T (ofT dK psF)) (lF.map (·.2)):=by rw[ofTF];exact qGR (by decide +kernel)
theorem bfsP:BfsD (nxtT (ofT dK psP)) 2 (st0T (ofT dK psP)) (lP.map (·.2)):=by rw[ofTP];exact qGR (by decide +kernel)
theorem underF:qHF (ofT dK psF) 2:=⟨_,bfsF,by decide⟩
theorem underP:qHF (ofT dK psP) 2:=⟨_,bfsP,by decide⟩
theorem noConfF:¬ Conf (ofT dK psF) 7 2:=by
 rw[mP (by rw[uB];decide) bfsF,ofTF];have:(lF.map (·.2)).all (fun x=>(lF.map (·.2)).all fun y=>!(decide (mtsT tF 7 x=mtsT tF 7 y) && (accT tF x 7 && !accT tF y 7)))=true:=by decide +kernel
 rw[List.all_eq_true]at this;rintro ⟨x,y,hx,hy,h1,h2,h3⟩;have h4:=this x hx;rw[List.all_eq_true]at h4;have h5:=h4 y hy;simp[h1,h2,h3]at h5
theorem confP:Conf (ofT dK psP) 2 2:=by
 rw[mP (by rw[uB];decide) bfsP,ofTP];exact⟨[1,1,2],[1,1,1],by decide,by decide,by decide +kernel,by decide +kernel,by decide +kernel⟩
theorem dK_vd:VD dK 3 2:=dC (d:=dK) (by decide +kernel)
theorem qCI {u:List Nat}(hu:yJ 2 u):run dK 0 u<3:=qDJ dK_vd u (by decide) hu
theorem qAS {bs:List ByteArray}{k:Int}(h:patW bs k=0)(hk:k<=6):patW bs 6=0:=vW.2 (oV (vW.1 h) hk (Int.le_refl 6))
theorem of_dia {d:DfaV}{ps:List (List ByteArray)}{g:DiaV}(hE:ofE d ps=0)(h1:g.pats=ps)(h2:vD ps.length g.chos g.chos.length)(h3:0<=g.root)(h4:g.root<=1+(g.chos.length:Int))(hl:g.chos.length<=20000):diaE g 6=0/\diaE g d.letters=0:=by
 obtain⟨e1,e2,e3⟩:=oE hE;have hv:=dC e1;have hk:=hv.hk;have k1:=hv.k1;have k6:=hv.k6;have hp:=uM.1 e3;exact⟨qGJ (by omega) (by omega) (by rw[h1];exact e2) hl (fun p hp2=>qAS (hp p (by rw[<- h1];exact hp2)) (by omega)) (by rw[h1];exact h2) h3 h4,qGJ (by omega) (by omega) (by rw[h1];exact e2) hl (fun p hp2=>hp p (by rw[<- h1];exact hp2)) (by rw[h1];exact h2) h3 h4⟩
theorem of_holds {d:DfaV}{ps:List (List ByteArray)}{g:DiaV}(hE:ofE d ps=0)(h1:g.pats=ps)(h2:vD ps.length g.chos g.chos.length)(h3:0<=g.root)(h4:g.root<=1+(g.chos.length:Int))(hl:g.chos.length<=20000)(h5:∀ u,yJ d.letters.toNat u->decG g.chos (fun i=>acc (xF (ps.getD i []) d.letters) (st0 (xF (ps.getD i []) d.letters)) u) g.root=acc d (st0 d) u){s:ByteArray}(hs:zY s d.letters=true):diaH g s=acc d (st0 d) (zI s):=by
 obtain⟨e1,e2,e3⟩:=oE hE;have hv:=dC e1;have hk:=hv.hk;have k1:=hv.k1;have k6:=hv.k6;have hp:=uM.1 e3;obtain⟨k,h7⟩:∃ k,k=d.letters.toNat:=⟨_,rfl⟩;have h0:d.letters=(k:Int):=by rw[h7];exact hk
 rw[h0]at hs;have h8:=(sQ hs).1;have h6:=h5 (zI s) (by rw[<- h7];exact h8);rw[<- h6,diaH,(of_dia hE h1 h2 h3 h4 hl).1,qW hs (by omega) (Int.le_refl 6)];simp only[decide_true,Bool.true_and];refine qCS h2 (fun i hi=>?_) h4;have h9:patW (ps.getD i []) (k:Int)=0:=by rw[<- h0,zG hi];exact hp _ (List.getElem_mem hi)
 rw[h1,h0];exact(patDfa_acc (vW.1 h9) hs).symm
open Go.Maps
def qHE (c:ChoV):List Value:=[.int .i64 c.p,.int .i64 c.y,.int .i64 c.n]
def qB (l:List ChoV):List Value:=l.flatMap qHE
theorem chvals_snoc (l:List ChoV)(c:ChoV):qB (l++[c])=qB l++qHE c:=by simp[qB]
theorem mQ:∀ (l:List ChoV) (i:Nat) (h:i<l.length),(qB l)[i * 3]?=some (.int .i64 l[i].p)/\(qB l)[i * 3+1]?=some (.int .i64 l[i].y)/\(qB l)[i * 3+2]?=some (.int .i64 l[i].n)
 | [],i,h=>by simp at h
 | x::l,0,_=>⟨rfl,rfl,rfl⟩
 | x::l,i+1,h=>by
  have h1:=mQ l i (by simpa using h)
  rw[show qB (x::l)=.int .i64 x.p::.int .i64 x.y::.int .i64 x.n::qB l from rfl,show (i+1) * 3=i * 3+1+1+1 by omega,show i * 3+1+1+1+1=(i * 3+1)+1+1+1 by omega,show i * 3+1+1+1+2=(i * 3+2)+1+1+1 by omega]
  simpa using h1
theorem elem_cho:ElemN Try.prog 23 45 3 (.agg #[.int .i64 0,.int .i64 0,.int .i64 0]) 24:=⟨by kernel_rfl,by kernel_rfl,by rfl,by decide⟩
theorem chos_of_owns {base:Nat}{w:World}{v:Value}{l:List ChoV}{B:Nat}(h:w.ownsRow base 45 3 v l.length (qB l))(hB:w.heap.size<=B):oZ B w v l:=by
 have h1:∀ g j,(⟨g,0,none⟩:Addr).add j=⟨g,j,none⟩:=fun g j=>by unfold Addr.add;split<;>simp_all
 rcases h.2 with ⟨rfl,h0⟩|⟨g,cap,cur,rfl,hb,hg,hnc,hcm,_⟩
 ·exact .inl ⟨none,0,by first|rfl|rw[h0],List.eq_nil_of_length_eq_zero h0⟩
 ·refine .inr ⟨g,0,cap,rfl,Nat.lt_of_lt_of_le (zK hg) hB,hnc,hcm,zK hg,fun i hi=>?_,fun i hi=>?_,fun i hi=>?_⟩
  ·have c1:=h.cells (g:=g) rfl _ _ (mQ l i hi).1
   rw[h1]at c1;rw[zG hi,Nat.zero_add];exact c1
  ·have c1:=h.cells (g:=g) rfl _ _ (mQ l i hi).2.1
   rw[h1]at c1;rw[zG hi,Nat.zero_add];exact c1
  ·have c1:=h.cells (g:=g) rfl _ _ (mQ l i hi).2.2
   rw[h1]at c1;rw[zG hi,Nat.zero_add];exact c1
theorem chomap_under:Try.prog.underlying 135=some (.map 45 3):=by kernel_rfl
theorem cho_keyed:Keyed Try.prog 45:=Keyed.of_law (deep_law_laid (m:=5) (by kernel_rfl) (by decide) (of_decide_eq_true (by kernel_rfl)) (by kernel_rfl) (by kernel_rfl))
def choW (c:ChoV):Value:=.agg #[.int .i64 c.p,.int .i64 c.y,.int .i64 c.n]
def aX (c:ChoV):Prop:=(0<=c.p/\c.p<4611686018427387904)/\(0<=c.y/\c.y<4611686018427387904)/\(0<=c.n/\c.n<4611686018427387904)
theorem qCC:Try.prog.cellsOf 45=3:=by kernel_rfl
theorem cho_some {x0 x1 x2:Nat}(h0:x0<4611686018427387904)(h1:x1<4611686018427387904)(h2:x2<4611686018427387904):(keyOf Try.prog 45 (.agg #[.int .i64 (x0:Int),.int .i64 (x1:Int),.int .i64 (x2:Int)])).isSome=true:=by
 have hk:Try.prog.keyType 45=true:=by kernel_rfl
 unfold keyOf;rw[Try.underlying45];simp only[hk,Bool.true_and]
 have hf:(Value.agg #[.int .i64 (x0:Int),.int .i64 (x1:Int),.int .i64 (x2:Int)]).formed Try.prog 45=true:=by
  simp[Value.formed,Try.underlying45,qCC]
 rw[if_pos hf]
 have hl:Try.prog.keyLits (Try.prog.types.size+1) 45 (Value.agg #[.int .i64 (x0:Int),.int .i64 (x1:Int),.int .i64 (x2:Int)]).cells.toList=some [.int .i64 (x0:Int),.int .i64 (x1:Int),.int .i64 (x2:Int)]:=by
  have hz:Try.prog.types.size=(Try.prog.types.size - 1)+1:=by kernel_rfl
  rw[hz];unfold Program.keyLits;rw[Try.underlying45];simp[Value.cells,qCC,fQ,tE _ h0,tE _ h1,tE _ h2]
 rw[hl];rfl
theorem qGM:KeyK 135 45 aX choW where
 key:=cho_keyed
 und:=chomap_under
 of:=fun c h=>by
  obtain⟨p,y,n⟩:=c
  obtain⟨⟨a1,a2⟩,⟨b1,b2⟩,⟨c1,c2⟩⟩:=h
  simp only at a1 a2 b1 b2 c1 c2
  have:=cho_some (x0:=p.toNat) (x1:=y.toNat) (x2:=n.toNat) (by omega) (by omega) (by omega)
  rw[Int.toNat_of_nonneg a1,Int.toNat_of_nonneg b1,Int.toNat_of_nonneg c1]at this
  exact this
 inj:=fun x y hx hy e=>by
  obtain⟨p,y',n⟩:=x
  obtain⟨p2,y2,n2⟩:=y
  simp only[choW,Value.agg.injEq]at e
  have e:=congrArg Array.toList e
  simp only[List.cons.injEq,Value.int.injEq,true_and,and_true]at e
  obtain⟨rfl,rfl,rfl⟩:=e
  rfl
def numH (l:List ChoV)(c:ChoV):Option Nat:=if c∈l then some (l.idxOf c) else none
theorem numH_of_mem {l:List ChoV}{c:ChoV}(h:c∈l):numH l c=some (l.idxOf c):=if_pos h
theorem qDY {l:List ChoV}{c:ChoV}(h:c ∉ l):numH l c=none:=if_neg h
theorem numH_snoc {l:List ChoV}{c:ChoV}(h:c ∉ l):(fun q=>if q=c then some l.length else numH l q)=numH (l++[c]):=by
 funext q;unfold numH;by_cases e:q=c
 ·subst e
  rw[if_pos rfl,if_pos (by simp),List.idxOf_append,if_neg h];simp
 ·rw[if_neg e]
  by_cases hq:q∈l
  ·rw[if_pos hq,if_pos (List.mem_append_left _ hq),List.idxOf_append,if_pos hq]
  ·rw[if_neg hq,if_neg (fun h=>by
    rcases List.mem_append.1 h with h|h
    ·exact hq h
    ·simp at h;exact e h)]
theorem BoxS.rewk {B:Nat}{X:Nat->Prop}{o ty:Nat}{w0 wk wk0 w:World}{rs:List RowS}{c:Array Value}(h:BoxS B X o ty w0 wk rs c w)(hk:vZ X wk0 wk)(hz:wk0.heap.size<=wk.heap.size)(hB:B<=wk0.heap.size):BoxS B X o ty w0 wk0 rs c w :=
 ⟨h.mem,h.typ,h.box,h.off,h.size,h.old,hB,h.grown,hk.trans h.kept,Nat.le_trans hz h.wk⟩
inductive BldS (w0:World)(B:Nat)(X:Nat->Prop)(o mb:Nat)(wk:World)(cs:List ChoV)(w:World):Prop
 | mk (sa:Option Addr) (cap u c:Nat) (hB:BoxS B X o 137 w0 wk (⟨B,45,.slice sa cs.length cap,cs.length,qB cs,3⟩::[]) #[.slice sa cs.length cap,.map (some mb)] w)
  (hM:MapK 45 aX choW w mb u c (numH cs)) (hmx:¬ X mb) (hmb:w0.heap.size<=mb) (hu:u<=cs.length)
section
variable {w0 w w' wk:World} {B o mb:Nat} {X:Nat->Prop} {cs:List ChoV}
theorem BldS.facts (h:BldS w0 B X o mb wk cs w):w0.grownBy w none/\vZ X wk w/\wk.heap.size<=w.heap.size/\B<=w.heap.size/\B<=wk.heap.size/\mb<w.heap.size/\o<w.heap.size:=by
 obtain⟨sa,cap,u,c,hB,hM,h0,h1,hu⟩:=h;exact⟨hB.grown,hB.kept,hB.wk,Nat.le_trans hB.base hB.wk,hB.base,hM.lt,zK hB.box⟩
theorem BldS.grow (h:BldS w0 B X o mb wk cs w)(hg:w.grownBy w' none):BldS w0 B X o mb wk cs w':=by
 obtain⟨sa,cap,u,c,hB,hM,h0,h1,hu⟩:=h;exact⟨sa,cap,u,c,hB.grow hg,hM.kept hg (by simp),h0,h1,hu⟩
theorem BldS.rebase (h:BldS w0 B X o mb wk cs w):BldS w0 B X o mb w cs w:=by
 obtain⟨sa,cap,u,c,hB,hM,h0,h1,hu⟩:=h;exact⟨sa,cap,u,c,hB.rebase,hM,h0,h1,hu⟩
theorem BldS.fresh (h:BldS w0 B X o mb wk cs w)(hg:w.grownBy w' none){Y:Nat->Prop}(hY:∀ k,Y k->w.heap.size<=k/\k<w'.heap.size):BldS w0 B (fun k=>X k\/Y k) o mb w' cs w':=by
 obtain⟨sa,cap,u,c,hB,hM,h0,h1,hu⟩:=h
 exact⟨sa,cap,u,c,hB.fresh hg hY,hM.kept hg (by simp),fun e=>by
  rcases e with e|e
  ·exact h0 e
  ·have:=(hY mb e).1
   have:=hM.lt
   omega,h1,hu⟩
theorem BldS.back {X':Nat->Prop}{wk0:World}(h:BldS w0 B X' o mb wk cs w)(hX:∀ q,X q->X' q)(hk:vZ X wk0 wk)(hz:wk0.heap.size<=wk.heap.size)(hB:B<=wk0.heap.size):BldS w0 B X o mb wk0 cs w:=by
 obtain⟨sa,cap,u,c,h2,hM,h0,h1,hu⟩:=h;exact⟨sa,cap,u,c,(h2.less hX).rewk hk hz hB,hM,fun e=>h0 (hX _ e),h1,hu⟩
theorem BldS.cells (h:BldS w0 B X o mb wk cs w):∃ sa cap u c,w.heap[o]?=some (.cells #[.slice sa cs.length cap,.map (some mb)] 137 (0,0))/\w.ownsRow B 45 3 (.slice sa cs.length cap) cs.length (qB cs)/\MapK 45 aX choW w mb u c (numH cs)/\u<=cs.length:=by
 obtain⟨sa,cap,u,c,hB,hM,h0,h1,hu⟩:=h;exact⟨sa,cap,u,c,hB.box,hB.own (r:=⟨B,45,.slice sa cs.length cap,cs.length,qB cs,3⟩) (by simp),hM,hu⟩
theorem BldS.put (h:BldS w0 B X o mb wk cs w){x:ChoV}(hx:x ∉ cs){sa:Option Addr}{cap u1 c1:Nat}(hbx:w.heap[o]?=some (.cells #[.slice sa cs.length cap,.map (some mb)] 137 (0,0)))(hg:w.grownBy w' (some mb))(hM1:MapK 45 aX choW w' mb u1 c1 (numH (cs++[x])))(hu1:u1<=cs.length+1):w'.cell? ⟨o,0,none⟩=some (.slice sa cs.length cap)/\w'.ownsRow B 45 3 (.slice sa cs.length cap) cs.length (qB cs)/\B<=w'.heap.size/\(∀ wg,w'.grownBy wg none->∀ w2 s' c',w2.ownsRow B 45 3 (.slice s' (cs.length+1) c') (cs.length+1) (qB cs++qHE x)->wg.grownBy w2 (Value.slice sa cs.length cap).ownBlock->qH wg w2 (.slice sa cs.length cap) (.slice s' (cs.length+1) c')->w2.cell? ⟨o,0,none⟩=some (.slice sa cs.length cap)/\w2.frozen? ⟨o,0,none⟩=false/\BldS w0 B X o mb wk (cs++[x]) (w2.setCell ⟨o,0,none⟩ (.slice s' (cs.length+1) c'))):=by
 obtain⟨sa2,cap2,u2,c2,hB,hM,h3,h4,hu⟩:=h;have h0:=hB.box;rw[hbx]at h0;simp only[Option.some.injEq,Obj.cells.injEq,and_true]at h0;have h0:=congrArg Array.toList h0;simp only[List.cons.injEq,and_true,Value.slice.injEq,true_and]at h0;obtain⟨rfl,rfl⟩:=h0
 have h2:o≠mb:=fun e=>by
  obtain⟨es,clock,hb⟩:=hM.obj;rw[e,hb]at hbx;simp at hbx
 have h1:=hB.far hg (fun r hr=>yD (es:=#[]) (clock:=0) (hB.mem.own r hr) hM.obj) h3 h2 h4;have ho:=h1.own (r:=⟨B,45,.slice sa cs.length cap,cs.length,qB cs,3⟩) (by simp);have h6:=zH h1.box 0 (by simp);simp only[List.getElem_toArray,List.getElem_cons_zero]at h6;refine⟨h6,ho,Nat.le_trans h1.base h1.wk,fun wg hwg w2 s' c' hown hg2 hmv=>?_⟩;have h8:=h1.grow hwg;have h7:=hM1.kept hwg (by simp);have h9:(Value.slice sa cs.length cap).ownBlock≠some mb:=yD (es:=#[]) (clock:=0) (zP ho hwg) h7.obj;have hA:=h8.appAt (j:=0) rfl hown hg2 hmv;have h5:=zH hA.box 0 (by simp);simp only[List.getElem_toArray,List.getElem_cons_zero]at h5;have hZ:=hA.set 0 (.slice s' (cs.length+1) c');have H0:=(h7.kept hg2 h9).kept (zC w2 ⟨o,0,none⟩ (.slice s' (cs.length+1) c')) (fun e=>h2 (Oj e));have e1:(cs++[x]).length=cs.length+1:=by rw[List.length_append];rfl
 refine⟨h5,zE hA.box 0,⟨s',c',u1,c1,?_,H0,h3,h4,by omega⟩⟩;rw[e1,chvals_snoc];exact hZ
end
def conR (l:List ClaV):Int:=if qA l=true/\0<l.length then iA (l.headD default).b else 0
def ConI (l:List ClaV)(k:Nat):Prop:=∀ i,i<k->(l.getD i default).b=(l.headD default).b
theorem ConI.bad {l:List ClaV}{k:Nat}(hk:k<l.length)(h:(l.getD k default).b≠(l.headD default).b):qA l=false:=by
 rw[qA,List.all_eq_false];refine⟨l[k],List.getElem_mem hk,?_⟩;rw[zG hk]at h;simpa using h
theorem ConI.all {l:List ClaV}(h:ConI l l.length):qA l=true:=by
 rw[qA,List.all_eq_true];intro c hc;obtain⟨i,hi,rfl⟩:=List.getElem_of_mem hc;have:=h i hi;rw[zG hi]at this;simp[this]
theorem constant_any (X:Nat->Prop)(w:World)(v:Value)(l:List ClaV)(h:ClsX X w v l):
  Calls Try.prog 112 #[v] w fun e w'=>e=.returned (.tuple #[.int .i64 (conR l),.bool (qA l)])/\w.grownBy w' none:=by
 have H6:=h.len_le;obtain⟨a,c,rfl⟩:=h.shape;obtain⟨n,hn⟩:∃ n,n=l.length:=⟨_,rfl⟩;have H:=Kh h;have HN:=Kh hn;rw[<- hn]at H6 H ⊢;unfold maxLen at H6;obtain⟨hb,H7⟩:∃ b,b=(l.headD default).b:=⟨_,rfl⟩;have H1:=Kh H7;clear h hn H7;go_enter Try.func112,Try.ntmps112;go_wp2
 go_loopg [4,5,7,10] n (fun gh v4 v5 v7 v10 wr=>∃ k:Nat,gh+k=n/\v10=.int .i64 k/\v4=.int .i64 (if k=0 then 0 else iA hb)/\ConI l k/\w.grownBy wr none)
 case atStart=>exact⟨0,rfl,rfl,rfl,fun i hi=>by omega,zL _ _⟩
 case round =>
  obtain⟨k,H8,rfl,rfl,hc,hg⟩:=hrel;have h3:=Kh H8;have HC:=Kh hc;have HG:=Kh hg;clear H8 hc;by_cases hk:k<n
  ·have a6:(k:Int)<n:=by omega
   obtain⟨b,off,cap,e,_,a0,H9,h9⟩:=(H.out.grow hg).at_ (by rw[<- HN.out];omega);rw[<- HN.out]at e a0;simp only[Value.slice.injEq,true_and]at e;obtain⟨rfl,rfl⟩:=e;have a9:c<=9223372036854775807:=by unfold maxLen at H9;omega
   have c1:=h9.m k (by rw[<- HN.out];exact hk);have c2:=h9.y k (by rw[<- HN.out];exact hk);have c3:=h9.n k (by rw[<- HN.out];exact hk);obtain⟨U,hU⟩:∃ U,U=mT (l.getD k default).m:=⟨_,rfl⟩;obtain⟨y,hy⟩:∃ y,y=(l.getD k default).yes:=⟨_,rfl⟩;obtain⟨z,hz⟩:∃ z,z=(l.getD k default).no:=⟨_,rfl⟩;rw[<- hU]at c1;rw[<- hy]at c2;rw[<- hz]at c3;have HB:Hid ((l.getD k default).b=decide (0<=y)):=Kh (by rw[hy];rfl);have H0:=heap_alloc_new wr (.cells #[.string U,.int .i64 y,.int .i64 z] 99);have H4:=Ga wr (.cells #[.string U,.int .i64 y,.int .i64 z] 99) none;obtain⟨w2,H2⟩:∃ w2,w2=wr.alloc (.cells #[.string U,.int .i64 y,.int .i64 z] 99):=⟨_,rfl⟩;obtain⟨R,hR⟩:∃ R,R=wr.heap.size:=⟨_,rfl⟩;rw[<- H2]at H0 H4;rw[<- hR]at H0;have a7:=Kh H2;have a8:=Kh hR;have h6:=Kh (zA hg H4 (by simp));obtain⟨r0,r1,r2⟩:=zM H0;clear h9 a0 H9 hU hy hz H2 hR H4 H0 hg;go_upto_region 5 with fail;rw[<- a7.out,<- a8.out];clear c1 c2 c3
   have h4:Hid (∀ b:Bool,(l.getD k default).b=b->b=hb->ConI l (k+1)):=Kh (fun b h1 h2 i hi=>by
    rcases Nat.lt_succ_iff_lt_or_eq.1 hi with hi|rfl
    ·exact HC.out i hi
    ·rw[h1,h2,H1.out])
   have h8:Hid (∀ b:Bool,(l.getD k default).b=b->b≠hb->qA l=false):=Kh (fun b h1 h2=>ConI.bad (by rw[<- HN.out];exact hk) (by rw[h1,<- H1.out];exact h2))
   have a1:Hid (k=0->(l.getD k default).b=hb):=Kh (fun e=>by
    subst e;rw[H1.out];cases l with
    | nil=>have:=HN.out;simp at this;omega
    | cons x l=>rfl)
   by_cases hy0:(0:Int)<=y
   ·have h5:Hid ((l.getD k default).b=true):=Kh (by rw[HB.out];simp[hy0])
    by_cases hk0:k=0
    ·have HE:=Kh (a1.out hk0)
     have h7:Hid (hb=true):=Kh (by rw[<- HE.out,h5.out]);subst hk0;go_wp2;go_roundg (n - (0+1))
     case measure=>have:=h3.out;omega
     case rel=>exact⟨1,by have:=h3.out;omega,rfl,by rw[h7.out];rfl,h4.out true h5.out h7.out.symm,h6.out⟩
    ·have a5:(0:Int)<k:=by omega
     have a4:0<k:=(by omega);rw[if_neg hk0];cases hb with
     | true =>
      have e0:iA true=1:=rfl;go_wp2;go_roundg (n - (k+1))
      case measure=>have:=h3.out;omega
      case rel=>exact⟨k+1,by have:=h3.out;omega,by go_num,by rw[if_neg (by omega)];rfl,h4.out true h5.out rfl,h6.out⟩
     | false =>
      have e0:iA false=0:=rfl;have H5:=Kh (h8.out true h5.out (by simp));go_wp2;refine bodyPost_ret (v:=.tuple #[.int .i64 0,.bool false]) (by simp[results,Try.results112,go_sem]) rfl ?_;exact⟨by rw[conR,H5.out,if_neg (by simp)],h6.out⟩
   ·have h5:Hid ((l.getD k default).b=false):=Kh (by rw[HB.out];simp[hy0])
    by_cases hk0:k=0
    ·have HE:=Kh (a1.out hk0)
     have h7:Hid (hb=false):=Kh (by rw[<- HE.out,h5.out]);subst hk0;go_wp2;go_roundg (n - (0+1))
     case measure=>have:=h3.out;omega
     case rel=>exact⟨1,by have:=h3.out;omega,rfl,by rw[h7.out];rfl,h4.out false h5.out h7.out.symm,h6.out⟩
    ·have a5:(0:Int)<k:=by omega
     have a4:0<k:=(by omega);rw[if_neg hk0];cases hb with
     | false =>
      have e0:iA false=0:=rfl;go_wp2;go_roundg (n - (k+1))
      case measure=>have:=h3.out;omega
      case rel=>exact⟨k+1,by have:=h3.out;omega,by go_num,by rw[if_neg (by omega)];rfl,h4.out false h5.out rfl,h6.out⟩
     | true =>
      have e0:iA true=1:=rfl;have H5:=Kh (h8.out false h5.out (by simp));go_wp2;refine bodyPost_ret (v:=.tuple #[.int .i64 0,.bool false]) (by simp[results,Try.results112,go_sem]) rfl ?_;exact⟨by rw[conR,H5.out,if_neg (by simp)],h6.out⟩
  ·have H3:k=n:=by have:=h3.out;omega
   have a6:¬ (k:Int)<n:=(by omega);have a2:Hid (qA l=true):=Kh (ConI.all (by rw[<- HN.out,<- H3];exact HC.out))
   have a3:Hid (conR l=if k=0 then 0 else iA hb):=Kh (by
    rw[conR,a2.out,H1.out,<- HN.out,<- H3];by_cases h0:k=0
    ·rw[if_neg (by omega),if_pos h0]
    ·rw[if_pos ⟨rfl,by omega⟩,if_neg h0])
   obtain⟨x,hx⟩:∃ x:Int,x=if k=0 then 0 else iA hb:=⟨_,rfl⟩
   rw[<- hx]at a3 ⊢;clear H3 hx hg;go_wp2;refine bodyPost_ret (v:=.tuple #[.int .i64 x,.bool true]) (by simp[results,Try.results112,go_sem]) rfl ?_;exact⟨by rw[a3.out,a2.out],HG.out⟩
theorem mT_at {m:List Bool}{p:Nat}(hp:p<m.length):∃ h:p<(mT m).size,((mT m)[p]'h).toNat=if m.getD p false=true then 1 else 0:=by
 refine⟨by rw[aG];exact hp,?_⟩
 have e1:(mT m).data.toList=(mN m).map (fun x=>UInt8.ofNat x):=by
  unfold mT txtT;rw[strOfNums_data];simp[zb]
 have hq:p<(mT m).size:=by rw[aG];exact hp
 have e2:(mT m).data.toList[p]'(by simpa using hq)=(mT m)[p]'hq:=rfl;rw[<- e2,zG hp];simp only[e1,List.getElem_map,mN]
 split<;>rfl
theorem yesL_snoc {l:List ClaV}{k p:Nat}(hk:k<l.length):yesL (l.take (k+1)) p=if (l.getD k default).m.getD p false=true then yesL (l.take k) p++[l.getD k default] else yesL (l.take k) p:=by
 rw[zR (d:=default) hk,yesL,List.filter_append,List.filter_cons,List.filter_nil]
 split<;>simp[yesL]
theorem noL_snoc {l:List ClaV}{k p:Nat}(hk:k<l.length):noL (l.take (k+1)) p=if (l.getD k default).m.getD p false=true then noL (l.take k) p else noL (l.take k) p++[l.getD k default]:=by
 rw[zR (d:=default) hk,noL,List.filter_append,List.filter_cons,List.filter_nil];cases (l.getD k default).m.getD p false<;>simp[noL]
def qID (w:World)(l:List ClaV)(p:Nat)(e:Ending)(w':World):Prop :=
 ∃ sy cy sn cn,e=.returned (.tuple #[.slice sy (yesL l p).length cy,.slice sn (noL l p).length cn])/\w'.ownsRow w.heap.size 99 3 (.slice sy (yesL l p).length cy) (yesL l p).length (tX (yesL l p))/\w'.ownsRow w.heap.size 99 3 (.slice sn (noL l p).length cn) (noL l p).length (tX (noL l p))/\w.grownBy w' none
structure Two (w:World)(ya na:Option Addr)(yc nc:Nat)(ly ln:List ClaV)(wr:World):Prop where
 y:wr.ownsRow w.heap.size 99 3 (.slice ya ly.length yc) ly.length (tX ly)
 n:wr.ownsRow w.heap.size 99 3 (.slice na ln.length nc) ln.length (tX ln)
 ne:∀ k,(Value.slice ya ly.length yc).ownBlock=some k->(Value.slice na ln.length nc).ownBlock≠some k
 gr:w.grownBy wr none
theorem Two.grow {w wr w':World}{ya na:Option Addr}{yc nc:Nat}{ly ln:List ClaV}(h:Two w ya na yc nc ly ln wr)(hg:wr.grownBy w' none):Two w ya na yc nc ly ln w':=⟨zP h.y hg,zP h.n hg,h.ne,zA h.gr hg (by simp)⟩
theorem Two.pushY {w wr w':World}{ya na sa:Option Addr}{yc nc sc:Nat}{ly ln:List ClaV}{c:ClaV}(h:Two w ya na yc nc ly ln wr)(ho:w'.ownsRow w.heap.size 99 3 (.slice sa (ly.length+1) sc) (ly.length+1) (tX ly++cval c))(hg:wr.grownBy w' (Value.slice ya ly.length yc).ownBlock)(hm:qH wr w' (.slice ya ly.length yc) (.slice sa (ly.length+1) sc)):Two w sa na sc nc (ly++[c]) ln w':=by
 refine⟨by rw[List.length_append,jW];exact ho,h.n.kept hg ?_,fun k hk=>?_,zA h.gr hg (fun k e=>(h.y.lt k e).1)⟩
 ·rcases hv:(Value.slice na ln.length nc).ownBlock with _|k
  ·exact .inl rfl
  ·exact .inr (fun e=>h.ne k e.symm hv)
 ·rw[List.length_append]at hk
  rcases hm with hm|⟨_,hm⟩
  ·have e:(Value.slice sa (ly.length+1) sc).ownBlock=some k:=hk
   rw[hm]at e;exact h.ne k e
  ·have:=hm k hk
   intro e;have:=(h.n.lt k e).2;omega
theorem Two.pushN {w wr w':World}{ya na sa:Option Addr}{yc nc sc:Nat}{ly ln:List ClaV}{c:ClaV}(h:Two w ya na yc nc ly ln wr)(ho:w'.ownsRow w.heap.size 99 3 (.slice sa (ln.length+1) sc) (ln.length+1) (tX ln++cval c))(hg:wr.grownBy w' (Value.slice na ln.length nc).ownBlock)(hm:qH wr w' (.slice na ln.length nc) (.slice sa (ln.length+1) sc)):Two w ya sa yc sc ly (ln++[c]) w':=by
 refine⟨h.y.kept hg ?_,by rw[List.length_append,jW];exact ho,fun k hk e0=>?_,zA h.gr hg (fun k e=>(h.n.lt k e).1)⟩
 ·rcases hv:(Value.slice ya ly.length yc).ownBlock with _|k
  ·exact .inl rfl
  ·exact .inr (fun e=>h.ne k hv e.symm)
 ·rw[List.length_append]at e0
  rcases hm with hm|⟨_,hm⟩
  ·have e:(Value.slice sa (ln.length+1) sc).ownBlock=some k:=e0
   rw[hm]at e;exact h.ne k hk e
  ·have:=hm k e0
   have:=(h.y.lt k hk).2;omega
theorem divide_any (X:Nat->Prop)(w:World)(v:Value)(l:List ClaV)(p:Nat)(h:ClsX X w v l)(hp:∀ c∈l,p<c.m.length/\c.m.length<=400)(hl:l.length<=4000):Calls Try.prog 113 #[v,.int .i64 (p:Int)] w (qID w l p):=by
 obtain⟨a,c,rfl⟩:=h.shape;obtain⟨n,hn⟩:∃ n,n=l.length:=⟨_,rfl⟩;have H:=Kh h;have HN:=Kh hn;have HP:=Kh hp;rw[<- hn]at hl H ⊢;clear h hn hp;go_enter Try.func113,Try.ntmps113;go_wp2
 go_loopg [4,5,10] n (fun gh v4 v5 v10 wr=>∃ (k:Nat) (ya na:Option Addr) (yc nc:Nat),gh+k=n/\v10=.int .i64 k/\v4=.slice ya (yesL (l.take k) p).length yc/\v5=.slice na (noL (l.take k) p).length nc/\Two w ya na yc nc (yesL (l.take k) p) (noL (l.take k) p) wr)
 case atStart=>exact⟨0,none,none,0,0,rfl,rfl,rfl,rfl,World.ownsRow_nil _ _ _ _,World.ownsRow_nil _ _ _ _,fun k hk=>by simp[Value.ownBlock]at hk,zL _ _⟩
 case round =>
  obtain⟨k,ya,na,yc,nc,a1,rfl,rfl,rfl,hT⟩:=hrel;have h7:=Kh a1;have HT:=Kh hT;have hg:=hT.gr;clear a1 hT;by_cases hk:k<n
  ·have a8:(k:Int)<n:=by omega
   obtain⟨b,off,cap,e,_,a3,a2,h8⟩:=(H.out.grow hg).at_ (by rw[<- HN.out];omega);rw[<- HN.out]at e a3;simp only[Value.slice.injEq,true_and]at e;obtain⟨rfl,rfl⟩:=e;have b4:c<=9223372036854775807:=by unfold maxLen at a2;omega
   have h2:k<l.length:=(by rw[<- HN.out];exact hk);have c1:=h8.m k h2;have c2:=h8.y k h2;have c3:=h8.n k h2;obtain⟨H4,H3⟩:=HP.out (l.getD k default) (by rw[zG h2];exact List.getElem_mem h2);have HY:=Kh (yesL_snoc (p:=p) h2);have h1:=Kh (noL_snoc (p:=p) h2);have a5:(yesL (l.take k) p).length+(noL (l.take k) p).length<=4000:=by rw[qAA,List.length_take];omega
   obtain⟨ly,H5⟩:∃ x,x=yesL (l.take k) p:=⟨_,rfl⟩;obtain⟨ln,H6⟩:∃ x,x=noL (l.take k) p:=⟨_,rfl⟩;rw[<- H5,<- H6]at HT a5;rw[<- H5]at HY ⊢;rw[<- H6]at h1 ⊢;obtain⟨d,hd⟩:∃ d,d=l.getD k default:=⟨_,rfl⟩;rw[<- hd]at c1 c2 c3 HY h1 H4 H3;obtain⟨a6,h3⟩:=mT_at H4;have H2:(mT d.m).size<=400:=by rw[aG];exact H3
   have H9:Hid (cval d=[.string (mT d.m),.int .i64 d.yes,.int .i64 d.no]):=Kh rfl;obtain⟨U,hU⟩:∃ U,U=mT d.m:=⟨_,rfl⟩;obtain⟨y,hy⟩:∃ y,y=d.yes:=⟨_,rfl⟩;obtain⟨z,hz⟩:∃ z,z=d.no:=⟨_,rfl⟩;rw[<- hU,<- hy,<- hz]at H9;rw[<- hy]at c2;rw[<- hz]at c3
   generalize hgu:mT d.m=U2 at a6 h3 H2 c1
   have e9:U2=U:=by rw[<- hgu,hU]
   subst e9;clear hgu hU;have b3:(p:Int)<U2.size:=(by omega);have h9:=heap_alloc_new wr (.cells #[.string U2,.int .i64 y,.int .i64 z] 99);have H7:=Ga wr (.cells #[.string U2,.int .i64 y,.int .i64 z] 99) none;obtain⟨w2,H0⟩:∃ w2,w2=wr.alloc (.cells #[.string U2,.int .i64 y,.int .i64 z] 99):=⟨_,rfl⟩;obtain⟨R,hR⟩:∃ R,R=wr.heap.size:=⟨_,rfl⟩;rw[<- H0]at h9 H7;rw[<- hR]at h9;have a9:=Kh H0;have b0:=Kh hR;have h6:=Kh (HT.out.grow H7);have a0:=h6.out.gr.size;obtain⟨r0,r1,r2⟩:=zM h9;obtain⟨bo,a4⟩:∃ bo,bo=d.m.getD p false:=⟨_,rfl⟩;rw[<- a4]at h3 HY h1;clear h8 a3 a2 hy hz H0 hR H7 h9 hg hd a4 HT H4 H3 H5 H6;go_upto_region 4 with fail;rw[<- a9.out,<- b0.out];clear c1 c2 c3;cases bo with
   | true =>
    rw[if_pos rfl]at h3 HY h1;have H1:((U2[p].toNat:Nat):Int)=1:=by rw[h3];rfl
    have b1:=Kh h6.out.y;go_wp2_with (first|(at_builtin;refine vI rfl _ _ _ rfl aN w.heap.size (.slice ya ly.length yc) ly.length (tX ly) rfl b1.out [.string U2,.int .i64 y,.int .i64 z] rfl rfl ?z1 ?z2 ?z3 ?z4 ?_;(case z1=>(intro v hv;simp only[List.mem_cons,List.not_mem_nil,or_false]at hv;rcases hv with rfl|rfl|rfl<;>rfl));(case z2=>(unfold maxLen;omega));(case z3=>(show (ly.length+1) * 32<=140737488355328;omega));(case z4=>exact a0);intro sv cv wM h0 h5 h4;(have H8:=Kh (h6.out.pushY (c:=d) (by rw[H9.out];exact h0) h5 h4));clear h0 h5 h4)|fail);go_wp2;go_roundg (n - (k+1))
    case measure=>have:=h7.out;omega
    case rel=>exact⟨k+1,sv,na,cv,nc,by have:=h7.out;omega,by go_num,by rw[HY.out,List.length_append];rfl,by rw[h1.out],by rw[HY.out,h1.out];exact H8.out⟩
   | false =>
    rw[if_neg (by simp)]at h3 HY h1;have H1:((U2[p].toNat:Nat):Int)=0:=by rw[h3];rfl
    have b2:=Kh h6.out.n;go_wp2_with (first|(at_builtin;refine vI rfl _ _ _ rfl aN w.heap.size (.slice na ln.length nc) ln.length (tX ln) rfl b2.out [.string U2,.int .i64 y,.int .i64 z] rfl rfl ?z1 ?z2 ?z3 ?z4 ?_;(case z1=>(intro v hv;simp only[List.mem_cons,List.not_mem_nil,or_false]at hv;rcases hv with rfl|rfl|rfl<;>rfl));(case z2=>(unfold maxLen;omega));(case z3=>(show (ln.length+1) * 32<=140737488355328;omega));(case z4=>exact a0);intro sv cv wM h0 h5 h4;(have H8:=Kh (h6.out.pushN (c:=d) (by rw[H9.out];exact h0) h5 h4));clear h0 h5 h4)|fail);go_wp2;go_roundg (n - (k+1))
    case measure=>have:=h7.out;omega
    case rel=>exact⟨k+1,ya,sv,yc,cv,by have:=h7.out;omega,by go_num,by rw[HY.out],by rw[h1.out,List.length_append];rfl,by rw[HY.out,h1.out];exact H8.out⟩
  ·have a7:k=n:=by have:=h7.out;omega
   have a8:¬ (k:Int)<n:=(by omega);have HE:Hid (l.take k=l):=Kh (List.take_of_length_le (by rw[<- HN.out];omega));rw[HE.out]at HT ⊢;clear a7 hg;go_wp2;refine bodyPost_ret (v:=.tuple #[.slice ya (yesL l p).length yc,.slice na (noL l p).length nc]) (by simp[results,Try.results113,go_sem]) rfl ?_;exact⟨ya,yc,na,nc,rfl,HT.out.y,HT.out.n,HT.out.gr⟩
end Go.Proofs.Ytjfdomfendbhfaa
