/- Part 9 of the proof. -/
import Derived.Test.YtjfdomfendbhfaaQh8
import Derived.Deep.RegionHeld
set_option linter.unusedVariables false
set_option linter.unusedSimpArgs false
set_option maxRecDepth 100000
set_option maxHeartbeats 16000000
namespace Go.Proofs.Ytjfdomfendbhfaa
open Go.RowKit
theorem bZ (B:Nat)(w:World)(v:Value)(g:DiaV)(letters:Int)(hB:B<=w.heap.size)(h:oC B w v g):Calls Try.prog 9 #[v,.int .i64 letters] w fun e w'=>e=.returned (.int .i64 (diaE g letters))/\w.grownBy w' none:=by
 obtain⟨pv,cv,rfl,hp,hc⟩:=h;obtain⟨pa,pc,rfl⟩:=hp.shape;obtain⟨ca,cc,rfl⟩:=hc.shape;have a6:=hp.len_le;have b8:=hc.len_le;unfold maxLen at a6 b8;obtain⟨ps,cs,root⟩:=g;simp only at hp hc a6 b8⊢;obtain⟨np,b5⟩:∃n,n=ps.length:=⟨_,rfl⟩;obtain⟨nc,b6⟩:∃n,n=cs.length:=⟨_,rfl⟩;rw[<-b5]at hp a6⊢;rw[<-b6]at hc b8⊢;have h9:=Ga w (.cells #[.slice pa np pc,.slice ca nc cc,.int .i64 root] 25) none;have a3:=heap_alloc_new w (.cells #[.slice pa np pc,.slice ca nc cc,.int .i64 root] 25);obtain⟨wA,c0⟩:∃w1,w1=w.alloc (.cells #[.slice pa np pc,.slice ca nc cc,.int .i64 root] 25):=⟨_,rfl⟩;obtain⟨P,hP⟩:∃P,P=w.heap.size:=⟨_,rfl⟩;rw[<-c0]at h9 a3;rw[<-hP]at a3;have d3:=hp.kept h9 (by simp);have d6:=hc.kept h9 (by simp);obtain⟨p0,p1,p2⟩:=zN a3;have e3:=h9.size;have H2:=Kh b5;have h7:=Kh b6;have f4:=Kh d3;have f6:=Kh d6;have c8:=Kh a3;have f0:=Kh c0;have f5:=Kh hP;have h0:=Kh h9;have g0:Hid (B<=wA.heap.size):=Kh (by omega);clear hp hc d3 d6 h9 a3 c0 hP b5 b6 e3;go_enter Try.func9,Try.ntmps9;go_upto_region 1 with fail;rw[<-f0.out,<-f5.out];by_cases h1:letters<1
 ·go_wp2
  go_ret;exact⟨yB (qAJ (.inl h1)).symm,h0.out⟩
 by_cases h2:6<letters
 ·go_wp2
  go_ret;exact⟨yB (qAJ (.inr h2)).symm,h0.out⟩
 have H1:Hid (¬(letters<1\/6<letters)):=Kh (by omega);by_cases h3:300<np
 ·have e9:(300:Int)<np:=by omega
  go_wp2;go_ret;exact⟨yB (gX H1.out (.inl (by rw[<-H2.out];exact h3))).symm,h0.out⟩
 have e9:¬(300:Int)<np:=by omega
 by_cases h4:20000<nc
 ·have e8:(20000:Int)<nc:=by omega
  go_wp2;go_ret;exact⟨yB (gX H1.out (.inr (by rw[<-h7.out];exact h4))).symm,h0.out⟩
 have e8:¬(20000:Int)<nc:=by omega
 have H3:Hid (¬(300<ps.length\/20000<cs.length)):=Kh (by rw[<-H2.out,<-h7.out];omega);go_wp2
 go_loopg [6,7,29] np (fun gh s6 s7 i wr=>∃k:Nat,gh+k=np/\i=.int .i64 k/\vI letters (ps.drop k)=vI letters ps/\wA.grownBy wr none)
 case atStart=>exact⟨0,rfl,rfl,rfl,zH _ _⟩
 case round =>
  obtain⟨k,a2,rfl,d2,hg⟩:=hrel;have H7:=Kh a2;have HG:=Kh hg;have H6:=Kh d2;clear a2 d2;by_cases hk:k<np
  ·have e6:(k:Int)<np:=by omega
   have d1:=f4.out.kept hg (by simp);obtain⟨b,off,cap,e,e7,H0,b9,H5⟩:=d1.at_ (by rw[<-H2.out];omega);rw[<-H2.out]at e H0 H5;simp only[Value.slice.injEq,true_and]at e;obtain⟨rfl,rfl⟩:=e;obtain⟨sa,sc,c1,H4,b4⟩:=H5 k hk;obtain⟨q,hq⟩:∃q,q=ps.getD k []:=⟨_,rfl⟩;rw[<-hq]at c1 H4 b4;have e4:pc<=9223372036854775807:=by unfold maxLen at b9;omega
   have HV:Hid (∀W:World,wr.grownBy W none->Calls Try.prog 36 #[.agg #[.slice sa q.length sc],.int .i64 letters] W fun e w'=>e=.returned (.int .i64 (patW q letters))/\wA.grownBy w' none):=Kh (fun W hW=>(kY B W _ q letters (H4.kept hW (by simp)) b4).mono fun e w' ⟨he,hg'⟩=>⟨he,zA HG.out (zD hW hg') (by simp)⟩);have HQ:=Kh hq;obtain⟨E,hE⟩:∃E,E=patW q letters:=⟨_,rfl⟩;rw[<-hE]at HV;have HE:=Kh hE;obtain⟨ql,d0⟩:∃n,n=q.length:=⟨_,rfl⟩;rw[<-d0]at c1 HV;clear d1 H5 H4 b4 hq hg hE d0;go_wp2_with fail;refine(HV.out _ (Ga wr _ none)).mono ?_;rintro e w1 ⟨rfl,h9⟩;have e0:=Kh h9;clear h9 HV;by_cases hE:E=0
   ·have e1:(E != 0)=false:=by simp[hE]
    have c6:=Kh hE;clear hE;go_wp2;go_roundg (np-(k+1))
    case measure=>have:=H7.out;omega
    case rel=>exact⟨k+1,by have:=H7.out;omega,by go_num,(mU (by rw[<-H2.out];exact hk) (by rw[<-HQ.out,<-HE.out];exact c6.out)).trans H6.out,e0.out⟩
   ·have e1:(E != 0)=true:=by rw[bne_iff_ne];exact hE
    have c6:=Kh hE;clear hE;go_wp2;go_ret;exact⟨yB (by rw[qFK (g:=⟨ps,cs,root⟩) H1.out H3.out (k:=k) (by rw[<-H2.out];exact hk) H6.out (by rw[<-HQ.out,<-HE.out];exact c6.out)];show E=patW (ps.getD k []) letters;rw[<-HQ.out,<-HE.out]),zA h0.out (e0.out) (by simp)⟩
  ·have e5:k=np:=by have:=H7.out;omega
   have f3:Hid (vI letters ps=0):=Kh (by rw[<-H6.out];exact kZ (by rw[<-H2.out];exact hk));have H9:Hid (diaE ⟨ps,cs,root⟩ letters=dH ps.length cs root):=Kh (qFL H1.out H3.out f3.out);have a0:¬(k:Int)<np:=(by omega);obtain⟨p0,p1,p2⟩:=zN (zB c8.out hg (by simp));clear e5 hg H7 a6;go_wp2;clear p0 p1 p2
   go_loopg [8,9,43] nc (fun gh s8 s9 i wr=>∃k:Nat,gh+k=nc/\i=.int .i64 k/\wH ps.length cs k/\wA.grownBy wr none)
   case atStart=>exact⟨0,rfl,rfl,dF _ _,HG.out⟩
   case round =>
    clear HG a0 hk;obtain⟨k,a2,rfl,d5,hg⟩:=hrel;have H7:=Kh a2;have HG:=Kh hg;have e2:=Kh d5;clear a2 d5;by_cases hk:k<nc
    ·have e6:(k:Int)<nc:=by omega
     have b7:=f6.out.kept hg (by simp);have f7:=Kh b7;obtain⟨b,off,cap,e,e7,H0,b9,a9⟩:=b7.at_ (by rw[<-h7.out];omega);rw[<-h7.out]at e H0;simp only[Value.slice.injEq,true_and]at e;obtain⟨rfl,rfl⟩:=e;have e4:cc<=9223372036854775807:=by unfold maxLen at b9;omega
     have a1:k<cs.length:=(by rw[<-h7.out];exact hk);have c1:=a9.p k a1;have c2:=a9.y k a1;have c3:=a9.n k a1;have a4:Hid (∀(W:World) (r:Int),wr.grownBy W none->Calls Try.prog 37 #[.agg #[.slice pa np pc,.slice (some ⟨b,off,none⟩) nc cc,.int .i64 root],.int .i64 (k:Int),.int .i64 r] W fun e w'=>e=.returned (.bool (refB cs k (cs.getD k default).p r))/\W.grownBy w' none):=Kh (fun W r hW=>validRef_any B W _ _ root cs k r (f7.out.kept hW (by simp)) a1);obtain⟨c,b0⟩:∃c,c=cs.getD k default:=⟨_,rfl⟩;rw[<-b0]at c1 c2 c3 a4;have HC:=Kh b0
     have h8:Hid (choB ps.length cs k=(decide (0<=c.p/\c.p<np) && (refB cs k c.p c.y && refB cs k c.p c.n))):=Kh (by
      rw[b0,H2.out];rfl)
     clear b7 a9 a1 b0;obtain⟨x,y,n⟩:=c;simp only at c1 c2 c3 a4 h8;obtain⟨by_,d7⟩:∃b,b=refB cs k x y:=⟨_,rfl⟩;obtain⟨bn,d8⟩:∃b,b=refB cs k x n:=⟨_,rfl⟩;have c4:=Kh (fun W hW=>a4.out W y hW);have c5:=Kh (fun W hW=>a4.out W n hW);rw[<-d7]at c4 h8;rw[<-d8]at c5 h8;have H0:=heap_alloc_new wr (.cells #[.int .i64 x,.int .i64 y,.int .i64 n] 45);have a8:=Ga wr (.cells #[.int .i64 x,.int .i64 y,.int .i64 n] 45) none;obtain⟨w2,b3⟩:∃w2,w2=wr.alloc (.cells #[.int .i64 x,.int .i64 y,.int .i64 n] 45):=⟨_,rfl⟩;obtain⟨R,hR⟩:∃R,R=wr.heap.size:=⟨_,rfl⟩;rw[<-b3]at H0 a8;rw[<-hR]at H0;have f1:=Kh b3;have f2:=Kh hR;have f9:=Kh H0;have H8:=Kh a8;have a5:=Kh (zB (zB c8.out hg (by simp)) a8 (by simp));obtain⟨p0,p1,p2⟩:=zN a5.out;obtain⟨r0,r1,r2⟩:=zN H0;clear d7 d8 b3 hR H0 a8 hg a4;go_upto_region 15 with fail;rw[<-f1.out,<-f2.out];clear c1 c2 c3;by_cases hx0:x<0
     ·have HF:Hid (choB ps.length cs k=false):=Kh (by rw[h8.out,show decide (0<=x/\x<(np:Int))=false by simp;omega];rfl)
      go_wp2;go_ret;exact⟨yB (by rw[H9.out,sK (by rw[<-h7.out];exact hk) HF.out]),zA h0.out (zA HG.out H8.out (by simp)) (by simp)⟩
     by_cases hx1:(np:Int)<=x
     ·have HF:Hid (choB ps.length cs k=false):=Kh (by rw[h8.out,show decide (0<=x/\x<(np:Int))=false by simp;omega];rfl)
      go_wp2;go_ret;exact⟨yB (by rw[H9.out,sK (by rw[<-h7.out];exact hk) HF.out]),zA h0.out (zA HG.out H8.out (by simp)) (by simp)⟩
     have c9:decide (0<=x/\x<(np:Int))=true:=by simp;omega
     rw[c9,Bool.true_and]at h8;clear c9;go_wp2_with fail;refine(c4.out _ H8.out).mono ?_;rintro e w3 ⟨rfl,a7⟩;have b1:=Kh a7;have c7:=Kh (zB a5.out a7 (by simp));have f8:=Kh (zB f9.out a7 (by simp));obtain⟨p0,p1,p2⟩:=zN c7.out;obtain⟨r0,r1,r2⟩:=zN f8.out;clear a7 c4;cases by_ with
     | false =>
      have HF:Hid (choB ps.length cs k=false):=Kh (by rw[h8.out];rfl);go_wp2;go_ret;exact⟨yB (by rw[H9.out,sK (by rw[<-h7.out];exact hk) HF.out]),zA h0.out (zA (zA HG.out H8.out (by simp)) b1.out (by simp)) (by simp)⟩
     | true =>
      rw[Bool.true_and]at h8;go_wp2_with fail;refine(c5.out _ (zD H8.out b1.out)).mono ?_;rintro e w4 ⟨rfl,d4⟩;have d9:=Kh d4;clear d4 c5;cases bn with
      | false =>
       have HF:Hid (choB ps.length cs k=false):=Kh h8.out;go_wp2;go_ret;exact⟨yB (by rw[H9.out,sK (by rw[<-h7.out];exact hk) HF.out]),zA h0.out (zA (zA (zA HG.out H8.out (by simp)) b1.out (by simp)) d9.out (by simp)) (by simp)⟩
      | true =>
       go_wp2;go_roundg (nc-(k+1))
       case measure=>have:=H7.out;omega
       case rel=>exact⟨k+1,by have:=H7.out;omega,by go_num,kK e2.out h8.out,zA (zA (zA HG.out H8.out (by simp)) b1.out (by simp)) d9.out (by simp)⟩
    ·have a0:¬(k:Int)<nc:=by omega
     have b2:=Kh (dG (root:=root) (by rw[<-h7.out];exact hk) e2.out);rw[<-h7.out]at b2;obtain⟨p0,p1,p2⟩:=zN (zB c8.out hg (by simp));clear hg;by_cases h5:root<0
     ·go_wp2
      go_ret;exact⟨yB (by rw[H9.out,b2.out,if_neg (by omega)]),zA h0.out (HG.out) (by simp)⟩
     by_cases h6:1+(nc:Int)<root
     ·go_wp2
      go_ret;exact⟨yB (by rw[H9.out,b2.out,if_neg (by omega)]),zA h0.out (HG.out) (by simp)⟩
     go_wp2;go_ret;exact⟨yB (by rw[H9.out,b2.out,if_pos (by omega)]),zA h0.out (HG.out) (by simp)⟩
end Go.Proofs.Ytjfdomfendbhfaa
namespace Go.Proofs.Ytjfdomfendbhfaa
theorem oX {α:Type}{l m:List α}{x:α}(h:l <+: m){i:Nat}(hi:i<l.length):m.getD i x=l.getD i x:=by
 obtain⟨r,rfl⟩:=h;simp[List.getD,List.getElem?_append_left hi]
theorem qFS {np:Nat}{cs cs':List ChoV}(h:cs <+: cs'){i:Nat}(hi:i<cs.length):choB np cs' i=choB np cs i:=by
 have e:∀p r,refB cs' i p r=refB cs i p r:=fun p r=>by
  unfold refB;by_cases h1:0<=r/\r<=1+(i:Int)
  ·by_cases h2:r<2
   ·simp[h2]
   ·rw[oX h (show r.toNat-2<cs.length by omega)]
  ·simp[h1]
 unfold choB;rw[oX h hi,e,e]
theorem chosTo_pre {np k:Nat}{cs cs':List ChoV}(h:cs <+: cs')(hk:k<=cs.length):wH np cs' k↔wH np cs k :=
 ⟨fun hc i hi=>by rw[<-qFS h (by omega)];exact hc i hi,fun hc i hi=>by rw[qFS h (by omega)];exact hc i hi⟩
theorem qAL {np:Nat}{cs cs':List ChoV}{m:Nat->Bool}(h:cs <+: cs')(hc:wH np cs cs.length):∀(f:Nat) (r:Int),r<=1+(cs.length:Int)->decF cs' m f r=decF cs m f r
 | 0,r,_=>rfl
 | f+1,r,hr=>by
  rw[decF,decF]
  split
  ·rfl
  ·rename_i h2
   have hi:r.toNat-2<cs.length:=by omega
   rw[oX h hi]
   have hf:=rJ (hc _ hi)
   split
   ·exact qAL h hc f _ (by omega)
   ·exact qAL h hc f _ (by omega)
theorem qFN {np:Nat}{cs cs':List ChoV}{m:Nat->Bool}(h:cs <+: cs')(hc:wH np cs cs.length){r:Int}(hr:r<=1+(cs.length:Int)):decG cs' m r=decG cs m r:=qAL h hc _ r hr
structure ClaV where
 m:List Bool
 yes:Int
 no:Int
deriving Inhabited
def ClaV.b (c:ClaV):Bool:=decide (0<=c.yes)
def jU (l:List ClaV)(p:Nat):Prop:=∀c∈l,∀c'∈l,∀q,q<p->c.m.getD q false=c'.m.getD q false
structure ClsOk (np:Nat)(l:List ClaV):Prop where
 len:∀c∈l,c.m.length=np
 nd:(l.map ClaV.m).Nodup
def yesL (l:List ClaV)(p:Nat):List ClaV:=l.filter fun c=>c.m.getD p false
def noL (l:List ClaV)(p:Nat):List ClaV:=l.filter fun c=>!c.m.getD p false
theorem qAW (l:List ClaV)(p:Nat):(yesL l p).length+(noL l p).length=l.length:=by
 induction l with
 | nil=>rfl
 | cons c l ih =>
  unfold yesL noL at ih⊢;rw[List.filter_cons,List.filter_cons]
  generalize c.m.getD p false=b
  cases b
  ·rw[if_neg (by decide),if_pos (by decide),List.length_cons,List.length_cons];omega
  ·rw[if_pos (by decide),if_neg (by decide),List.length_cons,List.length_cons];omega
theorem ClsOk.sub {np:Nat}{l l':List ClaV}(h:ClsOk np l)(hs:l'.Sublist l):ClsOk np l' :=
 ⟨fun c hc=>h.len c (hs.mem hc),h.nd.sublist (hs.map _)⟩
theorem jU.yes {l:List ClaV}{p:Nat}(h:jU l p):jU (yesL l p) (p+1):=fun c hc c' hc' q hq=>by
 have h1:=List.mem_filter.1 hc
 have h2:=List.mem_filter.1 hc'
 rcases Nat.lt_succ_iff_lt_or_eq.1 hq with hq|rfl
 ·exact h c h1.1 c' h2.1 q hq
 ·rw[h1.2,h2.2]
theorem jU.no {l:List ClaV}{p:Nat}(h:jU l p):jU (noL l p) (p+1):=fun c hc c' hc' q hq=>by
 have h1:=List.mem_filter.1 hc
 have h2:=List.mem_filter.1 hc'
 rcases Nat.lt_succ_iff_lt_or_eq.1 hq with hq|rfl
 ·exact h c h1.1 c' h2.1 q hq
 ·have e1:=h1.2;have e2:=h2.2
  simp only[Bool.not_eq_true']at e1 e2
  rw[e1,e2]
theorem jU.skip {l:List ClaV}{p:Nat}(h:jU l p)(he:(yesL l p).length=0\/(noL l p).length=0):jU l (p+1):=fun c hc c' hc' q hq=>by
 rcases Nat.lt_succ_iff_lt_or_eq.1 hq with hq|rfl
 ·exact h c hc c' hc' q hq
 ·rcases he with he|he
  ·have h0:=List.eq_nil_of_length_eq_zero he
   have key:∀c∈l,c.m.getD q false=false:=fun c hc=>by
    by_cases h1:c.m.getD q false=true
    ·have:c∈yesL l q:=List.mem_filter.2 ⟨hc,h1⟩
     rw[h0]at this;cases this
    ·simpa using h1
   rw[key c hc,key c' hc']
  ·have h0:=List.eq_nil_of_length_eq_zero he
   have key:∀c∈l,c.m.getD q false=true:=fun c hc=>by
    by_cases h1:c.m.getD q false=true
    ·exact h1
    ·have:c∈noL l q:=List.mem_filter.2 ⟨hc,by simpa using h1⟩
     rw[h0]at this;cases this
   rw[key c hc,key c' hc']
theorem jU.one {np:Nat}{l:List ClaV}(h:jU l np)(hl:ClsOk np l):l.length<=1:=by
 match l,h,hl with
 | [],_,_=>simp
 | [c],_,_=>simp
 | c::c'::r,h,hl =>
  exfalso
  have e:c.m=c'.m:=by
   refine List.ext_getElem (by rw[hl.len c (by simp),hl.len c' (by simp)]) fun i h1 h2=>?_;have:=h c (by simp) c' (by simp) i (by rw[<-hl.len c (by simp)];exact h1)
   rwa [zG h1,zG h2]at this
  have:=hl.nd;simp[e]at this
def qL (l:List ClaV):Bool:=l.all fun c=>c.b == (l.headD default).b
def iM (b:Bool):Int:=if b then 1 else 0
theorem const_of_one {l:List ClaV}(h:l.length<=1):qL l=true:=by
 match l,h with
 | [],_=>rfl
 | [c],_=>simp[qL]
structure DecOk (np:Nat)(cs cs':List ChoV)(l:List ClaV)(p:Nat)(r:Int):Prop where
 pre:cs <+: cs'
 ok:wH np cs' cs'.length
 nd:cs'.Nodup
 lo:0<=r
 hi:r<=1+(cs'.length:Int)
 pat:2<=r->(p:Int)<=(cs'.getD (r.toNat-2) default).p
 dec:∀c∈l,decG cs' (fun i=>c.m.getD i false) r=c.b
 few:cs'.length+1<=cs.length+l.length
theorem DecOk.const {np:Nat}{cs:List ChoV}{l:List ClaV}{p:Nat}(hc:wH np cs cs.length)(hn:cs.Nodup)(h0:0<l.length){b:Bool}(h:∀c∈l,c.b=b):DecOk np cs cs l p (iM b):=by
 have hb:iM b=0\/iM b=1:=by cases b<;>simp[iM]
 refine⟨List.prefix_refl _,hc,hn,by omega,by omega,fun h2=>by omega,fun c hc=>?_,by omega⟩;rw[qAK _ _ (by omega),h c hc];cases b<;>rfl
theorem iG {np:Nat}{cs cs':List ChoV}{l:List ClaV}{p q:Nat}{r:Int}(h:DecOk np cs cs' l p r)(hq:q<=p):DecOk np cs cs' l q r :=
 ⟨h.pre,h.ok,h.nd,h.lo,h.hi,fun h2=>by have:=h.pat h2;omega,h.dec,h.few⟩
section
variable {np:Nat} {cs c1 c2:List ChoV} {l:List ClaV} {p:Nat} {rn ry:Int}
theorem eY (hn:DecOk np cs c1 (noL l p) (p+1) rn)(hy:DecOk np c1 c2 (yesL l p) (p+1) ry):∀c∈l,decG c2 (fun i=>c.m.getD i false) (if c.m.getD p false then ry else rn)=c.b:=fun c hc=>by
 by_cases h:c.m.getD p false=true
 ·rw[if_pos h];exact hy.dec c (List.mem_filter.2 ⟨hc,h⟩)
 ·rw[if_neg h,qFN hy.pre hn.ok hn.hi]
  exact hn.dec c (List.mem_filter.2 ⟨hc,by simpa using h⟩)
theorem DecOk.same (hn:DecOk np cs c1 (noL l p) (p+1) rn)(hy:DecOk np c1 c2 (yesL l p) (p+1) ry)(e:ry=rn):DecOk np cs c2 l p ry:=by
 have h1:=hn.few;have h2:=hy.few;have h3:=qAW l p;refine⟨hn.pre.trans hy.pre,hy.ok,hy.nd,hy.lo,hy.hi,fun h=>by have:=hy.pat h;omega,fun c hc=>?_,by omega⟩;have:=eY hn hy c hc
 rwa [<-e,ite_self]at this
theorem cho_ok (hp:p<np)(hn:DecOk np cs c1 (noL l p) (p+1) rn)(hy:DecOk np c1 c2 (yesL l p) (p+1) ry):refB c2 c2.length (p:Int) ry=true/\refB c2 c2.length (p:Int) rn=true:=by
 have hl:=hy.pre.length_le;have h1:=hn.hi;have h2:=hy.hi;have h3:=hn.lo;have h4:=hy.lo;constructor
 ·simp only[refB,Bool.and_eq_true,decide_eq_true_eq]
  refine⟨by omega,?_⟩;rcases Int.lt_or_le ry 2 with h|h
  ·exact .inl h
  ·have:=hy.pat h;exact .inr (by omega)
 ·simp only[refB,Bool.and_eq_true,decide_eq_true_eq]
  refine⟨by omega,?_⟩;rcases Int.lt_or_le rn 2 with h|h
  ·exact .inl h
  ·have h5:=hn.pat h
   rw[oX hy.pre (by omega)];exact .inr (by omega)
theorem DecOk.old (hp:p<np)(hn:DecOk np cs c1 (noL l p) (p+1) rn)(hy:DecOk np c1 c2 (yesL l p) (p+1) ry){i:Nat}(hi:i<c2.length)(e:c2.getD i default=⟨p,ry,rn⟩):DecOk np cs c2 l p (2+(i:Int)):=by
 have h1:=hn.few;have h2:=hy.few;have h3:=qAW l p;have e0:(2+(i:Int)).toNat-2=i:=by omega
 refine⟨hn.pre.trans hy.pre,hy.ok,hy.nd,by omega,by omega,fun h=>by rw[e0,e];exact Int.le_refl _,fun c hc=>?_,by omega⟩;have:=eY hn hy c hc;rw[jN hy.ok (by omega) (by omega),e0,e];exact this
theorem DecOk.new (hp:p<np)(hn:DecOk np cs c1 (noL l p) (p+1) rn)(hy:DecOk np c1 c2 (yesL l p) (p+1) ry)(hm:(⟨p,ry,rn⟩:ChoV) ∉ c2)(hY:0<(yesL l p).length)(hN:0<(noL l p).length):DecOk np cs (c2++[⟨p,ry,rn⟩]) l p (2+(c2.length:Int)):=by
 have h1:=hn.few;have h2:=hy.few;have h3:=qAW l p;have h0:c2 <+: c2++[⟨p,ry,rn⟩]:=List.prefix_append _ _;have e0:(2+(c2.length:Int)).toNat-2=c2.length:=by omega
 have e1:(c2++[(⟨p,ry,rn⟩:ChoV)]).getD c2.length default=⟨p,ry,rn⟩:=by rw[List.getD_eq_getElem?_getD];simp
 have h8:wH np (c2++[⟨p,ry,rn⟩]) (c2++[(⟨p,ry,rn⟩:ChoV)]).length:=by
  rw[List.length_append,List.length_singleton];refine kK ((chosTo_pre h0 (Nat.le_refl _)).2 hy.ok) ?_;obtain⟨h4,h5⟩:=cho_ok hp hn hy
  have e2:∀r,refB c2 c2.length (p:Int) r=true->refB (c2++[(⟨p,ry,rn⟩:ChoV)]) c2.length (p:Int) r=true:=fun r h=>by
   simp only[refB,Bool.and_eq_true,decide_eq_true_eq]at h⊢;refine⟨h.1,?_⟩;rcases Int.lt_or_le r 2 with h6|h6
   ·exact .inl h6
   ·rcases h.2 with h7|h7
    ·omega
    ·rw[oX h0 (by omega)];exact .inr h7
  unfold choB;rw[e1];simp only[Bool.and_eq_true,decide_eq_true_eq];exact⟨by omega,e2 _ h4,e2 _ h5⟩
 refine⟨(hn.pre.trans hy.pre).trans h0,h8,?_,by omega,by simp;omega,fun h=>by rw[e0,e1];exact Int.le_refl _,fun c hc=>?_,by simp;omega⟩
 ·rw[List.nodup_append]
  exact⟨hy.nd,by simp,fun a ha b hb e=>by simp at hb;subst hb;subst e;exact hm ha⟩
 ·have h6:=eY hn hy c hc
  rw[jN h8 (by omega) (by simp;omega),e0,e1];show decG _ _ (if c.m.getD (p:Int).toNat false then ry else rn)=_;rw[Int.toNat_natCast]
  have hr:(if c.m.getD p false then ry else rn)<=1+(c2.length:Int):=by
   have:=hy.hi;have:=hn.hi;have:=hy.pre.length_le
   split<;>omega
  rw[qFN h0 hy.ok hr];exact h6
end
open Go.RowKit
theorem cdecide_any (B:Nat)(w:World)(v:Value)(g:DiaV)(m:Nat->Bool)(fid:FuncId)(caps:Array Value)(h:oC B w v g)(hc:wH g.pats.length g.chos g.chos.length)(h0:0<=g.root)(h1:g.root<=1+(g.chos.length:Int))(hE:∀(args:Array Value) (W:World),Sem.run Try.prog (callFunc fid args) W=.ok (.enter fid args) W)(hF:∀(W:World) (p:Nat),w.grownBy W none->p<g.pats.length->Calls Try.prog fid (#[.int .i64 (p:Int)]++caps) W fun e w'=>e=.returned (.bool (m p))/\W.grownBy w' none):Calls Try.prog 40 #[v,.func (.func fid) #[] caps] w fun e w'=>e=.returned (.bool (decG g.chos m g.root))/\w.grownBy w' none:=by
 obtain⟨pv,cv,rfl,hp,h7⟩:=h;obtain⟨ca,cc,rfl⟩:=h7.shape;have H8:=h7.len_le;unfold maxLen at H8;obtain⟨ps,cs,root⟩:=g;simp only at hp hc h7 H8 h0 h1 hF⊢;obtain⟨r0,rfl⟩:∃n:Nat,root=(n:Int):=⟨root.toNat,by omega⟩;obtain⟨nc,H5⟩:∃n,n=cs.length:=⟨_,rfl⟩;rw[<-H5]at h7 H8 h1⊢;have H2:=Ga w (.cells #[pv,.slice ca nc cc,.int .i64 (r0:Int)] 25) none;have H1:=heap_alloc_new w (.cells #[pv,.slice ca nc cc,.int .i64 (r0:Int)] 25);obtain⟨wA,a0⟩:∃w1,w1=w.alloc (.cells #[pv,.slice ca nc cc,.int .i64 (r0:Int)] 25):=⟨_,rfl⟩;obtain⟨P,hP⟩:∃P,P=w.heap.size:=⟨_,rfl⟩;rw[<-a0]at H2 H1;rw[<-hP]at H1;have a7:=h7.kept H2 (by simp);obtain⟨p0,p1,p2⟩:=zN H1;have a2:=Kh H5;have c4:=Kh a7;have c6:=Kh H1;have a8:=Kh hc;have b6:=Kh a0;have c0:=Kh hP;have b0:=Kh H2;have HE:=Kh hE;have HF:=Kh hF;have b9:=Kh h1;obtain⟨ans,h4⟩:∃b,b=decG cs m (r0:Int):=⟨_,rfl⟩;rw[<-h4];have a4:=Kh h4;clear hp h7 a7 H2 H1 a0 hP H5 hc h1 h0 hF hE h4;go_enter Try.func40,Try.ntmps40;go_upto_region 1 with fail;rw[<-b6.out,<-c0.out];go_wp2;clear p0 p1 p2
 go_loopg [5,6] r0 (fun gh r s6 wr=>∃q:Nat,gh=q/\r=.int .i64 q/\q<=1+nc/\decG cs m q=ans/\wA.grownBy wr none)
 case atStart=>exact⟨r0,rfl,rfl,by have:=b9.out;omega,a4.out.symm,zH _ _⟩
 case round =>
  obtain⟨q,a5,rfl,b3,h9,hg⟩:=hrel;have a9:=Kh a5;clear a5;have HG:=Kh hg;have h5:=Kh h9;clear h9;by_cases hq:2<=q
  ·have b4:(2:Int)<=q:=by omega
   obtain⟨i,rfl⟩:∃i,q=i+2:=⟨q-2,by omega⟩;have hi:i<nc:=(by omega);have H0:=c4.out.kept hg (by simp);obtain⟨b,off,cap,e,d1,h3,b5,H3⟩:=H0.at_ (by rw[<-a2.out];omega);rw[<-a2.out]at e h3;simp only[Value.slice.injEq,true_and]at e;obtain⟨rfl,rfl⟩:=e;have c9:cc<=9223372036854775807:=by unfold maxLen at b5;omega
   have h8:i<cs.length:=(by rw[<-a2.out];exact hi);have c1:=H3.p i h8;have c2:=H3.y i h8;have c3:=H3.n i h8;have h6:=jN (m:=m) a8.out (r:=((i+2:Nat):Int)) (by omega) (by omega);have e0:((i+2:Nat):Int).toNat-2=i:=by omega
   rw[e0]at h6;have H9:=rJ (a8.out i h8);obtain⟨c,a6⟩:∃c,c=cs.getD i default:=⟨_,rfl⟩;rw[<-a6]at c1 c2 c3 h6 H9;clear H0 H3 h8 a6;obtain⟨x,y,n⟩:=c;simp only at c1 c2 c3 h6 H9;obtain⟨xn,rfl⟩:∃k:Nat,x=(k:Int):=⟨x.toNat,by omega⟩;obtain⟨yn,rfl⟩:∃k:Nat,y=(k:Int):=⟨y.toNat,by omega⟩;obtain⟨nn,rfl⟩:∃k:Nat,n=(k:Int):=⟨n.toNat,by omega⟩;rw[Int.toNat_natCast]at h6;have b2:xn<ps.length:=(by omega);have c7:yn<i+2:=(by omega);have c8:nn<i+2:=(by omega);have a1:=Kh h6;have h2:=Kh (fun(W:World) (hW:wr.grownBy W none)=>HF.out W xn (zA b0.out (zA HG.out hW (by simp)) (by simp)) b2);obtain⟨b,hb⟩:∃b,b=m xn:=⟨_,rfl⟩;rw[<-hb]at a1 h2;obtain⟨p0,p1,p2⟩:=zN (zB c6.out hg (by simp));have h3:=heap_alloc_new wr (.cells #[.int .i64 (xn:Int),.int .i64 (yn:Int),.int .i64 (nn:Int)] 45);have H7:=Ga wr (.cells #[.int .i64 (xn:Int),.int .i64 (yn:Int),.int .i64 (nn:Int)] 45) none;obtain⟨w2,H4⟩:∃w2,w2=wr.alloc (.cells #[.int .i64 (xn:Int),.int .i64 (yn:Int),.int .i64 (nn:Int)] 45):=⟨_,rfl⟩;obtain⟨R,hR⟩:∃R,R=wr.heap.size:=⟨_,rfl⟩;rw[<-H4]at h3 H7;rw[<-hR]at h3;have b7:=Kh H4;have b8:=Kh hR;have c5:=Kh h3;have a3:=Kh H7;obtain⟨r0,r1,r2⟩:=zN h3;have e2:IntKind.i64.wrap ((i+2:Nat)-2:Int)=(i:Int):=by rw[show ((i+2:Nat)-2:Int)=i by omega];exact tW (by omega)
   have e3:((i+2:Nat)-2:Int)=(i:Int):=by omega
   have d0:(i:Int)<nc:=(by omega);clear hb H4 hR h3 H7 hg h6 H9 b3;go_upto_region 4 with fail;rw[<-b7.out,<-b8.out];clear c1 c2 c3;go_wp2_with fail;rw[HE.out,Oper.upon_enter];refine(h2.out _ a3.out).mono ?_;rintro e w3 ⟨rfl,H6⟩;have b1:=Kh H6;obtain⟨r0,r1,r2⟩:=zN (zB c5.out H6 (by simp));clear H6 h2;cases b with
   | true =>
    go_wp2;go_roundg yn
    case measure=>have:=a9.out;omega
    case rel=>exact⟨yn,rfl,rfl,by omega,by rw[<-h5.out];exact a1.out.symm,zA (zA HG.out a3.out (by simp)) b1.out (by simp)⟩
   | false =>
    go_wp2;go_roundg nn
    case measure=>have:=a9.out;omega
    case rel=>exact⟨nn,rfl,rfl,by omega,by rw[<-h5.out];exact a1.out.symm,zA (zA HG.out a3.out (by simp)) b1.out (by simp)⟩
  ·have b4:¬(2:Int)<=q:=by omega
   have HA:Hid (decide ((q:Int)=1)=ans):=Kh (by rw[<-h5.out,qAK _ _ (by omega)]);clear hg;go_wp2;go_ret;exact⟨yA (by rw[<-HA.out];first|rfl|simp|decide),zA b0.out HG.out (by simp)⟩
theorem match_anyW (b off cap:Nat)(bs:List ByteArray)(s:ByteArray)(w:World)(hcap:bs.length<=cap)(hcm:cap<=maxLen)(hra:uJ w b off (bs.map .string))(hs:∀i (h:i<bs.length),bs[i].size<=maxLen)(hss:s.size<=maxLen)(hL:SomeLen w):Calls Try.prog 42 #[.agg #[.slice (some ⟨b,off,none⟩) bs.length cap],.string s] w fun e w'=>e=.returned (.bool (yI bs s))/\w.grownBy w' none:=by
 have H0:s.size<=9223372036854775807:=by unfold maxLen at hss;omega
 have g0:=Ga w (.cells #[.slice (some ⟨b,off,none⟩) bs.length cap] 28) none;have ra0:=hra.kept g0 (by simp);go_enter Try.func42,Try.ntmps42;go_wp2_with fail;have bx0:=heap_alloc_new w (.cells #[.slice (some ⟨b,off,none⟩) bs.length cap] 28);have h3:Row (b+1) (w.alloc (.cells #[.slice (some ⟨b,off,none⟩) bs.length cap] 28)) (.slice (some ⟨b,off,none⟩) bs.length cap) (txtV bs):=.inr ⟨b,off,cap,by rw[yC],by omega,by rw[yC];exact hcap,hcm,ra0⟩;refine(kY (b+1) _ _ bs 6 h3 hs).mono ?_;rintro e w1 ⟨rfl,g1⟩;have ra1:=ra0.kept g1 (by simp);have h4:=zI (zB bx0 g1 (by simp)) 0 (by simp);simp only[List.getElem_toArray,List.getElem_cons_zero]at h4;have h9:=(hL.kept g0 (by simp)).kept g1 (by simp);have gw:=zD g0 g1;clear g0 ra0 bx0 g1 hra;clear h3;have h2:patW bs 6=0↔yT bs 6=0:=vJ;obtain⟨E,h5⟩:∃E,E=patW bs 6:=⟨_,rfl⟩;rw[<-h5]at h2⊢;have a7:=Kh h5;clear h5;by_cases hV:yT bs 6=0
 ·have H8:E=0:=h2.2 hV
  subst H8;clear h2;have HV:=Kh hV;clear hV;go_wp2_with fail;refine(oF s 6 _ (by unfold maxLen;omega)).mono ?_;rintro e w2 ⟨rfl,rfl⟩;have hz:=wY HV.out;have h6:0<bs.length:=hz.2.2.2.2.1;have a1:bs.length<=8:=hz.2.2.1;have h7:=ra1.map 0 h6;rw[Nat.add_zero]at h7;have H4:cap<=9223372036854775807:=by unfold maxLen at hcm;omega
  have a6:=Kh hcm;clear hz hcm;by_cases hW:zU s 6=true
  ·by_cases h1:bs.length=1
   ·have H9:((bs.length:Int)-1 == 0)=true:=by simp[h1]
    have H1:=Kh h1;clear h1;go_wp2;go_ret;exact⟨yA (patMatch_one HV.out hW H1.out h6).symm,gw⟩
   ·have H9:((bs.length:Int)-1 == 0)=false:=by rw[beq_eq_false_iff_ne];omega
    go_wp2_with fail;refine(Try.strings_CutPrefix _ _ _).mono ?_;rintro e w2 ⟨rfl,rfl⟩;by_cases hP:Lib.hasPrefix s.data.toList bs[0].data.toList=true
    ·go_wp2
     go_loopw [6,46] (fun rs i wr=>∃(k:Nat) (r:List UInt8),k<=bs.length-1-1/\i=.int .i64 k/\rs=.string ⟨r.toArray⟩/\r.length<=2048 /\
       rO ((mid bs).drop k) r=rO (mid bs) (Lib.trimPrefix s.data.toList bs[0].data.toList) /\
       uJ wr b off (bs.map .string)/\wr.cell? ⟨w.heap.size,0,none⟩=some (.slice (some ⟨b,off,none⟩) bs.length cap)/\SomeLen wr/\w.grownBy wr none)
      (fun _ i _=>bs.length-(intOf i).toNat)
     case atStart=>exact⟨0,_,Nat.zero_le _,rfl,rfl,trim_le HV.out hW,rfl,ra1,h4,h9,gw⟩
     case round =>
      clear ra1 h4 h9 gw h7;obtain⟨k,r,hk,rfl,rfl,a0,h0,rar,H3,h8,gr⟩:=hrel;have HF:=Kh h0;clear h0;by_cases hlt:k<bs.length-1-1
      ·have H6:=rar.map (1+k) (by omega)
       rw[<-Nat.add_assoc]at H6;have H2:(k:Int)<((bs.length-1-1:Nat):Int):=(by omega);go_wp2_with fail;obtain⟨_,m,hm⟩:=id h8
       refine(Try.strings_Cut _ _ m _ (by
        have:(ByteArray.mk r.toArray).size=r.toArray.size:=rfl
        rw[this,List.size_toArray];omega) hm).mono ?_
       rintro e w3 ⟨rfl,m',rfl⟩;have H5:=cut_le r bs[1+k].data.toList;by_cases hf:(Lib.cut r bs[1+k].data.toList).2.2=true
       ·go_wp2
        go_roundw
        case rel =>
         exact⟨k+1,_,by omega,by go_num,rfl,by omega,by rw[<-HF.out];exact findAll_step bs r k hlt hf,rar.of_heap rfl,H3,h8.kept (zM _ _ none) (by simp),zD gr (zM _ _ _)⟩
        case measure=>simp[intOf];omega
       ·go_wp2
        go_ret;exact⟨yA (by rw[eq_comm];exact patMatch_none (by omega) (by omega) (by rw[<-HF.out];exact findAll_stop bs r k hlt hf)),zD gr (zM _ _ _)⟩
      ·have H5:=rar.map (bs.length-1) (by omega)
       have a4:((bs.length:Int)-1).toNat=bs.length-1:=by omega
       have a3:(bs.length:Int)-1<bs.length:=(by omega);have a2:0<=(bs.length:Int)-1:=by omega
       go_wp2_with fail
       refine(Try.strings_HasSuffix _ _ _ (by
        have:(ByteArray.mk r.toArray).size=r.toArray.size:=rfl
        rw[this,List.size_toArray];omega)).mono ?_
       rintro e w3 ⟨rfl,rfl⟩;go_wp2;go_ret;refine⟨yA ?_,gr⟩;rw[eq_comm];refine patMatch_end HV.out hW (by omega) (by omega) hP ?_;rw[<-HF.out,List.drop_eq_nil_of_le (by rw[rZ];omega)];rfl
    ·go_wp2
     go_ret;exact⟨yA (by rw[eq_comm];exact patMatch_nopre (by omega) (by omega) hP),gw⟩
  ·go_wp2
   go_ret;exact⟨yA (by simp[yI,hW]),gw⟩
 ·have H7:(E != 0)=true:=by rw[bne_iff_ne];exact fun e=>hV (h2.1 e)
  have a5:(E == 0)=false:=by rw[beq_eq_false_iff_ne];exact fun e=>hV (h2.1 e)
  clear h2;have HV:=Kh hV;clear hV;go_wp2;go_ret;exact⟨yA (by simp[yI,HV.out]),gw⟩
def diaH (g:DiaV)(s:ByteArray):Bool:=decide (diaE g 6=0) && (zU s 6 && decG g.chos (fun p=>yI (g.pats.getD p []) s) g.root)
theorem patW_pos {bs:List ByteArray}{letters:Int}(h:patW bs letters=0):0<bs.length:=(wY (vJ.1 h)).2.2.2.2.1
theorem holds1_any (B:Nat)(w:World)(P Q:Nat)(pv cv rv:Value)(ps:List (List ByteArray))(s:ByteArray)(p:Nat)(hb:w.heap[P]?=some (.cells #[pv,cv,rv] 25 (0,0)))(hq:w.heap[Q]?=some (.cells #[.string s] 9 (0,0)))(h:vS B w pv ps)(hp:p<ps.length)(h0:0<(ps.getD p []).length)(hs:s.size<=maxLen)(hL:SomeLen w):Calls Try.prog 41 #[.int .i64 (p:Int),.pointer (some ⟨P,0,none⟩),.pointer (some ⟨Q,0,none⟩)] w fun e w'=>e=.returned (.bool (yI (ps.getD p []) s))/\w.grownBy w' none:=by
 obtain⟨b,off,cap,rfl,H5,H6,H1,h2⟩:=h.at_ (by omega);obtain⟨sa,sc,c1,h1,h3⟩:=h2 p hp;obtain⟨q,h6⟩:∃q,q=ps.getD p []:=⟨_,rfl⟩;rw[<-h6]at c1 h1 h3 h0⊢;obtain⟨kb,ko,kc,e,_,h4,h9,h8⟩:=h1.some_ (by rw[yC];exact h0);rw[yC]at e h4;simp only[Value.slice.injEq]at e;obtain⟨rfl,_,rfl⟩:=e;obtain⟨r0,r1,r2⟩:=zN hb;have c2:w.cell? ⟨Q,0,none⟩=some (.string s):=by simpa using zI hq 0 (by simp)
 have HM:Hid (∀W:World,w.grownBy W none->Calls Try.prog 42 #[.agg #[.slice (some ⟨kb,ko,none⟩) q.length sc],.string s] W fun e w'=>e=.returned (.bool (yI q s))/\w.grownBy w' none):=Kh (fun W hW =>
  (match_anyW kb ko sc q s W h4 h9 (h8.kept hW (by simp)) h3 hs (hL.kept hW (by simp))).mono fun e w' ⟨he,hg⟩=>⟨he,zD hW hg⟩)
 have HC:Hid (∀W:World,w.grownBy W none->W.cell? ⟨P,0,none⟩=some (.slice (some ⟨b,off,none⟩) ps.length cap)/\W.cell? ⟨b,off+p,none⟩=some (.slice (some ⟨kb,ko,none⟩) q.length sc)/\W.cell? ⟨Q,0,none⟩=some (.string s)):=Kh (fun W hW=>⟨xK r0 hW,xK c1 hW,xK c2 hW⟩);obtain⟨n,hn⟩:∃n,n=ps.length:=⟨_,rfl⟩;obtain⟨ql,h5⟩:∃n,n=q.length:=⟨_,rfl⟩;obtain⟨mm,h7⟩:∃m,m=yI q s:=⟨_,rfl⟩;rw[<-hn]at hp r0 HC;rw[<-h5]at c1 HM HC;rw[<-h7]at HM⊢;have H4:cap<=9223372036854775807:=by unfold maxLen at H1;omega
 have H3:n<=9223372036854775807:=by omega
 have H2:(p:Int)<n:=by omega
 have GA:w.grownBy w.drew none:=zO _ _;clear h2 h1 h3 h4 h9 h8 hb hq h6 hn h5 h7 h h0 hL;go_enter Try.func41,Try.ntmps41;go_upto_region 1 with fail
 go_region_held3 (fun w'=>w'.cell? ⟨P,0,none⟩=some (.slice (some ⟨b,off,none⟩) n cap)/\w'.cell? ⟨b,off+p,none⟩=some (.slice (some ⟨kb,ko,none⟩) ql sc)/\w'.cell? ⟨Q,0,none⟩=some (.string s))
  (first|go_keep|exact HC.out _ H0|fail)
  (first|(go_at_call 42;(with_reducible refine(HM.out _ GA).mono ?_);rintro e w7 ⟨rfl,H0⟩)|fail)
 all_goals
  go_wp2;go_ret;exact⟨rfl,by first|assumption|exact H0⟩
theorem cholds_any (B:Nat)(w:World)(v:Value)(g:DiaV)(s:ByteArray)(hB:B<=w.heap.size)(h:oC B w v g)(hs:s.size<=maxLen)(hL:SomeLen w):Calls Try.prog 11 #[v,.string s] w fun e w'=>e=.returned (.bool (diaH g s))/\w.grownBy w' none:=by
 obtain⟨pv,cv,rfl,hp,hc⟩:=h;obtain⟨ps,cs,root⟩:=g;simp only at hp hc⊢;obtain⟨w0,b0⟩:∃w0:World,w0=w:=⟨w,rfl⟩;have H5:=Ga w (.cells #[pv,cv,.int .i64 root] 25) none;have H2:=heap_alloc_new w (.cells #[pv,cv,.int .i64 root] 25);obtain⟨w1,h9⟩:∃w1,w1=w.alloc (.cells #[pv,cv,.int .i64 root] 25):=⟨_,rfl⟩;obtain⟨P,hP⟩:∃P,P=w.heap.size:=⟨_,rfl⟩;have H8:w1.heap.size=P+1:=by rw[h9,hP,zL]
 rw[<-h9]at H5 H2;rw[<-hP]at H2;have H1:=Ga w1 (.cells #[.string s] 9) none;have h2:=heap_alloc_new w1 (.cells #[.string s] 9);obtain⟨wA,H3⟩:∃w2,w2=w1.alloc (.cells #[.string s] 9):=⟨_,rfl⟩;rw[<-H3]at H1 h2;rw[H8]at h2;have H6:=zB H2 H1 (by simp);have h1:=zA H5 H1 (by simp);rw[h9]at H3;have a3:=Kh H3;have a6:=Kh hP;have H7:=Kh h1;have a9:=Kh H6;have a2:=Kh h2;have HP:=Kh (hp.kept h1 (by simp));have HC:=Kh (hc.kept h1 (by simp));have a7:=Kh (hL.kept h1 (by simp))
 have HV:Hid (∀W:World,wA.grownBy W none->Calls Try.prog 9 #[.agg #[pv,cv,.int .i64 root],.int .i64 6] W fun e w'=>e=.returned (.int .i64 (diaE ⟨ps,cs,root⟩ 6))/\W.grownBy w' none):=Kh (fun W hW =>
  bZ B W _ ⟨ps,cs,root⟩ 6 (by have:=h1.size;have:=hW.size;omega) ⟨pv,cv,rfl,HP.out.kept hW (by simp),HC.out.kept hW (by simp)⟩)
 have a0:=Kh (fun W=>oF s 6 W hs);obtain⟨E,hE⟩:∃E,E=diaE ⟨ps,cs,root⟩ 6:=⟨_,rfl⟩;obtain⟨vb,H4⟩:∃b,b=zU s 6:=⟨_,rfl⟩;rw[<-hE]at HV;rw[<-H4]at a0;have HE:=Kh hE;have a4:=Kh H4;obtain⟨p0,p1,p2⟩:=zN H6;have c2:wA.cell? ⟨P+1,0,none⟩=some (.string s):=by simpa using zI h2 0 (by simp)
 obtain⟨Q,hQ⟩:∃Q,Q=P+1:=⟨_,rfl⟩;rw[<-hQ]at c2 a2;have a5:=Kh hQ;clear hp hc H5 H2 H1 h2 H6 h1 h9 H3 hP hE H4 hQ H8;go_enter Try.func11,Try.ntmps11;go_upto_region 1 with fail;rw[<-a6.out,<-a5.out];rw[<-a3.out];go_wp2_with fail;refine(HV.out _ (zH _ _)).mono ?_;rintro e w3 ⟨rfl,H0⟩;have h0:=Kh H0;have h4:=Kh (zB a9.out H0 (by simp));have h3:=Kh (zB a2.out H0 (by simp));obtain⟨p0,p1,p2⟩:=zN h4.out;have c2:w3.cell? ⟨Q,0,none⟩=some (.string s):=by simpa using zI h3.out 0 (by simp)
 clear H0 HV;by_cases hE:E=0
 case neg =>
  have e1:(E != 0)=true:=by rw[bne_iff_ne];exact hE
  have HR:Hid (diaH ⟨ps,cs,root⟩ s=false):=Kh (by
   unfold diaH;rw[show decide (diaE ⟨ps,cs,root⟩ 6=0)=false by rw[decide_eq_false_iff_not,<-HE.out];exact hE];rfl)
  clear hE;go_wp2;go_ret;exact⟨yA HR.out.symm,zA H7.out h0.out (by simp)⟩
 have e1:(E != 0)=false:=by simp[hE]
 have HD:=Kh (jM (g:=⟨ps,cs,root⟩) (letters:=6) (by rw[<-HE.out];exact hE))
 have HR:Hid (diaH ⟨ps,cs,root⟩ s=(vb && decG cs (fun p=>yI (ps.getD p []) s) root)):=Kh (by
  unfold diaH;rw[show decide (diaE ⟨ps,cs,root⟩ 6=0)=true by rw[decide_eq_true_eq,<-HE.out];exact hE,a4.out];rfl)
 clear hE;go_wp2_with fail;refine(a0.out _).mono ?_;rintro e w4 ⟨rfl,rfl⟩;cases vb with
 | false =>
  go_wp2;go_ret;exact⟨yA HR.out.symm,zA H7.out h0.out (by simp)⟩
 | true =>
  rw[Bool.true_and]at HR
  have a1:Hid (Calls Try.prog 40 #[.agg #[pv,cv,.int .i64 root],.func (.func 41) #[] #[.pointer (some ⟨P,0,none⟩),.pointer (some ⟨Q,0,none⟩)]] w3 fun e w'=>e=.returned (.bool (decG cs (fun p=>yI (ps.getD p []) s) root))/\w3.grownBy w' none):=Kh (by
   obtain⟨_,_,_,_,h5,h6,h7,h8⟩:=HD.out;refine cdecide_any B w3 _ ⟨ps,cs,root⟩ (fun p=>yI (ps.getD p []) s) _ _ ⟨pv,cv,rfl,HP.out.kept h0.out (by simp),HC.out.kept h0.out (by simp)⟩ h6 h7 h8 (fun _ _=>rfl) (fun W p hW hp=>?_)
   exact holds1_any B W P Q pv cv _ ps s p (zB h4.out hW (by simp)) (zB h3.out hW (by simp)) ((HP.out.kept h0.out (by simp)).kept hW (by simp)) hp (patW_pos (by rw[zG hp];exact h5 _ (List.getElem_mem hp))) hs ((a7.out.kept h0.out (by simp)).kept hW (by simp)))
  go_wp2_with fail;refine a1.out.mono ?_;rintro e w5 ⟨rfl,H9⟩;have a8:=Kh H9;clear H9 a1;go_wp2;go_ret;exact⟨yA HR.out.symm,zA (zA H7.out h0.out (by simp)) a8.out (by simp)⟩
theorem kT (B:Nat)(w:World)(v:Value)(bs:List ByteArray)(letters:Int)(h:Row B w v (txtV bs))(hs:∀i (hi:i<bs.length),bs[i].size<=maxLen):Calls Try.prog 33 #[.agg #[v],.int .i64 letters] w fun e w'=>e=.returned (.int .i64 (patW bs letters))/\w.grownBy w' none:=by
 have h9:=h.len_le;rw[yC]at h9;have H9:bs.length<=9223372036854775807:=by unfold maxLen at h9;omega
 have H:=Kh h;have HS:=Kh hs;obtain⟨a,cap,rfl⟩:=h.shape;rw[yC]at H⊢;clear h hs h9;by_cases h1:letters<1\/6<letters
 ·have e1:decide (1<=letters/\letters<=6)=false:=by rw[decide_eq_false_iff_not];omega
  have H1:=Kh h1;clear h1;go_enter Try.func33,Try.ntmps33;go_wp2_with fail;refine(yK _ letters).mono ?_;rintro e w' ⟨rfl,rfl⟩;rw[e1];go_wp2;go_ret;exact⟨yB (by rw[patW,if_pos H1.out]),Ga _ _ _⟩
 have e1:decide (1<=letters/\letters<=6)=true:=by rw[decide_eq_true_eq];omega
 go_enter Try.func33,Try.ntmps33;go_wp2_with fail;refine(yK _ letters).mono ?_;rintro e w' ⟨rfl,rfl⟩;rw[e1];go_wp2
 go_loopg [5,7,16] bs.length (fun gh t a7 i wr=>w.alloc (.cells #[.slice a bs.length cap] 28)=wr/\∃k:Nat,gh+k=bs.length/\i=.int .i64 k/\t=.int .i64 (totW (bs.take k)))
 case atStart=>exact⟨rfl,0,rfl,rfl,rfl⟩
 case round =>
  obtain⟨hw,k,h6,rfl,rfl⟩:=hrel;have h0:=Kh h6;clear h6;by_cases hlt:k<bs.length
  ·have H8:(k:Int)<bs.length:=by omega
   obtain⟨kb,off,kc,e,_,H0,a1,h2⟩:=(H.out.kept (Ga w (.cells #[.slice a bs.length cap] 28) none) (by simp)).some_ (by rw[yC];omega);rw[hw]at h2;rw[yC]at e H0;simp only[Value.slice.injEq]at e;obtain⟨rfl,_,rfl⟩:=e;have hc:=vG h2 k hlt;have H7:=Kh (fH bs k hlt);obtain⟨u,hu⟩:∃u,u=bs.getD k ⟨#[]⟩:=⟨_,rfl⟩
   have H3:u.size<=9223372036854775807:=by
    rw[hu,zG hlt];have:=HS.out k hlt;unfold maxLen at this;omega
   rw[<-hu]at hc H7;have HW:=Kh hw;clear h2 hu hw;go_wp2;go_roundg (bs.length-(k+1))
   case measure=>have:=h0.out;omega
   case rel=>exact⟨HW.out,k+1,by have:=h0.out;omega,by go_num,by rw[H7.out]⟩
  ·have H6:k=bs.length:=by have:=h0.out;omega
   have HT:Hid (totW (bs.take k)=totW bs):=Kh (by rw[H6,List.take_length]);rw[HT.out];have a0:¬(k:Int)<bs.length:=(by omega);have HG:Hid (w.grownBy wr none):=Kh (by rw[<-hw];exact Ga _ _ _);have hb:=heap_alloc_new w (.cells #[.slice a bs.length cap] 28);rw[hw]at hb;have c0:wr.cell? ⟨w.heap.size,0,none⟩=some (.slice a bs.length cap):=by simpa using zI hb 0 (by simp)
   have HR:Hid (Row B wr (.slice a bs.length cap) (txtV bs)):=Kh (H.out.kept HG.out (by simp));clear H6 hw hb h0;obtain⟨tw,h8⟩:∃tw,tw=totW bs:=⟨_,rfl⟩;rw[<-h8];have h7:=Kh h8;clear h8;by_cases h3:8<bs.length
   ·have a4:(8:Int)<bs.length:=by omega
    go_wp2;go_ret;exact⟨yB (by rw[patW,if_neg (by omega),if_pos h3]),HG.out⟩
   have a4:¬(8:Int)<bs.length:=(by omega);by_cases h4:64<tw
   ·go_wp2
    go_ret;exact⟨yB (by rw[patW,if_neg (by omega),if_neg (by omega),if_pos (by rw[<-h7.out];exact h4)]),HG.out⟩
   by_cases h5:bs.length=0
   ·have a3:((bs.length:Int) == 0)=true:=by simp[h5]
    have H5:=Kh h5;clear h5;go_wp2;go_ret;exact⟨yB (by rw[patW,if_neg (by omega),if_neg (by omega),if_neg (by rw[<-h7.out];omega),if_pos H5.out]),HG.out⟩
   have a3:((bs.length:Int) == 0)=false:=by rw[beq_eq_false_iff_ne];omega
   go_wp2
   go_loopg [8,9,40] bs.length (fun gh a8 a9 i wq=>wr=wq/\∃k:Nat,gh+k=bs.length/\i=.int .i64 k/\vK bs.length letters k (bs.drop k)=vK bs.length letters 0 bs)
   case atStart=>exact⟨rfl,0,rfl,rfl,rfl⟩
   case round =>
    obtain⟨rfl,j,h6,rfl,H4⟩:=hrel;have h0:=Kh h6;have H2:=Kh H4;clear h6 H4;by_cases hj:j<bs.length
    ·have a2:(j:Int)<bs.length:=by omega
     obtain⟨kb,off,kc,e,_,H0,a1,h2⟩:=HR.out.some_ (by rw[yC];omega);rw[yC]at e H0;simp only[Value.slice.injEq]at e;obtain⟨rfl,_,rfl⟩:=e;have hc:=vG h2 j hj;obtain⟨u,hu⟩:∃u,u=bs.getD j ⟨#[]⟩:=⟨_,rfl⟩;have H3:u.size<=maxLen:=by rw[hu,zG hj];exact HS.out j hj
     rw[<-hu]at hc;have HU:Hid (u=bs[j]):=Kh (by rw[hu,zG hj]);clear h2 hu;go_wp2_with (go_at_call 43;refine(oG u letters _ H3).mono ?_;rintro e w' ⟨rfl,rfl⟩)
     all_goals first
      |
       go_ret;exact⟨yB (by rw[fX (by omega) (by omega) (by rw[<-h7.out];omega) (by omega),bN hj (by rw[<-HU.out];first|exact eD (by assumption) (by assumption) (List.isEmpty_iff.2 (by assumption))|exact eE (by assumption)) H2.out];rfl),HG.out⟩
      |
       go_roundg (bs.length-(j+1))
       case rel=>exact⟨rfl,j+1,by have:=h0.out;omega,by go_num,fZ hj (eC (by rw[<-HU.out];assumption) (by rw[<-HU.out];first|(left;omega)|(right;exact Bool.eq_false_iff.2 (fun e=>absurd (List.isEmpty_iff.1 e) (by assumption))))) H2.out⟩
       case measure=>have:=h0.out;omega
    ·have a2:¬(j:Int)<bs.length:=by omega
     have e:vK bs.length letters j (bs.drop j)=true:=by rw[List.drop_eq_nil_of_le (by omega)];rfl
     have HE:=Kh e;clear e;go_wp2;go_ret;exact⟨yB (by rw[fX (by omega) (by omega) (by rw[<-h7.out];omega) (by omega),<-H2.out,HE.out];rfl),HG.out⟩
theorem iT (B:Nat)(w:World)(v:Value)(g:DiaV)(letters:Int)(hB:B<=w.heap.size)(h:oC B w v g):Calls Try.prog 10 #[v,.int .i64 letters] w fun e w'=>e=.returned (.int .i64 (diaE g letters))/\w.grownBy w' none:=by
 obtain⟨pv,cv,rfl,hp,hc⟩:=h;obtain⟨pa,pc,rfl⟩:=hp.shape;obtain⟨ca,cc,rfl⟩:=hc.shape;have b5:=hp.len_le;have d5:=hc.len_le;unfold maxLen at b5 d5;obtain⟨ps,cs,root⟩:=g;simp only at hp hc b5 d5⊢;obtain⟨np,c9⟩:∃n,n=ps.length:=⟨_,rfl⟩;obtain⟨nc,d0⟩:∃n,n=cs.length:=⟨_,rfl⟩;rw[<-c9]at hp b5⊢;rw[<-d0]at hc d5⊢;have H0:=Ga w (.cells #[.slice pa np pc,.slice ca nc cc,.int .i64 root] 25) none;have b2:=heap_alloc_new w (.cells #[.slice pa np pc,.slice ca nc cc,.int .i64 root] 25);obtain⟨wA,d7⟩:∃w1,w1=w.alloc (.cells #[.slice pa np pc,.slice ca nc cc,.int .i64 root] 25):=⟨_,rfl⟩;obtain⟨P,hP⟩:∃P,P=w.heap.size:=⟨_,rfl⟩;rw[<-d7]at H0 b2;rw[<-hP]at b2;have f2:=hp.kept H0 (by simp);have f4:=hc.kept H0 (by simp);obtain⟨p0,p1,p2⟩:=zN b2;have f7:=H0.size;have H4:=Kh c9;have h9:=Kh d0;have i4:=Kh f2;have i6:=Kh f4;have c5:=Kh b2;have g7:=Kh d7;have i5:=Kh hP;have h8:=Kh H0;have j5:Hid (B<=wA.heap.size):=Kh (by omega);clear hp hc f2 f4 H0 b2 d7 hP c9 d0 f7;go_enter Try.func10,Try.ntmps10;go_upto_region 1 with fail;rw[<-g7.out,<-i5.out];by_cases h1:letters<1\/6<letters
 ·have e1:decide (1<=letters/\letters<=6)=false:=by rw[decide_eq_false_iff_not];omega
  have H1:=Kh h1;clear h1;go_wp2_with fail;refine(yK _ letters).mono ?_;rintro e w' ⟨rfl,rfl⟩;rw[e1];go_wp2;go_ret;exact⟨yB (qAJ H1.out).symm,h8.out⟩
 have e1:decide (1<=letters/\letters<=6)=true:=by rw[decide_eq_true_eq];omega
 have H1:Hid (¬(letters<1\/6<letters)):=Kh h1;clear h1;go_upto_region 1 with fail;go_wp2_with fail;refine(yK _ letters).mono ?_;rintro e w' ⟨rfl,rfl⟩;rw[e1];by_cases h3:300<np
 ·have g6:(300:Int)<np:=by omega
  go_wp2;go_ret;exact⟨yB (gX H1.out (.inl (by rw[<-H4.out];exact h3))).symm,h8.out⟩
 have g6:¬(300:Int)<np:=by omega
 by_cases h4:20000<nc
 ·have g5:(20000:Int)<nc:=by omega
  go_wp2;go_ret;exact⟨yB (gX H1.out (.inr (by rw[<-h9.out];exact h4))).symm,h8.out⟩
 have g5:¬(20000:Int)<nc:=by omega
 have H3:Hid (¬(300<ps.length\/20000<cs.length)):=Kh (by rw[<-H4.out,<-h9.out];omega);go_wp2
 go_loopg [6,7,28] np (fun gh s6 s7 i wr=>∃k:Nat,gh+k=np/\i=.int .i64 k/\vI letters (ps.drop k)=vI letters ps/\wA.grownBy wr none)
 case atStart=>exact⟨0,rfl,rfl,rfl,zH _ _⟩
 case round =>
  obtain⟨k,a9,rfl,f1,hg⟩:=hrel;have H9:=Kh a9;have HG:=Kh hg;have H8:=Kh f1;clear a9 f1;by_cases hk:k<np
  ·have g0:(k:Int)<np:=by omega
   have f0:=i4.out.kept hg (by simp);obtain⟨b,off,cap,e,g4,H2,d6,h7⟩:=f0.at_ (by rw[<-H4.out];omega);rw[<-H4.out]at e H2 h7;simp only[Value.slice.injEq,true_and]at e;obtain⟨rfl,rfl⟩:=e;obtain⟨sa,sc,c1,H7,c8⟩:=h7 k hk;obtain⟨q,hq⟩:∃q,q=ps.getD k []:=⟨_,rfl⟩;rw[<-hq]at c1 H7 c8;have f8:pc<=9223372036854775807:=by unfold maxLen at d6;omega
   have HV:Hid (∀W:World,wr.grownBy W none->Calls Try.prog 33 #[.agg #[.slice sa q.length sc],.int .i64 letters] W fun e w'=>e=.returned (.int .i64 (patW q letters))/\wA.grownBy w' none):=Kh (fun W hW=>(kT B W _ q letters (H7.kept hW (by simp)) c8).mono fun e w' ⟨he,hg'⟩=>⟨he,zA HG.out (zD hW hg') (by simp)⟩);have HQ:=Kh hq;obtain⟨E,hE⟩:∃E,E=patW q letters:=⟨_,rfl⟩;rw[<-hE]at HV;have HE:=Kh hE;obtain⟨ql,e9⟩:∃n,n=q.length:=⟨_,rfl⟩;rw[<-e9]at c1 HV;clear f0 h7 H7 c8 hq hg hE e9;go_wp2_with fail;refine(HV.out _ (Ga wr _ none)).mono ?_;rintro e w1 ⟨rfl,H0⟩;have f5:=Kh H0;clear H0 HV;by_cases hE:E=0
   ·have e1:(E != 0)=false:=by simp[hE]
    have e4:=Kh hE;clear hE;go_wp2;go_roundg (np-(k+1))
    case measure=>have:=H9.out;omega
    case rel=>exact⟨k+1,by have:=H9.out;omega,by go_num,(mU (by rw[<-H4.out];exact hk) (by rw[<-HQ.out,<-HE.out];exact e4.out)).trans H8.out,f5.out⟩
   ·have e1:(E != 0)=true:=by rw[bne_iff_ne];exact hE
    have e4:=Kh hE;clear hE;go_wp2;go_ret;exact⟨yB (by rw[qFK (g:=⟨ps,cs,root⟩) H1.out H3.out (k:=k) (by rw[<-H4.out];exact hk) H8.out (by rw[<-HQ.out,<-HE.out];exact e4.out)];show E=patW (ps.getD k []) letters;rw[<-HQ.out,<-HE.out]),zA h8.out (f5.out) (by simp)⟩
  ·have f9:k=np:=by have:=H9.out;omega
   have i3:Hid (vI letters ps=0):=Kh (by rw[<-H8.out];exact kZ (by rw[<-H4.out];exact hk));have H6:Hid (diaE ⟨ps,cs,root⟩ letters=dH ps.length cs root):=Kh (qFL H1.out H3.out i3.out);have a7:¬(k:Int)<np:=(by omega);obtain⟨p0,p1,p2⟩:=zN (zB c5.out hg (by simp));clear f9 hg H9 b5;go_wp2;clear p0 p1 p2
   go_loopg [8,9,11,42,64] nc (fun gh s8 s9 s11 i s64 wr=>∃k:Nat,gh+k=nc/\i=.int .i64 k/\wH ps.length cs k/\wA.grownBy wr none)
   case atStart=>exact⟨0,rfl,rfl,dF _ _,HG.out⟩
   case round =>
    clear HG a7 hk;obtain⟨k,a9,rfl,f3,hg⟩:=hrel;have H9:=Kh a9;have HG:=Kh hg;have f6:=Kh f3;clear a9 f3;by_cases hk:k<nc
    ·have g0:(k:Int)<nc:=by omega
     have d4:=i6.out.kept hg (by simp);have j4:=Kh d4;obtain⟨b,off,cap,e,g4,H2,d6,b1⟩:=d4.at_ (by rw[<-h9.out];omega);rw[<-h9.out]at e H2;simp only[Value.slice.injEq,true_and]at e;obtain⟨rfl,rfl⟩:=e;have f8:cc<=9223372036854775807:=by unfold maxLen at d6;omega
     have b6:k<cs.length:=(by rw[<-h9.out];exact hk);have c1:=b1.p k b6;have c2:=b1.y k b6;have c3:=b1.n k b6;have e6:=Kh (b1);obtain⟨c,b8⟩:∃c,c=cs.getD k default:=⟨_,rfl⟩;rw[<-b8]at c1 c2 c3;have HC:=Kh b8
     have a6:Hid (choB ps.length cs k=(decide (0<=c.p/\c.p<np) && (refB cs k c.p c.y && refB cs k c.p c.n))):=Kh (by
      rw[b8,H4.out];rfl)
     clear d4 b1 b6 b8;obtain⟨x,y,n⟩:=c;simp only at c1 c2 c3 a6;have H2:=heap_alloc_new wr (.cells #[.int .i64 x,.int .i64 y,.int .i64 n] 45);have b7:=Ga wr (.cells #[.int .i64 x,.int .i64 y,.int .i64 n] 45) none;obtain⟨w2,c7⟩:∃w2,w2=wr.alloc (.cells #[.int .i64 x,.int .i64 y,.int .i64 n] 45):=⟨_,rfl⟩;obtain⟨R,hR⟩:∃R,R=wr.heap.size:=⟨_,rfl⟩;rw[<-c7]at H2 b7;rw[<-hR]at H2;have g9:=Kh c7;have i1:=Kh hR;have i8:=Kh H2;have c0:=Kh b7;have e7:=Kh (zB (zB c5.out hg (by simp)) b7 (by simp));obtain⟨p0,p1,p2⟩:=zN e7.out;obtain⟨r0,r1,r2⟩:=zN H2;clear c7 hR H2 b7 hg;go_upto_region 15 with fail;rw[<-g9.out,<-i1.out];clear c1 c2 c3;by_cases hx0:x<0
     ·have HF:Hid (choB ps.length cs k=false):=Kh (by rw[a6.out,show decide (0<=x/\x<(np:Int))=false by simp;omega];rfl)
      go_wp2;go_ret;exact⟨yB (by rw[H6.out,sK (by rw[<-h9.out];exact hk) HF.out]),zA h8.out (zA HG.out c0.out (by simp)) (by simp)⟩
     by_cases hx1:(np:Int)<=x
     ·have HF:Hid (choB ps.length cs k=false):=Kh (by rw[a6.out,show decide (0<=x/\x<(np:Int))=false by simp;omega];rfl)
      go_wp2;go_ret;exact⟨yB (by rw[H6.out,sK (by rw[<-h9.out];exact hk) HF.out]),zA h8.out (zA HG.out c0.out (by simp)) (by simp)⟩
     have e8:decide (0<=x/\x<(np:Int))=true:=by simp;omega
     rw[e8,Bool.true_and]at a6;clear e8;go_upto_region 17 with fail;have b9:=heap_alloc_new w2 (.cells #[.int .i64 y,.int .i64 n] 3);have d2:=Ga w2 (.cells #[.int .i64 y,.int .i64 n] 3) none;obtain⟨w5,c6⟩:∃w5,w5=w2.alloc (.cells #[.int .i64 y,.int .i64 n] 3):=⟨_,rfl⟩;obtain⟨R5,d8⟩:∃R,R=w2.heap.size:=⟨_,rfl⟩;rw[<-c6]at b9 d2;rw[<-d8]at b9;have g8:=Kh c6;have i2:=Kh d8;have i7:=Kh b9;have e0:=Kh d2;clear c6 d8 b9 d2;go_upto_region 18 with fail;rw[<-g8.out,<-i2.out];clear p0 p1 p2 r0 r1 r2;obtain⟨wo,rfl⟩:∃wo:World,wo=wr:=⟨_,rfl⟩
     go_loopg [11,64] 2 (fun gh s11 i wq=>∃j:Nat,gh+j=2/\i=.int .i64 j/\(∀i,i<j->refB cs k x ([y,n].getD i 0)=true)/\w5.grownBy wq none)
     case atStart=>exact⟨0,rfl,rfl,fun i hi=>by omega,zH _ _⟩
     case round =>
      obtain⟨j,a8,rfl,h7,a5⟩:=hrel;have b3:=Kh a8;have a4:=Kh h7;have b4:=Kh (zA (zA (zA HG.out c0.out (by simp)) e0.out (by simp)) a5 (by simp));have a0:=Kh a5;obtain⟨p0,p1,p2⟩:=zN (zB c5.out b4.out (by simp));obtain⟨r0,r1,r2⟩:=zN (zB (zB i8.out e0.out (by simp)) a5 (by simp));have d1:=zB i7.out a5 (by simp);clear a8 h7;by_cases hj:j<2
      ·have g2:(j:Int)<2:=by omega
       obtain⟨r,hr⟩:∃r,r=[y,n].getD j 0:=⟨_,rfl⟩
       have cj:wr.cell? ⟨R5,j,none⟩=some (.int .i64 r):=by
        have:=zI d1 j (by simpa using hj);rw[this,hr];rcases (by omega:j=0\/j=1) with rfl|rfl<;>rfl
       have i0:=Kh hr
       have a3:Hid (refB cs k x r=false->choB ps.length cs k=false):=Kh (fun e=>by
        rw[a6.out];rcases (by omega:j=0\/j=1) with rfl|rfl
        ·have h1:r=y:=hr
         rw[<-h1,e];rfl
        ·have h1:r=n:=hr
         rw[<-h1,e,Bool.and_false])
       have H5:Hid (refB cs k x r=true->∀i,i<j+1->refB cs k x ([y,n].getD i 0)=true):=Kh (fun e i hi=>by
        rcases Nat.lt_succ_iff_lt_or_eq.1 hi with hi|rfl
        ·exact a4.out i hi
        ·rw[<-i0.out];exact e)
       have d9:Hid (k<cs.length):=Kh (by rw[<-h9.out];exact hk);have j0:(0:Int)<=k:=by omega
       clear d1 hr a5;by_cases h0:r<0
       ·have HR:Hid (refB cs k x r=false):=Kh (by simp[refB];omega)
        have hd:decide (r<0)=true:=by simpa using h0
        go_wp2
        go_quiet (fail)
        go_wp2;go_ret;exact⟨yB (by rw[H6.out,sK d9.out (a3.out HR.out)]),zA h8.out (zA b4.out (by first|exact zO _ none|exact zM _ _ none) (by simp)) (by simp)⟩
       have j2:decide (r<0)=false:=by simpa using h0
       by_cases h1:1+(k:Int)<r
       ·have HR:Hid (refB cs k x r=false):=Kh (by simp[refB];omega)
        have hd:decide (1+(k:Int)<r)=true:=by simpa using h1
        go_wp2
        go_quiet (fail)
        go_wp2;go_ret;exact⟨yB (by rw[H6.out,sK d9.out (a3.out HR.out)]),zA h8.out (zA b4.out (by first|exact zO _ none|exact zM _ _ none) (by simp)) (by simp)⟩
       have j1:decide (1+(k:Int)<r)=false:=by simpa using h1
       by_cases h2:r<2
       ·have HR:Hid (refB cs k x r=true):=Kh (by simp[refB];omega)
        have j3:¬2<=r:=by omega
        have g3:decide (2<=r)=false:=by simpa using h2
        go_wp2
        go_quiet (fail)
        go_wp2;go_roundg (2-(j+1))
        case measure=>have:=b3.out;omega
        case rel=>exact⟨j+1,by have:=b3.out;omega,by go_num,H5.out HR.out,zA a0.out (by first|exact zO _ none|exact zM _ _ none) (by simp)⟩
       ·have g3:decide (2<=r)=true:=by simp;omega
        obtain⟨q,hq⟩:∃q:Nat,r=(q:Int)+2:=⟨(r-2).toNat,by omega⟩;subst hq;have b0:=((e6.out.kept c0.out (by simp)).kept e0.out (by simp)).kept a0.out (by simp);have c2:=b0.p q (by have:=h9.out;omega);have e2:IntKind.i64.wrap ((q:Int)+2-2)=(q:Int):=by rw[show (q:Int)+2-2=q by omega];exact tW (by omega)
        have e3:(q:Int)+2-2=(q:Int):=by omega
        have hq:q<nc:=(by omega);have i9:(q:Int)<nc:=(by omega);obtain⟨z,hz⟩:∃z,z=(cs.getD q default).p:=⟨_,rfl⟩;rw[<-hz]at c2
        have HR:Hid (refB cs k x ((q:Int)+2) = !decide (z<=x)):=Kh (by
         have e:((q:Int)+2).toNat-2=q:=by omega
         simp only[refB,e,<-hz];rw[Bool.eq_iff_iff];simp only[Bool.and_eq_true,Bool.not_eq_true',decide_eq_true_eq,decide_eq_false_iff_not]
         omega)
        clear hz b0;by_cases hzx:z<=x
        ·have d3:decide (z<=x)=true:=by simpa using hzx
         rw[d3]at HR;go_wp2
         go_quiet (fail)
         go_wp2;go_ret;exact⟨yB (by rw[H6.out,sK d9.out (a3.out HR.out)]),zA h8.out (zA b4.out (by first|exact zO _ none|exact zM _ _ none) (by simp)) (by simp)⟩
        ·have d3:decide (z<=x)=false:=by simpa using hzx
         rw[d3]at HR;go_wp2
         go_quiet (fail)
         go_wp2;go_roundg (2-(j+1))
         case measure=>have:=b3.out;omega
         case rel=>exact⟨j+1,by have:=b3.out;omega,by go_num,H5.out HR.out,zA a0.out (by first|exact zO _ none|exact zM _ _ none) (by simp)⟩
      ·have g1:j=2:=by have:=b3.out;omega
       have e5:Hid (choB ps.length cs k=true):=Kh (by
        have a1:=a4.out 0 (by omega);have a2:=a4.out 1 (by omega);rw[a6.out]
        rw[show refB cs k x y=true from a1,show refB cs k x n=true from a2];rfl)
       have g2:¬(j:Int)<2:=(by omega);clear g1 d1 a5;go_wp2;go_roundg (nc-(k+1))
       case measure=>have:=H9.out;omega
       case rel=>exact⟨k+1,by have:=H9.out;omega,by go_num,kK f6.out e5.out,b4.out⟩
    ·have a7:¬(k:Int)<nc:=by omega
     have c4:=Kh (dG (root:=root) (by rw[<-h9.out];exact hk) f6.out);rw[<-h9.out]at c4;obtain⟨p0,p1,p2⟩:=zN (zB c5.out hg (by simp));clear hg;by_cases h5:root<0
     ·go_wp2
      go_ret;exact⟨yB (by rw[H6.out,c4.out,if_neg (by omega)]),zA h8.out (HG.out) (by simp)⟩
     by_cases h6:1+(nc:Int)<root
     ·go_wp2
      go_ret;exact⟨yB (by rw[H6.out,c4.out,if_neg (by omega)]),zA h8.out (HG.out) (by simp)⟩
     go_wp2;go_ret;exact⟨yB (by rw[H6.out,c4.out,if_pos (by omega)]),zA h8.out (HG.out) (by simp)⟩
def Fit:List (List UInt8)->List UInt8->List UInt8->Prop
 | [],v,r=>∃q,r=q++v
 | u::us,v,r=>∃p r',r=p++u++r'/\Fit us v r'
theorem Fit.more:∀ {us:List (List UInt8)} {v r:List UInt8} (p:List UInt8),Fit us v r->Fit us v (p++r)
 | [],v,r,p,⟨q,h⟩=>⟨p++q,by rw[h,List.append_assoc]⟩
 | u::us,v,r,p,⟨q,r',h,hf⟩=>⟨p++q,r',by rw[h];simp only[List.append_assoc],hf⟩
theorem gQ {r u p q:List UInt8}(h:r=p++u++q):Lib.occAt r u p.length=true:=by
 subst h;unfold Lib.occAt;rw[List.append_assoc,List.drop_left,List.isPrefixOf_iff_prefix];exact List.prefix_append _ _
theorem qET {r u:List UInt8}{i:Nat}(h:Lib.occAt r u i=true)(hi:i<=r.length):r=r.take i++u++r.drop (i+u.length):=by
 unfold Lib.occAt at h;rw[List.isPrefixOf_iff_prefix]at h;obtain⟨t,ht⟩:=h;have h1:r=r.take i++(u++t):=by rw[ht,List.take_append_drop]
 have h2:r.drop (i+u.length)=t:=by rw[<-List.drop_drop,<-ht,List.drop_left]
 rw[h2,List.append_assoc];exact h1
theorem fit_cut (us:List (List UInt8))(u v r:List UInt8):Fit (u::us) v r↔(Lib.cut r u).2.2=true/\Fit us v (Lib.cut r u).2.1:=by
 unfold Lib.cut;rcases Lib.index_spec r u with ⟨h,hno⟩|⟨i,h,hi,hocc,hno⟩
 ·rw[if_neg (by omega)]
  constructor
  ·rintro ⟨p,r',hr,_⟩
   have:=hno p.length (by rw[hr];simp);rw[gQ hr]at this;cases this
  ·rintro ⟨h,_⟩;cases h
 ·rw[if_pos (by omega),h]
  simp only[Int.toNat_natCast,true_and];constructor
  ·rintro ⟨p,r',hr,hf⟩
   have h0:i<=p.length:=by
    rcases Nat.lt_or_ge p.length i with hlt|hge
    ·have:=hno p.length hlt
     rw[gQ hr]at this;cases this
    ·exact hge
   have hd:r.drop (p.length+u.length)=r':=by
    rw[hr,<-List.length_append,List.drop_left]
   have he:r.drop (i+u.length)=(r.drop (i+u.length)).take (p.length-i)++r':=by
    have e:r'=(r.drop (i+u.length)).drop (p.length-i):=by rw[List.drop_drop,<-hd];congr 1;omega
    rw[e,List.take_append_drop]
   rw[he];exact hf.more _
  ·intro hf
   exact⟨_,_,qET hocc hi,hf⟩
theorem iY:∀(us:List (List UInt8)) (r v:List UInt8),mX us r v=true↔Fit us v r
 | [],r,v=>by
  show Lib.hasSuffix r v=true↔_
  unfold Lib.hasSuffix
  rw[List.isSuffixOf_iff_suffix]
  exact⟨fun⟨q,h⟩=>⟨q,h.symm⟩,fun⟨q,h⟩=>⟨q,h.symm⟩⟩
 | u::us,r,v=>by
  rw[fit_cut]
  unfold mX rO
  by_cases h:(Lib.cut r u).2.2=true
  ·rw[if_pos h]
   have:=iY us (Lib.cut r u).2.1 v
   unfold mX at this
   rw[this]
   exact⟨fun h'=>⟨h,h'⟩,fun h'=>h'.2⟩
  ·rw[if_neg h]
   exact⟨fun h'=>(by cases h'),fun h'=>absurd h'.1 h⟩
def qO:List (List UInt8)->List UInt8->Prop
 | [],_=>False
 | [b],s=>s=b
 | b::c::rest,s=>∃r,s=b++r/\Fit (c::rest).dropLast ((c::rest).getLastD []) r
theorem lQ:∀(bs:List (List UInt8)) (s:List UInt8),wL bs s=true↔qO bs s
 | [],s=>by simp[wL,qO]
 | [b],s=>by simp[wL,qO]
 | b::c::rest,s=>by
  simp only[wL,qO,Bool.and_eq_true,iY]
  unfold Lib.hasPrefix
  rw[List.isPrefixOf_iff_prefix]
  constructor
  ·rintro ⟨⟨t,ht⟩,hf⟩
   refine⟨t,ht.symm,?_⟩
   rwa [<-ht,List.drop_left]at hf
  ·rintro ⟨r,rfl,hf⟩
   exact⟨List.prefix_append _ _,by rwa [List.drop_left]⟩
theorem bO {n:Nat}{letters:Int}:∀(bs:List ByteArray) (i:Nat),(∀j (h:j<bs.length),tB n letters (i+j) bs[j]=true)->vK n letters i bs=true
 | [],_,_=>rfl
 | b::bs,i,h=>by
  have h1:=h 0 (by simp)
  have h2:=bO bs (i+1) fun j hj=>by
   have:=h (j+1) (by simpa using hj)
   rwa [show i+1+j=i+(j+1) by omega]
  simp only[vK]
  rw[h2,Bool.and_true]
  simpa using h1
def tl (s:ByteArray):List UInt8:=s.data.toList
theorem xT (s:ByteArray):(tl s).length=s.size:=by simp[tl]
theorem mP (s:ByteArray)(i j:Nat):tl (s.extract i j)=((tl s).drop i).take (j-i):=by
 unfold tl;rw[ByteArray.data_extract,Array.toList_extract,List.extract_eq_take_drop]
theorem qFH (s:ByteArray){i j:Nat}(h:j<=s.size):(s.extract i j).size=j-i:=by
 rw[<-xT,mP,List.length_take,List.length_drop,xT];omega
theorem bY (s:ByteArray)(i j:Nat):(s.extract i j).toList=((tl s).drop i).take (j-i):=by
 rw[ByteArray.toList_eq];exact mP s i j
theorem fI (s:ByteArray):s.toList=tl s:=ByteArray.toList_eq s
def NoB (r u:List UInt8)(p:Nat):Prop:=∀i,i<p->Lib.occAt r u i=false
theorem qGY {r u:ByteArray}{p:Nat}(h:p+u.size<=r.size):((r.extract p (p+u.size)).toList == u.toList)=Lib.occAt (tl r) (tl u) p:=by
 rw[bY,fI,Lib.occAt,Bool.eq_iff_iff,beq_iff_eq,List.isPrefixOf_iff_prefix,List.prefix_iff_eq_take,xT,Nat.add_sub_cancel_left];exact eq_comm
theorem fit_occ {us:List (List UInt8)}{u v r:List UInt8}{f:Nat}(hno:NoB r u f)(hocc:Lib.occAt r u f=true)(hf:f+u.length<=r.length):Fit (u::us) v r↔Fit us v (r.drop (f+u.length)):=by
 constructor
 ·rintro ⟨p,r',hr,h0⟩
  have h1:f<=p.length:=by
   rcases Nat.lt_or_ge p.length f with hlt|hge
   ·have:=hno p.length hlt
    rw[gQ hr]at this;cases this
   ·exact hge
  have hd:r.drop (p.length+u.length)=r':=by
   rw[hr,<-List.length_append,List.drop_left]
  have he:r.drop (f+u.length)=(r.drop (f+u.length)).take (p.length-f)++r':=by
   have e:r'=(r.drop (f+u.length)).drop (p.length-f):=by rw[List.drop_drop,<-hd];congr 1;omega
   rw[e,List.take_append_drop]
  rw[he];exact h0.more _
 ·intro h
  exact⟨_,_,qET hocc (by omega),h⟩
theorem fit_none {us:List (List UInt8)}{u v r:List UInt8}{p:Nat}(hno:NoB r u p)(hp:¬p+u.length<=r.length):¬Fit (u::us) v r:=by
 rintro ⟨q,r',hr,_⟩;have hl:=congrArg List.length hr;simp only[List.length_append]at hl;have:=hno q.length (by omega);rw[gQ hr]at this;cases this
def cE (bs:List ByteArray):List UInt8:=tl (bs.getD (bs.length-1) ⟨#[]⟩)
theorem qFF {bs:List ByteArray}{s:List UInt8}(h:bs.length=1):qO (bs.map (·.data.toList)) s↔s=tl (bs.getD 0 ⟨#[]⟩):=by
 match bs,h with
 | [b],_=>exact Iff.rfl
theorem qCQ {bs:List ByteArray}{s:List UInt8}(h:2<=bs.length):qO (bs.map (·.data.toList)) s↔∃r,s=tl (bs.getD 0 ⟨#[]⟩)++r/\Fit (mid bs) (cE bs) r:=by
 match bs,h with
 | b::c::rest,_ =>
  have e:((c::rest).map (·.data.toList)).getLastD []=cE (b::c::rest):=by
   rw[List.getLastD_eq_getLast?,List.getLast?_eq_getElem?,cE];simp only[List.length_map,List.length_cons,List.getElem?_map];rw[show rest.length+1+1-1=rest.length+1 by omega,show rest.length+1-1=rest.length by omega];have h2:rest.length<(c::rest).length:=(by simp);rw[List.getElem?_eq_getElem h2,zG (show rest.length+1<(b::c::rest).length by simp)];rfl
  show (∃r,s=b.data.toList++r/\Fit ((c::rest).map (·.data.toList)).dropLast (((c::rest).map (·.data.toList)).getLastD []) r)↔_;rw[e];rfl
theorem mid_drop {bs:List ByteArray}{q:Nat}(h1:1<=q)(h2:q<bs.length-1):(mid bs).drop (q-1)=tl (bs.getD q ⟨#[]⟩)::(mid bs).drop q:=by
 have hl:q-1<(mid bs).length:=by rw[rZ];omega
 rw[List.drop_eq_getElem_cons hl,show q-1+1=q by omega,qDK bs (q-1) (by omega),zG (by omega)];congr 1;simp only[tl,show 1+(q-1)=q by omega]
theorem rmatch_any (w:World)(kb off cap:Nat)(bs:List ByteArray)(s:ByteArray)(h:uJ w kb off (txtV bs))(hc1:bs.length<=cap)(hc2:cap<=maxLen)(h0:0<bs.length)(hs:∀i (hi:i<bs.length),bs[i].size<=4096)(hss:s.size<=4096):Calls Try.prog 88 #[.slice (some ⟨kb,off,none⟩) bs.length cap,.string s] w fun e w'=>e=.returned (.bool (wL (bs.map (·.data.toList)) s.data.toList))/\w.grownBy w' none:=by
 have cF:=vG h 0 h0;rw[Nat.add_zero]at cF;obtain⟨b0,h7⟩:∃u,u=bs.getD 0 ⟨#[]⟩:=⟨_,rfl⟩;rw[<-h7]at cF;have e0:b0.size<=4096:=by rw[h7,zG h0];exact hs 0 h0
 have d9:cap<=9223372036854775807:=by unfold maxLen at hc2;omega
 have h8:Hid (∀c:Bool,(c=true↔qO (bs.map (·.data.toList)) (tl s))->c=wL (bs.map (·.data.toList)) s.data.toList):=Kh (fun c hc=>by
  rw[Bool.eq_iff_iff,lQ];exact hc)
 have H:=Kh h;have c2:=Kh h7;have HS:=Kh hs
 have H4:Hid (qO (bs.map (·.data.toList)) (tl s)->tl b0 <+: tl s):=Kh (fun hf=>by
  by_cases h1:bs.length=1
  ·rw[qFF h1,<-h7]at hf
   rw[hf];exact List.prefix_refl _
  ·obtain⟨r,hr,_⟩:=(qCQ (by omega)).1 hf
   rw[<-h7]at hr
   rw[hr];exact List.prefix_append _ _)
 clear h h7 hs hc2;by_cases hlt:s.size<b0.size
 ·have h9:decide ((s.size:Int)<(b0.size:Int))=true:=by rw[decide_eq_true_eq];omega
  go_enter Try.func88,Try.ntmps88;go_wp2;go_ret;refine⟨yA (h8.out _ ⟨fun h=>(by cases h),fun h=>?_⟩),zH _ _⟩;have:=(H4.out h).length_le;rw[xT,xT]at this;omega
 have h9:decide ((s.size:Int)<(b0.size:Int))=false:=by rw[decide_eq_false_iff_not];omega
 have d7:b0.size<=s.size:=by omega
 have h3:=qGY (r:=s) (u:=b0) (p:=0) (by omega);rw[Nat.zero_add]at h3;by_cases hp:Lib.occAt (tl s) (tl b0) 0=true
 case neg =>
  have b1:(!((s.extract 0 b0.size).toList == b0.toList))=true:=by rw[h3];simpa using hp
  have HP:=Kh hp;clear hp h3;go_enter Try.func88,Try.ntmps88;go_wp2;go_ret;refine⟨yA (h8.out _ ⟨fun h=>(by cases h),fun h=>absurd ?_ HP.out⟩),zH _ _⟩;rw[Lib.occAt,List.isPrefixOf_iff_prefix];exact H4.out h
 have b1:(!((s.extract 0 b0.size).toList == b0.toList))=false:=by rw[h3,hp];rfl
 obtain⟨r0,H6⟩:∃r,r=s.extract b0.size s.size:=⟨_,rfl⟩;have a1:r0.size<=4096:=by rw[H6,qFH s (Nat.le_refl _)];omega
 have h4:tl s=tl b0++tl r0:=by
  rw[Lib.occAt,List.isPrefixOf_iff_prefix]at hp;obtain⟨t,ht⟩:=hp;rw[List.drop_zero]at ht;rw[H6,mP,List.take_of_length_le (by rw[List.length_drop,xT];omega),<-xT b0,<-ht,List.drop_left]
 have b9:=Kh H6;have b7:=Kh h4;clear hp h3 h4 H6;by_cases h1:bs.length=1
 ·have c7:((bs.length:Int) == 1)=true:=by simp[h1]
  have H1:=Kh h1;clear h1;go_enter Try.func88,Try.ntmps88;go_wp2;rw[<-b9.out];go_ret;refine⟨yA (h8.out _ ?_),zH _ _⟩;rw[qFF H1.out,<-c2.out,b7.out,List.isEmpty_iff,fI];constructor
  ·intro h;rw[h,List.append_nil]
  ·intro h;simpa using h
 ·have c7:((bs.length:Int) == 1)=false:=by rw[beq_eq_false_iff_ne];omega
  have h2:2<=bs.length:=by omega
  obtain⟨R1,b6⟩:∃R1,R1=bs.length-1:=⟨_,rfl⟩;have e71:(bs.length:Int)-1=(R1:Int):=by omega
  have h6:R1<bs.length:=by omega
  have c6:(R1:Int)<bs.length:=by omega
  have a5:1<=R1:=by omega
  have a6:=Kh b6
  have c0:Hid (qO (bs.map (·.data.toList)) (tl s)↔Fit (mid bs) (cE bs) (tl r0)):=Kh (by
   rw[qCQ h2,<-c2.out,b7.out];constructor
   ·rintro ⟨r,hr,hf⟩
    have:=List.append_cancel_left hr;rw[this];exact hf
   ·intro hf;exact⟨_,rfl,hf⟩)
  clear h1 b6;go_enter Try.func88,Try.ntmps88;go_wp2;rw[<-b9.out];clear cF b1 h9
  go_loopg [1,6,7,8,9] R1 (fun gh s1 i s7 s8 s9 wr=>∃(q:Nat) (r:ByteArray),gh+q=R1+1/\i=.int .i64 q/\1<=q/\q<=R1/\s1=.string r/\r.size<=4096/\(Fit ((mid bs).drop (q-1)) (cE bs) (tl r)↔Fit (mid bs) (cE bs) (tl r0))/\w=wr)
  case atStart=>exact⟨1,r0,rfl,rfl,Nat.le_refl _,a5,rfl,a1,Iff.rfl,rfl⟩
  case round =>
   obtain⟨q,r,b3,rfl,c3,d5,rfl,d2,H2,rfl⟩:=hrel;have H9:=Kh b3;have a8:=Kh H2;clear b3 H2;by_cases hq:q<R1
   ·have c4:(q:Int)<R1:=by omega
    have d4:(q:Int)<bs.length:=(by omega);have cu:=vG H.out q (by omega);obtain⟨u,hu⟩:∃u,u=bs.getD q ⟨#[]⟩:=⟨_,rfl⟩;rw[<-hu]at cu;have d1:u.size<=4096:=by rw[hu,zG (show q<bs.length by omega)];exact HS.out q (by omega)
    have a7:=Kh (mid_drop (bs:=bs) c3 (by have:=a6.out;omega));rw[<-hu]at a7;clear hu;go_wp2
    go_loopg [8,9] (r.size+1) (fun gh s8 s9 wr=>∃p:Nat,gh+p=r.size+1/\s9=.int .i64 p/\w=wr/\((s8=.int .i64 (-1)/\NoB (tl r) (tl u) p)\/(∃f:Nat,f+1=p/\s8=.int .i64 f/\NoB (tl r) (tl u) f/\Lib.occAt (tl r) (tl u) f=true/\f+u.size<=r.size)))
    case atStart=>exact⟨0,rfl,rfl,rfl,.inl ⟨rfl,fun i hi=>by omega⟩⟩
    case round =>
     clear cu;obtain⟨p,H0,rfl,rfl,H3⟩:=hrel;have H8:=Kh H0;have d6:p<=4097:=by omega
     clear H0;rcases H3 with ⟨rfl,hno⟩|⟨f,hfp,rfl,hno,h3,hfu⟩
     ·have H7:=Kh hno
      clear hno;by_cases hpu:p+u.size<=r.size
      ·have h5:decide ((p:Int)+(u.size:Int)<=(r.size:Int))=true:=by rw[decide_eq_true_eq];omega
       have b2:=qGY (r:=r) (u:=u) (p:=p) hpu;by_cases ho:Lib.occAt (tl r) (tl u) p=true
       ·rw[ho]at b2
        have HO:=Kh ho;clear ho;go_wp2;go_roundg (r.size+1-(p+1))
        case measure=>have:=H8.out;omega
        case rel=>exact⟨p+1,by have:=H8.out;omega,by go_num,rfl,.inr ⟨p,rfl,rfl,H7.out,HO.out,hpu⟩⟩
       ·have a2:Lib.occAt (tl r) (tl u) p=false:=by simpa using ho
        rw[a2]at b2;have HO:=Kh a2;clear ho a2;go_wp2;go_roundg (r.size+1-(p+1))
        case measure=>have:=H8.out;omega
        case rel =>
         refine⟨p+1,by have:=H8.out;omega,by go_num,rfl,.inl ⟨rfl,fun i hi=>?_⟩⟩;by_cases e:i=p
         ·rw[e];exact HO.out
         ·exact H7.out i (by omega)
      ·have h5:decide ((p:Int)+(u.size:Int)<=(r.size:Int))=false:=by rw[decide_eq_false_iff_not];omega
       go_wp2;go_ret;refine⟨yA (h8.out _ ⟨fun h=>(by cases h),fun h=>?_⟩),zH _ _⟩;rw[c0.out,<-a8.out,a7.out]at h;exact absurd h (fit_none H7.out (by rw[xT,xT];exact hpu))
     ·have e2:=Kh hfp;have H7:=Kh hno;have e1:=Kh h3
      have d8:((f:Int) == -1)=false:=by rw[beq_eq_false_iff_ne];omega
      have d3:(f:Int)+u.size<=r.size:=by omega
      have b4:=qFH r (i:=f+u.size) (j:=r.size) (Nat.le_refl _);have c1:=Kh b4
      have b8:Hid (Fit ((mid bs).drop (q+1-1)) (cE bs) (tl (r.extract (f+u.size) r.size))↔Fit (mid bs) (cE bs) (tl r0)):=Kh (by
       rw[<-a8.out,a7.out,Nat.add_sub_cancel,fit_occ hno h3 (by rw[xT,xT];exact hfu),mP,List.take_of_length_le (by rw[List.length_drop,xT];omega),xT])
      clear hfp hno h3 b4;by_cases hpu:p+u.size<=r.size
      ·have h5:decide ((p:Int)+(u.size:Int)<=(r.size:Int))=true:=by rw[decide_eq_true_eq];omega
       go_wp2;go_roundg (R1+1-(q+1))
       case measure=>have:=H9.out;omega
       case rel=>exact⟨q+1,_,by have:=H9.out;omega,by go_num,by omega,by omega,rfl,by rw[c1.out];omega,b8.out,rfl⟩
      ·have h5:decide ((p:Int)+(u.size:Int)<=(r.size:Int))=false:=by rw[decide_eq_false_iff_not];omega
       go_wp2;go_roundg (R1+1-(q+1))
       case measure=>have:=H9.out;omega
       case rel=>exact⟨q+1,_,by have:=H9.out;omega,by go_num,by omega,by omega,rfl,by rw[c1.out];omega,b8.out,rfl⟩
   ·have a9:q=R1:=by omega
    have c4:¬(q:Int)<R1:=(by omega);have cl:=vG H.out R1 h6;obtain⟨v,hv⟩:∃u,u=bs.getD R1 ⟨#[]⟩:=⟨_,rfl⟩;rw[<-hv]at cl;have d0:v.size<=4096:=by rw[hv,zG h6];exact HS.out R1 h6
    have c8:Hid (cE bs=tl v):=Kh (by rw[cE,<-a6.out,<-hv])
    have H5:Hid (qO (bs.map (·.data.toList)) (tl s)↔∃q,tl r=q++tl v):=Kh (by
     rw[c0.out,<-a8.out,c8.out,List.drop_eq_nil_of_le (by rw[rZ,a9];have:=a6.out;omega)]
     exact Iff.rfl)
    clear hv a9;by_cases hge:v.size<=r.size
    ·have a4:decide ((v.size:Int)<=(r.size:Int))=true:=by rw[decide_eq_true_eq];omega
     have a3:decide ((r.size:Int) ≥ (v.size:Int))=true:=by rw[decide_eq_true_eq];omega
     obtain⟨dd,b5⟩:∃dd,dd=r.size-v.size:=⟨_,rfl⟩;have edd:(r.size:Int)-(v.size:Int)=(dd:Int):=by omega
     have c5:(dd:Int)<=r.size:=by omega
     have c9:=Kh b5;clear b5;go_wp2;go_ret;refine⟨yA (h8.out _ ?_),zH _ _⟩;rw[H5.out,beq_iff_eq,bY,fI,List.take_of_length_le (by rw[List.length_drop,xT];omega)];constructor
     ·intro h
      exact⟨(tl r).take dd,by rw[<-h,List.take_append_drop]⟩
     ·rintro ⟨y,hy⟩
      have a0:=congrArg List.length hy;rw[List.length_append,xT,xT]at a0;rw[hy,show dd=y.length by have:=c9.out;omega,List.drop_left]
    ·have a4:decide ((v.size:Int)<=(r.size:Int))=false:=by rw[decide_eq_false_iff_not];omega
     have a3:decide ((r.size:Int) ≥ (v.size:Int))=false:=by rw[decide_eq_false_iff_not];omega
     go_wp2;go_ret;refine⟨yA (h8.out _ ⟨fun h=>(by cases h),fun h=>?_⟩),zH _ _⟩;obtain⟨y,hy⟩:=H5.out.1 h;have a0:=congrArg List.length hy;rw[List.length_append,xT,xT]at a0;omega
theorem rMatch_any (B:Nat)(w:World)(v:Value)(bs:List ByteArray)(s:ByteArray)(h:Row B w v (txtV bs))(hs:∀i (hi:i<bs.length),bs[i].size<=maxLen)(hss:s.size<=maxLen):Calls Try.prog 65 #[.agg #[v],.string s] w fun e w'=>e=.returned (.bool (yI bs s))/\w.grownBy w' none:=by
 obtain⟨a,cap,rfl⟩:=h.shape;rw[yC]at h⊢;have H:=Kh h;have h2:=Ga w (.cells #[.slice a bs.length cap] 28) none;have h1:=heap_alloc_new w (.cells #[.slice a bs.length cap] 28);obtain⟨w1,h5⟩:∃w1,w1=w.alloc (.cells #[.slice a bs.length cap] 28):=⟨_,rfl⟩;obtain⟨P,hP⟩:∃P,P=w.heap.size:=⟨_,rfl⟩;rw[<-h5]at h2 h1;rw[<-hP]at h1;have c0:w1.cell? ⟨P,0,none⟩=some (.slice a bs.length cap):=by simpa using zI h1 0 (by simp)
 have H3:=Kh (kT B w1 _ bs 6 (h.kept h2 (by simp)) hs);have H5:=Kh h5;have HP:=Kh hP;have H8:=Kh h2;have H9:=Kh h1;clear h h2 h1 h5 hP hs;go_enter Try.func65,Try.ntmps65;go_upto_region 1 with fail;rw[<-H5.out,<-HP.out];go_wp2_with fail;refine H3.out.mono ?_;rintro e w2 ⟨rfl,h6⟩;have h3:=Kh (zA H8.out h6 (by simp));have c2:w2.cell? ⟨P,0,none⟩=some (.slice a bs.length cap):=by simpa using zI (zB H9.out h6 (by simp)) 0 (by simp)
 clear h6 H3 c0;by_cases hE:patW bs 6=0
 case neg =>
  have hM:Hid (yI bs s=false):=Kh (by
   have:¬yT bs 6=0:=fun e=>hE (vJ.2 e)
   simp[yI,this])
  obtain⟨E,H2⟩:∃E,E=patW bs 6:=⟨_,rfl⟩;rw[<-H2]at hE⊢;have e1:(E == 0)=false:=by rw[beq_eq_false_iff_ne];exact hE
  clear hE H2;go_wp2;go_ret;exact⟨yA hM.out.symm,h3.out⟩
 rw[hE];have hV:=vJ.1 hE;have HV:=Kh hV;obtain⟨_,_,h0,h8,_,h4,_⟩:=qBO hV;clear hE hV;go_wp2_with fail;refine(oG s 6 _ hss).mono ?_;rintro e w3 ⟨rfl,rfl⟩;by_cases hW:zU s 6=true
 ·obtain⟨b,off,_,ea,a0,H1,H4,h9⟩:=(H.out.kept h3.out (by simp)).some_ (by rw[yC];exact h0)
  rw[yC]at ea H1;simp only[Value.slice.injEq]at ea;obtain⟨rfl,_,rfl⟩:=ea
  have HM:=Kh (rmatch_any w2 b off cap bs s h9 H1 H4 h0 (fun i hi=>by
   have:=h4 i hi;simp[zU]at this
   omega) (by simp[zU]at hW;omega))
  have H6:Hid (yI bs s=wL (bs.map (·.data.toList)) s.data.toList):=Kh (by
   rw[yI,HV.out,hW];simp)
  rw[hW];clear h9 h4;go_wp2_with fail;refine HM.out.mono ?_;rintro e w3 ⟨rfl,H0⟩;have H7:=Kh (zA h3.out H0 (by simp));clear H0;go_wp2;go_ret;exact⟨yA H6.out.symm,H7.out⟩
 ·have h7:zU s 6=false:=by simpa using hW
  have hM:Hid (yI bs s=false):=Kh (by simp[yI,h7]);rw[h7];clear hW h7 h4;go_wp2;go_ret;exact⟨yA hM.out.symm,h3.out⟩
def mtsW (ps:List (List ByteArray))(s:ByteArray):List Bool:=ps.map fun p=>yI p s
theorem eI (ps:List (List ByteArray))(s:ByteArray):(mtsW ps s).length=ps.length:=by simp[mtsW]
theorem mtsW_take {ps:List (List ByteArray)}{s:ByteArray}{k:Nat}(hk:k<ps.length):mtsW (ps.take (k+1)) s=mtsW (ps.take k) s++[yI (ps.getD k []) s]:=by
 rw[List.take_succ_eq_append_getElem hk,mtsW,List.map_append,zG hk];rfl
theorem mtsW_get {ps:List (List ByteArray)}{s:ByteArray}{p:Nat}(hp:p<ps.length):(mtsW ps s).getD p false=yI (ps.getD p []) s:=by
 rw[zG (by rw[eI];exact hp),zG hp];simp[mtsW]
theorem rmatched_any (B:Nat)(w:World)(v:Value)(ps:List (List ByteArray))(s:ByteArray)(hB:B<=w.heap.size)(h:vS B w v ps)(hl:ps.length<=4096)(hs:s.size<=maxLen):Calls Try.prog 24 #[v,.string s] w fun e w'=>∃sa sc,e=.returned (.slice sa ps.length sc)/\w'.ownsRow w.heap.size 4 1 (.slice sa ps.length sc) ps.length (bls (mtsW ps s))/\w.grownBy w' none:=by
 obtain⟨a,c,rfl⟩:=h.shape;obtain⟨n,hn⟩:∃n,n=ps.length:=⟨_,rfl⟩;have HN:=Kh hn;have H:=Kh h;rw[<-hn]at hl H⊢;clear h hn;go_enter Try.func24,Try.ntmps24;go_wp2
 go_loopg [5,7,10] n (fun gh v5 s7 i wr=>∃(k:Nat) (sa:Option Addr) (sc:Nat),gh+k=n/\i=.int .i64 k/\v5=.slice sa k sc/\wr.ownsRow w.heap.size 4 1 (.slice sa k sc) k (bls (mtsW (ps.take k) s))/\w.grownBy wr none)
 case atStart=>exact⟨0,none,0,rfl,rfl,rfl,World.ownsRow_nil _ _ _ _,zH _ _⟩
 case round =>
  obtain⟨k,sa,sc,H0,rfl,rfl,h4,hg⟩:=hrel;have h7:=Kh H0;have HG:=Kh hg;have HO:=Kh h4;have hz:=hg.size;clear H0 h4;by_cases hk:k<n
  ·have H6:(k:Int)<n:=by omega
   obtain⟨b,off,cap,e,a4,H8,H7,h3⟩:=(H.out.kept hg (by simp)).at_ (by rw[<-HN.out];omega);rw[<-HN.out]at e H8 h3;simp only[Value.slice.injEq,true_and]at e;obtain⟨rfl,rfl⟩:=e;obtain⟨ea,ec,c1,h2,h5⟩:=h3 k hk;have h6:Hid (mtsW (ps.take (k+1)) s=mtsW (ps.take k) s++[yI (ps.getD k []) s]):=Kh (mtsW_take (by rw[<-HN.out];exact hk));obtain⟨q,hq⟩:∃q,q=ps.getD k []:=⟨_,rfl⟩;rw[<-hq]at c1 h2 h5 h6;have a3:c<=9223372036854775807:=by unfold maxLen at H7;omega
   have HM:Hid (∀W:World,wr.grownBy W none->Calls Try.prog 65 #[.agg #[.slice ea q.length ec],.string s] W fun e w'=>e=.returned (.bool (yI q s))/\W.grownBy w' none):=Kh (fun W hW=>rMatch_any B W _ q s (h2.kept hW (by simp)) h5 hs);obtain⟨ql,h8⟩:∃n,n=q.length:=⟨_,rfl⟩;obtain⟨mm,h9⟩:∃m,m=yI q s:=⟨_,rfl⟩;rw[<-h8]at c1 HM;rw[<-h9]at HM h6;clear h3 h2 h5 hq h8 h9 hg;go_wp2_with fail;refine(HM.out _ (Ga wr _ none)).mono ?_;rintro e w1 ⟨rfl,H2⟩;have h0:=zA (Ga wr (.cells #[.slice ea ql ec] 28) none) H2 (by simp);have a1:=Kh h0;have H3:=Kh (zP HO.out h0);have a2:=h0.size;clear H2 h0 HM c1;go_wp2_with (first|(at_builtin;refine app1 rfl _ _ _ rfl xJ w.heap.size (.slice sa k sc) k _ rfl H3.out (.bool mm) rfl rfl ?c1 ?c2 ?c3 ?_)|fail)
   case c1=>unfold maxLen;omega
   case c2=>omega
   case c3=>omega
   intro sa' sc' w2 h1 H1 H4;have H9:Hid (w2.ownsRow w.heap.size 4 1 (.slice sa' (k+1) sc') (k+1) (bls (mtsW (ps.take (k+1)) s))):=Kh (by rw[h6.out];simpa [bls] using h1);have a0:Hid (w.grownBy w2 none):=Kh (zA (zA HG.out a1.out (by simp)) H1 (fun x e=>(H3.out.lt x e).1));clear h1 H1;go_wp2;go_roundg (n-(k+1))
   case measure=>have:=h7.out;omega
   case rel=>exact⟨k+1,sa',sc',by have:=h7.out;omega,by go_num,rfl,H9.out,a0.out⟩
  ·have H5:k=n:=by have:=h7.out;omega
   have HE:Hid (ps.take k=ps):=Kh (List.take_of_length_le (by rw[<-HN.out];omega));rw[HE.out]at HO;have H6:¬(k:Int)<n:=(by omega);subst H5;clear hg;go_wp2;go_ret;exact⟨sa,sc,rfl,HO.out,HG.out⟩
theorem fQ (B:Nat)(w:World)(v:Value)(g:DiaV)(mv:Value)(ms:List Bool)(h:oC B w v g)(hc:wH g.pats.length g.chos g.chos.length)(h0:0<=g.root)(h1:g.root<=1+(g.chos.length:Int))(hl:g.pats.length<=ms.length)(hm:Row B w mv (bls ms)):Calls Try.prog 44 #[v,mv] w fun e w'=>e=.returned (.bool (decG g.chos (fun p=>ms.getD p false) g.root))/\w.grownBy w' none:=by
 obtain⟨pv,cv,rfl,hp,h5⟩:=h;obtain⟨ca,cc,rfl⟩:=h5.shape;have a0:=h5.len_le;obtain⟨ma,mc,rfl⟩:=hm.shape;have H8:=hm.len_le;unfold maxLen at a0 H8;obtain⟨ps,cs,root⟩:=g;simp only at hp hc h5 a0 h0 h1 hl⊢;rw[xC]at H8;obtain⟨r0,rfl⟩:∃n:Nat,root=(n:Int):=⟨root.toNat,by omega⟩;obtain⟨nc,H7⟩:∃n,n=cs.length:=⟨_,rfl⟩;obtain⟨nm,H2⟩:∃n,n=ms.length:=⟨_,rfl⟩;rw[<-H7]at h5 a0 h1⊢;rw[xC,<-H2]at hm⊢;rw[<-H2]at hl H8;have h8:=Ga w (.cells #[pv,.slice ca nc cc,.int .i64 (r0:Int)] 25) none;have H1:=heap_alloc_new w (.cells #[pv,.slice ca nc cc,.int .i64 (r0:Int)] 25);obtain⟨wA,a2⟩:∃w1,w1=w.alloc (.cells #[pv,.slice ca nc cc,.int .i64 (r0:Int)] 25):=⟨_,rfl⟩;obtain⟨P,hP⟩:∃P,P=w.heap.size:=⟨_,rfl⟩;rw[<-a2]at h8 H1;rw[<-hP]at H1;have b0:=h5.kept h8 (by simp);obtain⟨p0,p1,p2⟩:=zN H1;have a4:=Kh H7;have H5:=Kh H2;have d0:=Kh b0;have d1:=Kh H1;have b1:=Kh hc;have c0:=Kh a2;have c7:=Kh hP;have c9:=Kh h8;have HM:=Kh (hm.kept h8 (by simp));have c6:=Kh h1;obtain⟨m,H9⟩:∃m:Nat->Bool,m=fun p=>ms.getD p false:=⟨_,rfl⟩;have c8:Hid (∀p,m p=ms.getD p false):=Kh (fun p=>by rw[H9]);rw[<-H9];obtain⟨ans,h2⟩:∃b,b=decG cs m (r0:Int):=⟨_,rfl⟩;rw[<-h2];have a5:=Kh h2;clear hp h5 b0 h8 H1 a2 hP H7 hc h1 h0 h2 H2 hm H9;go_enter Try.func44,Try.ntmps44;go_upto_region 1 with fail;rw[<-c0.out,<-c7.out];go_wp2;clear p0 p1 p2
 go_loopg [5,6] r0 (fun gh r s6 wr=>∃q:Nat,gh=q/\r=.int .i64 q/\q<=1+nc/\decG cs m q=ans/\wA.grownBy wr none)
 case atStart=>exact⟨r0,rfl,rfl,by have:=c6.out;omega,a5.out.symm,zH _ _⟩
 case round =>
  obtain⟨q,a8,rfl,b5,h9,hg⟩:=hrel;have b2:=Kh a8;clear a8;have HG:=Kh hg;have h3:=Kh h9;clear h9;by_cases hq:2<=q
  ·have b6:(2:Int)<=q:=by omega
   obtain⟨i,rfl⟩:∃i,q=i+2:=⟨q-2,by omega⟩;have hi:i<nc:=(by omega);have H0:=d0.out.kept hg (by simp);obtain⟨b,off,cap,e,d7,h6,b9,H4⟩:=H0.at_ (by rw[<-a4.out];omega);rw[<-a4.out]at e h6;simp only[Value.slice.injEq,true_and]at e;obtain⟨rfl,rfl⟩:=e;have d4:cc<=9223372036854775807:=by unfold maxLen at b9;omega
   have h7:i<cs.length:=(by rw[<-a4.out];exact hi);have c1:=H4.p i h7;have c2:=H4.y i h7;have c3:=H4.n i h7;have h4:=jN (m:=m) b1.out (r:=((i+2:Nat):Int)) (by omega) (by omega);have e0:((i+2:Nat):Int).toNat-2=i:=by omega
   rw[e0]at h4;have a1:=rJ (b1.out i h7);obtain⟨c,a9⟩:∃c,c=cs.getD i default:=⟨_,rfl⟩;rw[<-a9]at c1 c2 c3 h4 a1;clear H0 H4 h7 a9;obtain⟨x,y,n⟩:=c;simp only at c1 c2 c3 h4 a1;obtain⟨xn,rfl⟩:∃k:Nat,x=(k:Int):=⟨x.toNat,by omega⟩;obtain⟨yn,rfl⟩:∃k:Nat,y=(k:Int):=⟨y.toNat,by omega⟩;obtain⟨nn,rfl⟩:∃k:Nat,n=(k:Int):=⟨n.toNat,by omega⟩;rw[Int.toNat_natCast]at h4;have a6:xn<nm:=(by omega);have b4:(xn:Int)<nm:=(by omega);have d2:yn<i+2:=(by omega);have d3:nn<i+2:=(by omega);have a3:=Kh h4;obtain⟨kb,ko,kc,e,_,b8,b7,a7⟩:=(HM.out.kept hg (by simp)).some_ (by rw[xC,<-H5.out];omega);rw[xC,<-H5.out]at e b8;simp only[Value.slice.injEq,true_and]at e;obtain⟨rfl,rfl⟩:=e;have d5:mc<=9223372036854775807:=by unfold maxLen at b7;omega
   have cm:wr.cell? ⟨kb,ko+xn,none⟩=some (.bool (m xn)):=by
    have:=a7.map (f:=Value.bool) (xs:=ms) xn (by rw[<-H5.out];exact a6);rw[this,c8.out,zG (by rw[<-H5.out];exact a6)]
   obtain⟨b,hb⟩:∃b,b=m xn:=⟨_,rfl⟩;rw[<-hb]at a3 cm;obtain⟨p0,p1,p2⟩:=zN (zB d1.out hg (by simp));have h6:=heap_alloc_new wr (.cells #[.int .i64 (xn:Int),.int .i64 (yn:Int),.int .i64 (nn:Int)] 45);have H3:=Ga wr (.cells #[.int .i64 (xn:Int),.int .i64 (yn:Int),.int .i64 (nn:Int)] 45) none;obtain⟨w2,H6⟩:∃w2,w2=wr.alloc (.cells #[.int .i64 (xn:Int),.int .i64 (yn:Int),.int .i64 (nn:Int)] 45):=⟨_,rfl⟩;obtain⟨R,hR⟩:∃R,R=wr.heap.size:=⟨_,rfl⟩;rw[<-H6]at h6 H3;rw[<-hR]at h6;have cm2:=xK cm H3;have c4:=Kh H6;have c5:=Kh hR;have b3:=Kh H3;obtain⟨r0,r1,r2⟩:=zN h6;have e2:IntKind.i64.wrap ((i+2:Nat)-2:Int)=(i:Int):=by rw[show ((i+2:Nat)-2:Int)=i by omega];exact tW (by omega)
   have e3:((i+2:Nat)-2:Int)=(i:Int):=by omega
   have d6:(i:Int)<nc:=(by omega);clear hb H6 hR h6 H3 hg h4 a1 b5 a7 cm;go_upto_region 4 with fail;rw[<-c4.out,<-c5.out];clear c1 c2 c3 p0 p1 p2;cases b with
   | true =>
    go_wp2;go_roundg yn
    case measure=>have:=b2.out;omega
    case rel=>exact⟨yn,rfl,rfl,by omega,by rw[<-h3.out];exact a3.out.symm,zA HG.out b3.out (by simp)⟩
   | false =>
    go_wp2;go_roundg nn
    case measure=>have:=b2.out;omega
    case rel=>exact⟨nn,rfl,rfl,by omega,by rw[<-h3.out];exact a3.out.symm,zA HG.out b3.out (by simp)⟩
  ·have b6:¬(2:Int)<=q:=by omega
   have HA:Hid (decide ((q:Int)=1)=ans):=Kh (by rw[<-h3.out,qAK _ _ (by omega)]);clear hg;go_wp2;go_ret;exact⟨yA (by rw[<-HA.out];first|rfl|simp|decide),zA c9.out HG.out (by simp)⟩
end Go.Proofs.Ytjfdomfendbhfaa
namespace Go.Proofs.Ytjfdomfendbhfaa
def qCJ (n:Nat):Code->Option Code
 | .block i c=>if i=n then some c else qCJ n c
 | .seq a b=>match qCJ n a with
  | some c=>some c
  | none=>qCJ n b
 | .cond _ a b=>match qCJ n a with
  | some c=>some c
  | none=>qCJ n b
 | .loop c=>qCJ n c
 | .scope c=>qCJ n c
 | _=>none
noncomputable def blk (f:Func)(n:Nat):Code:=(f.body.bind (qCJ n)).getD .skip
def qCI (n:Nat):Code->Option Code
 | .region i o d=>if i=n then some (.region i o d) else none
 | .block _ c=>qCI n c
 | .seq a b=>match qCI n a with
  | some c=>some c
  | none=>qCI n b
 | .cond _ a b=>match qCI n a with
  | some c=>some c
  | none=>qCI n b
 | .loop c=>qCI n c
 | .scope c=>qCI n c
 | _=>none
noncomputable def reg (f:Func)(n:Nat):Code:=(f.body.bind (qCI n)).getD .skip
end Go.Proofs.Ytjfdomfendbhfaa
