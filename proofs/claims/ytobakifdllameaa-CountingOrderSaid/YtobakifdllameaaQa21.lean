/- Part 21 of the proof. -/
import Derived.Test.YtobakifdllameaaQa20
set_option linter.unusedVariables false
set_option linter.unusedSimpArgs false
set_option maxRecDepth 100000
set_option maxHeartbeats 16000000
namespace Go.Proofs.Ytobakifdllameaa
theorem bX (m:Nat)(l:List Nat):mN m l=metL m l:=by
 suffices h:∀(l q:List Nat),l.foldl (fun ps x=>ps.set x true) (metL m q)=metL m (q++l) by
  have:=h l [];rw[dY]at this;exact this
 intro l
 induction l with
 | nil=>intro q;rw[List.append_nil];rfl
 | cons x l ih =>
  intro q;rw[List.foldl_cons,lP,ih,List.append_assoc];rfl
theorem qCP (m:Nat)(l:List Nat):metL m (nD (metL m l))=metL m l:=by
 refine List.ext_getElem (by simp[metL]) fun i h1 h2=>?_;rw[xN]at h1;simp only[metL,List.getElem_map,List.getElem_range];refine decide_eq_decide.2 ⟨fun h=>?_,fun h=>?_⟩
 ·have:=(List.mem_filter.1 h).2
  rw[show ((List.range m).map fun q=>decide (q∈l))=metL m l from rfl,mG h1]at this;exact of_decide_eq_true this
 refine List.mem_filter.2 ⟨List.mem_range.2 (by simpa [metL] using h1),?_⟩;rw[show ((List.range m).map fun q=>decide (q∈l))=metL m l from rfl,mG h1];exact decide_eq_true h
theorem qLU {t:List (List Int)}{gs m:List Nat}(hb:∀x∈gs,x∈m)(hc:pB t m){x:Nat}(h:Gen t gs x):x∈m:=by
 induction h with
 | base x hx=>exact hb x hx
 | mul x y _ _ h1 h2=>exact hc x h1 y h2
theorem qKB {n:Nat}{t:List (List Int)}{gs m m':List Nat}(h:GenI t gs m)(hc:pB t m)(h':GenI t gs m')(a9:pB t m'):metL n m=metL n m':=by
 unfold metL;refine List.map_congr_left fun x _=>decide_eq_decide.2 ⟨fun hx=>qLU h'.base a9 (h.gen x hx),fun hx=>qLU h.base hc (h'.gen x hx)⟩
theorem SynE.eq {gs:List (List Nat)}{n st:Nat}{fin:List Bool}{S S':SynV}(h:SynE gs n st fin S)(h':SynE gs n st fin S')(h1:1<=n)(hk:1<=gs.length):S=S':=by
 obtain⟨el,pr,la,ri,mm,hf,hl,e1,e2,e3,e4,e5,hG,hC,e6⟩:=h;obtain⟨el',pr',la',ri',mm',h0,h4,e1',e2',e3',e4',e5',h2,h3,e6'⟩:=h';obtain⟨rfl,rfl,rfl,rfl⟩:=hf.eq h0 h1 hk;obtain⟨k,tab,words,images,accept,plus⟩:=S;obtain⟨k',tab',words',images',accept',plus'⟩:=S';simp only at *;subst e1 e2 e3 e4 e5 e1' e2' e3' e4' e5';rw[bX,qCP]at e6 e6';rw[e6,e6',qKB hG hC h2 h3]
theorem oC.eq {d:DfaV}{S S':SynV}(h:oC d S)(h':oC d S'):S=S':=by
 obtain⟨n,k,m,M,hd,rfl,hM,hm,hS⟩:=h;obtain⟨n',k',m',M',h0,rfl,h2,h3,h1⟩:=h';have ek:k=k':=by have:=hd.hk;have:=h0.hk;omega
 subst ek;have em:m=m':=by rw[<-hM.hn,<-h2.hn]
 subst em;exact hS.eq h1 hM.n1 (by rw[vM];exact hM.k1)
open Go.RowKit
structure SynI where
 k:Int
 tab:List (List Int)
 words:List ByteArray
 images:List Int
 accept:List Bool
 plus:List Bool
def SynV.I (S:SynV):SynI:=⟨S.k,tabI S.tab,S.words.map fun u=>strOfNums (lets u),S.images.map fun(x:Nat)=>(x:Int),S.accept,S.plus⟩
def cX (B:Nat)(w:World)(v:Value)(I:SynI):Prop:=∃vT vW vI vA vP,v=.agg #[.int .i64 I.k,vT,vW,vI,vA,vP]/\Mat B w vT I.tab/\Row B w vW (sH I.words)/\Row B w vI (ints I.images)/\Row B w vA (bls I.accept)/\Row B w vP (bls I.plus)
theorem cX.kept {B:Nat}{w w':World}{v:Value}{I:SynI}(h:cX B w v I)(hg:w.grownBy w' none):cX B w' v I:=by
 obtain⟨vT,vW,vI,vA,vP,rfl,h1,h2,h3,h4,h5⟩:=h;exact⟨vT,vW,vI,vA,vP,rfl,h1.kept hg (by simp),h2.kept hg (by simp),h3.kept hg (by simp),h4.kept hg (by simp),h5.kept hg (by simp)⟩
theorem kT.toI {B:Nat}{w:World}{v:Value}{S:SynV}(h:kT B w v S):cX B w v S.I:=by
 obtain⟨vT,vW,vI,vA,vP,rfl,h1,h2,h3,h4,h5⟩:=h;refine⟨vT,vW,vI,vA,vP,rfl,h1.tmat.mat,?_,?_,h4.row,h5.row⟩
 ·have:sH (S.I).words=tZ S.words:=by simp[sH,SynV.I,tZ]
  rw[this];exact h2.row
 have:=h3.row;rw[aJ]at this;exact this
def tM (I:SynI):Bool:=decide ((1<=I.k/\I.k<=6/\1<=I.tab.length/\I.tab.length<=400)/\I.words.length=I.tab.length/\I.accept.length=I.tab.length/\I.plus.length=I.tab.length/\(I.images.length:Int)=I.k) && (I.tab.all fun r=>decide (r.length=I.tab.length) && inR I.tab.length r) && inR I.tab.length I.images
theorem mC {I:SynI}(h:tM I=true):(1<=I.k/\I.k<=6/\1<=I.tab.length/\I.tab.length<=400)/\(I.words.length=I.tab.length/\I.accept.length=I.tab.length/\I.plus.length=I.tab.length/\(I.images.length:Int)=I.k)/\(∀r∈I.tab,r.length=I.tab.length/\inR I.tab.length r=true)/\inR I.tab.length I.images=true:=by
 unfold tM at h;rw[Bool.and_eq_true,Bool.and_eq_true,decide_eq_true_eq,List.all_eq_true]at h;refine⟨h.1.1.1,h.1.1.2,fun r hr=>?_,h.2⟩;have:=h.1.2 r hr;rw[Bool.and_eq_true,decide_eq_true_eq]at this;exact this
theorem qDI {I:SynI}(h:¬((1<=I.k/\I.k<=6/\1<=I.tab.length/\I.tab.length<=400)/\I.words.length=I.tab.length/\I.accept.length=I.tab.length/\I.plus.length=I.tab.length/\(I.images.length:Int)=I.k)):tM I=false:=by
 unfold tM;rw[decide_eq_false h];rfl
theorem iM {I:SynI}{r:List Int}(hr:r∈I.tab)(h:¬(r.length=I.tab.length/\inR I.tab.length r=true)):tM I=false:=by
 rcases hb:tM I with _|_
 ·rfl
 exact absurd ((mC hb).2.2.1 r hr) h
theorem qAP {I:SynI}(h:(1<=I.k/\I.k<=6/\1<=I.tab.length/\I.tab.length<=400)/\I.words.length=I.tab.length/\I.accept.length=I.tab.length/\I.plus.length=I.tab.length/\(I.images.length:Int)=I.k)(hr:∀x,x<I.tab.length->(I.tab.getD x []).length=I.tab.length/\inR I.tab.length (I.tab.getD x [])=true):tM I=inR I.tab.length I.images:=by
 unfold tM;rw[decide_eq_true h,List.all_eq_true.2 (fun r hm=>?_)]
 ·rfl
 obtain⟨i,hi,rfl⟩:=List.getElem_of_mem hm;have:=hr i hi;rw[zN hi]at this;rw[Bool.and_eq_true,decide_eq_true_eq];exact this
def qPS (I:SynI)(x:Nat):Prop:=∀y,y<x->(I.tab.getD y []).length=I.tab.length/\inR I.tab.length (I.tab.getD y [])=true
theorem qDH (B:Nat)(w:World)(v:Value)(I:SynI)(h:cX B w v I):Calls Try.prog 52 #[v] w fun e w'=>e=.returned (.bool (tM I))/\w.grownBy w' none:=by
 obtain⟨vT,vW,vI,vA,vP,rfl,hT,hW,hI,hA,hP⟩:=h;obtain⟨tA,tC,rfl⟩:=hT.shape;obtain⟨wA,wC,rfl⟩:=hW.shape;obtain⟨iA,iC,rfl⟩:=hI.shape;obtain⟨aA,aC,rfl⟩:=hA.shape;obtain⟨pA,pC,rfl⟩:=hP.shape;obtain⟨n,hn⟩:=Nm I.tab.length;obtain⟨wn,H6⟩:=Nm ((sH I.words).length);obtain⟨iN,H4⟩:=Nm ((ints I.images).length);obtain⟨an,a7⟩:=Nm ((bls I.accept).length);obtain⟨pn,a1⟩:=Nm ((bls I.plus).length);obtain⟨k,hk⟩:=Nm I.k;rw[<-hn,<-H6,<-H4,<-a7,<-a1,<-hk];rw[<-hn]at hT;rw[<-H4]at hI;have H7:wn=I.words.length:=by rw[H6];simp[sH]
 have a3:iN=I.images.length:=by rw[H4,zO]
 have a8:an=I.accept.length:=by rw[a7,zZ]
 have a2:pn=I.plus.length:=by rw[a1,zZ]
 obtain⟨w1,H3⟩:=Nm (w.alloc (.cells #[.int .i64 k,.slice tA n tC,.slice wA wn wC,.slice iA iN iC,.slice aA an aC,.slice pA pn pC] 44));have H5:w.grownBy w1 none:=by rw[H3];exact Ga w _ none
 have a4:=heap_alloc_new w (.cells #[.int .i64 k,.slice tA n tC,.slice wA wn wC,.slice iA iN iC,.slice aA an aC,.slice pA pn pC] 44);obtain⟨P,a9⟩:=Nm w.heap.size;rw[<-H3,<-a9]at a4;obtain⟨q0,q1,q2,q3,q4,q5⟩:=zV a4;have HT:=Kh (hT.kept H5 (by simp));have HI:=Kh (hI.kept H5 (by simp));obtain⟨h0,c3,c6,HN,c2,c7⟩:=K6 H5 H3 a9 hn H7 a3;obtain⟨c8,c5,HK⟩:=K3 a8 a2 hk;have H0:Hid (¬((1<=k/\k<=6/\1<=n/\n<=400)/\wn=n/\an=n/\pn=n/\(iN:Int)=k)->tM I=false):=Kh (fun h=>qDI (by rw[<-hn,<-H7,<-a3,<-a8,<-a2,<-hk];exact h));obtain⟨R,hR⟩:=Nm (tM I);rw[<-hR]at H0⊢;have b2:=Kh hR;clear hT hW hI hA hP hn H6 H4 a7 a1 H7 a3 a8 a2 H5 a4 H3 a9 hk hR;go_enter Try.func52,Try.ntmps52;go_upto_region 1 with fail;rw[<-c3.out,<-c6.out];by_cases h1:k<1
 ·go_wp2
  go_ret;exact⟨yT (H0.out (by omega)).symm,h0.out⟩
 by_cases h2:6<k
 ·go_wp2
  go_ret;exact⟨yT (H0.out (by omega)).symm,h0.out⟩
 by_cases h3:(n:Int)<1
 ·go_wp2
  go_ret;exact⟨yT (H0.out (by omega)).symm,h0.out⟩
 by_cases h4:400<(n:Int)
 ·go_wp2
  go_ret;exact⟨yT (H0.out (by omega)).symm,h0.out⟩
 by_cases h5:wn=n
 case neg =>
  have e5:((wn:Int) != (n:Int))=true:=by rw[bne_iff_ne];omega
  go_wp2;go_ret;exact⟨yT (H0.out (by omega)).symm,h0.out⟩
 have e5:((wn:Int) != (n:Int))=false:=by rw[bne_eq_false_iff_eq];omega
 by_cases h6:an=n
 case neg =>
  have e6:((an:Int) != (n:Int))=true:=by rw[bne_iff_ne];omega
  go_wp2;go_ret;exact⟨yT (H0.out (by omega)).symm,h0.out⟩
 have e6:((an:Int) != (n:Int))=false:=by rw[bne_eq_false_iff_eq];omega
 by_cases h7:pn=n
 case neg =>
  have e7:((pn:Int) != (n:Int))=true:=by rw[bne_iff_ne];omega
  go_wp2;go_ret;exact⟨yT (H0.out (by omega)).symm,h0.out⟩
 have e7:((pn:Int) != (n:Int))=false:=by rw[bne_eq_false_iff_eq];omega
 by_cases h8:(iN:Int)=k
 case neg =>
  have e8:((iN:Int) != k)=true:=by rw[bne_iff_ne];omega
  go_wp2;go_ret;exact⟨yT (H0.out (by omega)).symm,h0.out⟩
 have e8:((iN:Int) != k)=false:=by rw[bne_eq_false_iff_eq];omega
 have b0:Hid ((1<=k/\k<=6/\1<=n/\n<=400)/\wn=n/\an=n/\pn=n/\(iN:Int)=k):=Kh (by omega);obtain⟨tb,tf,tc,A,C,et,c0,b5,b6⟩:=HT.out.some_ (by have:=HN.out;omega);simp only[Value.slice.injEq]at et;obtain⟨rfl,c1,rfl⟩:=et;clear c1;have b4:=Kh b6;have b9:tC<=9223372036854775807:=by unfold maxLen at b5;omega
 rw[<-HN.out]at c0;have a6:Hid (∀x,x<n->∃a c,w1.cell? ⟨tb,tf+x,none⟩=some (.slice a (I.tab.getD x []).length c)/\Row B w1 (.slice a (I.tab.getD x []).length c) (ints (I.tab.getD x []))):=Kh (fun x hx=>⟨_,_,b4.out.hd x (by rw[<-HN.out];exact hx),b4.out.row x (by rw[<-HN.out];exact hx)⟩);clear b6 b5 h5 h6 h7 h8 H0 b4;go_wp2
 go_loopg [5,55] n (fun gh a5 a55 wr=>∃x:Nat,gh+x=n/\a55=.int .i64 x/\qPS I x/\wr=w1)
 case atStart=>exact⟨0,rfl,rfl,fun y hy=>by omega,rfl⟩
 obtain⟨x,hg,rfl,hr,rfl⟩:=hrel;have HG:=Kh hg;have HR:=Kh hr;clear hg hr;by_cases hx:x<n
 ·have b8:(x:Int)<n:=by omega
  obtain⟨a,c,hc,H1⟩:=a6.out x hx;have HM:Hid (I.tab.getD x []∈I.tab):=Kh (uP (by rw[<-HN.out];exact hx));obtain⟨r,H8⟩:=Nm (I.tab.getD x []);rw[<-H8]at hc H1 HM;obtain⟨rl,a0⟩:=Nm r.length;rw[<-a0]at hc H1;obtain⟨c4,b7,b1⟩:=K3 H8 a0 H1;clear H8 a0 H1;by_cases h9:rl=n
  case neg =>
   have e9:((rl:Int) != (n:Int))=true:=by rw[bne_iff_ne];omega
   go_wp2;go_ret;exact⟨yT (by rw[b2.out,iM HM.out (fun h=>h9 (by rw[b7.out,h.1,HN.out]))]),h0.out⟩
  have e9:((rl:Int) != (n:Int))=false:=by rw[bne_eq_false_iff_eq];omega
  have H2:=Kh (fL B wr _ r n b1.out);obtain⟨b,hb⟩:=Nm (inR n r);rw[<-hb]at H2;have HB:=Kh hb;have H9:=Kh h9;clear hb h9;go_wp2_with fail;refine H2.out.mono ?_;rintro e w2 ⟨rfl,rfl⟩;cases b with
  | false =>
   go_wp2;go_ret;exact⟨yT (by rw[b2.out,iM HM.out (fun h=>by have h2:=h.2;rw[<-HN.out,<-HB.out]at h2;exact absurd h2 (by decide))]),h0.out⟩
  | true =>
   go_wp2;go_roundg (n-(x+1))
   case measure=>have:=HG.out;omega
   refine⟨x+1,by have:=HG.out;omega,by go_num,fun y hy=>?_,rfl⟩;rcases Nat.lt_or_ge y x with h|h
   ·exact HR.out y h
   have:y=x:=by omega
   subst this;rw[<-c4.out,<-b7.out,<-HN.out,<-HB.out];exact⟨H9.out,rfl⟩
 have b8:¬(x:Int)<n:=by omega
 have b3:Hid (R=inR n I.images):=Kh (by
  have hy:=b0.out;rw[HN.out,c2.out,c7.out,c8.out,c5.out,HK.out]at hy;rw[b2.out,HN.out]
  exact qAP hy (fun y hy=>HR.out y (by have:=HG.out;have:=HN.out;omega)))
 have H2:=Kh (fL B wr _ I.images n HI.out);rw[<-b3.out]at H2;go_wp2_with fail;refine H2.out.mono ?_;rintro e w2 ⟨rfl,rfl⟩;go_wp2;go_ret;exact⟨rfl,h0.out⟩
theorem RowT.len_le {B e:Nat}{w:World}{v:Value}{xs:List Value}(h:RowT B e w v xs):xs.length<=maxLen:=h.row.len_le
theorem Mat.of_rowT {w:World}{B e:Nat}{v:Value}{hs:List Value}{t:List (List Int)}(h:RowT B e w v hs)(hr:tG B 3 ints w hs t)(hB:B<=w.heap.size):Mat w.heap.size w v t:=by
 have h0:=hr.1;rcases h with ⟨rfl,rfl⟩|⟨b,off,cap,cur,m,rfl,hb,hc1,hc2,hg,hcell⟩
 ·exact .inl ⟨_,_,rfl,List.eq_nil_of_length_eq_zero (by simpa using h0.symm)⟩
 have h3:∀x,∃a c,x<t.length->hs.getD x (.int .i64 0)=.slice a (t.getD x []).length c:=by
  intro x;by_cases hx:x<t.length
  ·have h1:=hr.2 x (by omega) hx
   obtain⟨a,c,e⟩:=h1.shape;refine⟨a,c,fun _=>?_⟩;rw[zN (by omega),e,zO,zN hx]
  exact⟨none,0,fun h=>absurd h hx⟩
 obtain⟨A,hA⟩:=Classical.axiomOfChoice h3;obtain⟨C,hC⟩:=Classical.axiomOfChoice hA;refine .inr ⟨b,off,cap,A,C,by rw[h0],by omega,hc2,zR hg,zR hg,fun x hx=>?_,fun x hx=>?_⟩
 ·rw[cell_of_row w b (off+x) _ _ _ hg,hcell x (by omega),<-hC x hx,zN (show x<hs.length by omega)]
 have h1:=hr.2 x (by omega) hx;have h2:=hC x hx;rw[zN (show x<hs.length by omega)]at h2;rw[<-h2,zN hx];exact h1.row.mono hB
def DfaT (w:World)(f nx:Value)(d:DfaV):Prop:=∃hs,RowT w.heap.size 4 w f (bls d.final)/\RowT w.heap.size 22 w nx hs/\tG w.heap.size 3 ints w hs d.next
section
variable {w w':World} {f nx:Value} {d:DfaV}
theorem DfaT.kept {row:Option Nat}(h:DfaT w f nx d)(hg:w.grownBy w' row)(h1:∀k,row=some k->xI w 4 k/\xI w 22 k/\xI w 3 k):DfaT w' f nx d:=by
 obtain⟨hs,a,b,c⟩:=h;exact⟨hs,(a.kept hg (fun k hk=>.inr (h1 k hk).1)).mono hg.size,(b.kept hg (fun k hk=>.inr (h1 k hk).2.1)).mono hg.size,(c.kept hg (fun k hk=>.inr (h1 k hk).2.2)).mono hg.size⟩
theorem DfaT.grow (h:DfaT w f nx d)(hg:w.grownBy w' none):DfaT w' f nx d:=h.kept hg (by simp)
theorem DfaT.zero (w:World):DfaT w (.slice none 0 0) (.slice none 0 0) qPA:=⟨[],.inl ⟨rfl,rfl⟩,.inl ⟨rfl,rfl⟩,tG.nil⟩
theorem DfaT.ok (h:DfaT w f nx d):rB w.heap.size w (.agg #[.int .i64 d.letters,.int .i64 d.start,f,nx]) d:=by
 obtain⟨hs,a,b,c⟩:=h;exact⟨_,_,rfl,a.row,Mat.of_rowT b c (Nat.le_refl _)⟩
end
theorem tJ.t {w w':World}{v:Value}{m:DfaV}(h:tJ w w' v m):∃f nx,v=.agg #[.int .i64 m.letters,.int .i64 m.start,f,nx]/\DfaT w' f nx m:=by
 obtain⟨o,hs,sf,cf,sn,cn,rfl,_,hb⟩:=h;exact⟨_,_,rfl,hs,RowT.of_owns hb.ownF,RowT.of_owns hb.ownN,hb.rows⟩
open Go.Maps
def autI (I:SynI):DfaV:=⟨I.k,0,I.accept,I.tab.map fun r=>I.images.map fun y=>r.getD y.toNat 0⟩
theorem pZ (I:SynI):(autI I).next.length=I.tab.length:=by simp[autI]
theorem qCY {I:SynI}{x:Nat}(hx:x<I.tab.length):(autI I).next.getD x []=I.images.map fun y=>(I.tab.getD x []).getD y.toNat 0:=by
 rw[autI,xS (x:=[]) hx]
def aRow (r:List Int)(k j:Nat):List Int:=r.take j++List.replicate (k-j) 0
theorem qIJ (r:List Int)(k:Nat):aRow r k 0=List.replicate k 0:=by simp[aRow]
theorem qLH {r:List Int}{k j:Nat}(hl:r.length=k)(hj:j<k):(aRow r k j).set j (r.getD j 0)=aRow r k (j+1):=by
 have e:(r.take j).length=j:=by simp[hl];omega
 rw[aRow,List.set_append_right _ _ (by omega),e,Nat.sub_self,show k-j=(k-(j+1))+1 by omega,List.replicate_succ,List.set_cons_zero,aRow,yF (d:=0) (by omega),List.append_assoc];rfl
theorem qLI {r:List Int}{k:Nat}(hl:r.length=k):aRow r k k=r:=by rw[aRow,Nat.sub_self,List.take_of_length_le (by omega)];simp
theorem qKH (l:List Int)(i:Nat)(c:Int):(ints l).set i (.int .i64 c)=ints (l.set i c):=by simp[ints,List.map_set]
theorem cD {n:Nat}{zs:List Int}(h:inR n zs=true){i:Nat}(hi:i<zs.length):∃y:Nat,zs.getD i 0=(y:Int)/\y<n:=by
 unfold inR at h;have h1:=List.all_eq_true.1 h _ (uP (d:=0) hi);have h2:=of_decide_eq_true h1;exact⟨(zs.getD i 0).toNat,by omega,by omega⟩
section
variable {w6 w:World} {o k m ng sc:Nat} {sa:Option Addr} {ac:List Bool} {hs:List Value} {dn:List (List Int)}
theorem AutS.read (h:AutS w6 o k m ng sa sc ac hs dn [] w)(hd:dn.length=m):w.heap[o]?=some (.cells #[.int .i64 (k:Int),.int .i64 0,.slice sa m sc,.slice (some ⟨ng,0,none⟩) m m] 37 (0,0))/\RowT w.heap.size 4 w (.slice sa m sc) (bls ac)/\RowT w.heap.size 22 w (.slice (some ⟨ng,0,none⟩) m m) hs/\tG w.heap.size 3 ints w hs dn:=by
 obtain⟨X,hB,hT⟩:=h;have h1:=hB.own (r:=⟨w6.heap.size,4,.slice sa m sc,m,bls ac,1⟩) (by simp);have h2:=hB.own (r:=⟨w6.heap.size,22,.slice (some ⟨ng,0,none⟩) m m,m,hs,1⟩) (by simp);rw[List.take_of_length_le (by have:=h2.1;simp only at this;omega)]at hT;exact⟨hB.box,RowT.of_owns h1,RowT.of_owns h2,hT.rowsT⟩
end
theorem cV (B:Nat)(w:World)(v:Value)(I:SynI)(a8:B<=w.heap.size)(h:cX B w v I)(a9:tM I=true):Calls Try.prog 53 #[v] w fun e w'=>∃v',e=.returned v'/\rB w'.heap.size w' v' (autI I)/\w.grownBy w' none:=by
 obtain⟨⟨k1,k6,m1,m4⟩,⟨e7,H4,f4,c9⟩,h4,H8⟩:=mC a9;obtain⟨vT,vW,vI,vA,vP,rfl,hT,hW,hI,hA,hP⟩:=h;obtain⟨wA,wC,rfl⟩:=hW.shape;obtain⟨pA,pC,rfl⟩:=hP.shape;obtain⟨m,hm⟩:=Nm I.tab.length;obtain⟨k,hk⟩:=Nm I.images.length;obtain⟨wn,b8⟩:=Nm ((sH I.words).length);obtain⟨pn,c5⟩:=Nm ((bls I.plus).length);obtain⟨aA,aC,rfl⟩:=hA.shape;have ean:(bls I.accept).length=m:=by rw[zZ,H4,hm]
 have eik:I.k=(k:Int):=by rw[<-c9,hk]
 obtain⟨tb,tf,tC,A,C,rfl,e9,b9,a0⟩:=hT.some_ (by omega);obtain⟨ib,io,iC,rfl,_,f7,d0,c8⟩:=hI.some_ (by rw[zO];omega);rw[zO,<-hk]at f7⊢;rw[<-hm]at e9 H8 m1 m4⊢;rw[ean]at hA⊢;rw[<-b8,<-c5,eik];rw[eik]at k1 k6
 have h8:∀x,x<m->∃rb ro rc,w.cell? ⟨tb,tf+x,none⟩=some (.slice (some ⟨rb,ro,none⟩) m rc)/\(m<=rc/\rc<=maxLen)/\∀y,y<m->w.cell? ⟨rb,ro+y,none⟩=some (.int .i64 ((I.tab.getD x []).getD y 0)):=fun x hx=>by
  have hl:(I.tab.getD x []).length=m:=by rw[(h4 _ (uP (by omega))).1,hm]
  have h1:=a0.hd x (by omega);have h2:=a0.row x (by omega);rw[hl]at h1 h2;obtain⟨rb,ro,rc,e,_,c1,c2,c3⟩:=h2.some_ (by rw[zO,hl];omega);rw[zO,hl]at e c1;rw[e]at h1;exact⟨rb,ro,rc,h1,⟨c1,c2⟩,fun y hy=>c3.int y (by rw[hl];exact hy)⟩
 have H0:∀a,a<k->∃y:Nat,w.cell? ⟨ib,io+a,none⟩=some (.int .i64 (y:Int))/\y<m/\I.images.getD a 0=(y:Int):=fun a ha=>by
  obtain⟨y,e,hy⟩:=cD H8 (i:=a) (by omega);exact⟨y,by rw[<-e];exact c8.int a (by omega),hy,e⟩
 obtain⟨w1,h7⟩:=Nm (w.alloc (.cells #[.int .i64 (k:Int),.slice (some ⟨tb,tf,none⟩) m tC,.slice wA wn wC,.slice (some ⟨ib,io,none⟩) k iC,.slice aA m aC,.slice pA pn pC] 44));have g1:w.grownBy w1 none:=by rw[h7];exact Ga w _ none
 have n1:=heap_alloc_new w (.cells #[.int .i64 (k:Int),.slice (some ⟨tb,tf,none⟩) m tC,.slice wA wn wC,.slice (some ⟨ib,io,none⟩) k iC,.slice aA m aC,.slice pA pn pC] 44);have b6:w1.heap.size=w.heap.size+1:=by rw[h7];simp
 rw[<-h7]at n1;obtain⟨w2,H2⟩:=Nm (w1.alloc (.cells #[.int .i64 0,.int .i64 0,.slice none 0 0,.slice none 0 0] 37));have g2:w1.grownBy w2 none:=by rw[H2];exact Ga w1 _ none
 have n2:=heap_alloc_new w1 (.cells #[.int .i64 0,.int .i64 0,.slice none 0 0,.slice none 0 0] 37);rw[<-H2,b6]at n2;obtain⟨P,a1⟩:=Nm w.heap.size;rw[<-a1]at n1 n2;have d7:=zB n1 g2;have H3:=zC g1 g2;obtain⟨b0,b1,e5,g8,HG,f9⟩:=K6 h8 H0 d7 n2 H3 h7;obtain⟨f8,d9,HM,HK⟩:=K4 H2 a1 hm hk;have HA:=Kh (hA.kept H3 (by simp));have i1:=Kh H4;have g5:=Kh eik
 have d5:∀W:World,w2.grownBy W none->Calls Try.prog 75 #[.slice aA m aC] W fun e w'=>∃sa sc,e=.returned (.slice sa m sc)/\w'.ownsRow W.heap.size 4 1 (.slice sa m sc) m (bls I.accept)/\W.grownBy w' none:=fun W hW=>by
  have:=qET B W (.slice aA m aC) I.accept ((hA.kept H3 (by simp)).kept hW (by simp)) (by omega) (by omega);rw[H4,<-hm]at this;exact this
 have g7:=Kh d5;have e8:tC<=9223372036854775807:=by unfold maxLen at b9;omega
 have f6:iC<=9223372036854775807:=by unfold maxLen at d0;omega
 clear h4 H8 hT hW hI hA hP hm hk b8 c5 a0 c8 b9 d0 h8 H0 d7 n1 n2 g1 g2 H3 h7 H2 a1 e7 H4 f4 c9 ean a9 d5 b6 eik;have k6':k<=6:=by omega
 have k1':1<=k:=by omega
 clear k1 k6;go_enter Try.func53,Try.ntmps53;go_upto_region 1 with fail;rw[<-f9.out,<-d9.out,<-f8.out];obtain⟨q0,q1,q2,q3,q4,q5⟩:=zV e5.out;refine qMT (k:=k) (m:=m) (ac:=I.accept) m4 ⟨q0,q4,q1⟩ g7.out ?_;intro z8 z9 z10 z11 z12 z13 z14 z15 z16 z17 w6 w7 o ng sa sc d3 a2;have e0:Hid (AutS w6 o k m ng sa sc I.accept (List.replicate m (.slice none 0 0)) ((autI I).next.take 0) [] w7):=Kh a2;have b4:=Kh d3;have H6:Hid (∀W:World,w6.grownBy W none->W.heap[P]?=some (.cells #[.int .i64 (k:Int),.slice (some ⟨tb,tf,none⟩) m tC,.slice wA wn wC,.slice (some ⟨ib,io,none⟩) k iC,.slice aA m aC,.slice pA pn pC] 44 (0,0))/\w.grownBy W none):=Kh (fun W hW=>⟨zB e5.out (zC b4.out hW),zC (zC HG.out b4.out) hW⟩);obtain⟨q0,q1,q2,q3,q4,q5⟩:=zV (H6.out _ a2.g).1;clear a2 d3;go_wp2
 go_loopg [4,5,6,7,21] m (fun gh a4 a5 a6 a7 a21 wr=>∃(x:Nat) (hs:List Value),gh+x=m/\a21=.int .i64 x/\AutS w6 o k m ng sa sc I.accept hs ((autI I).next.take x) [] wr)
 case atStart=>exact⟨0,_,rfl,rfl,e0.out⟩
 clear e0 q0 q1 q2 q3 q4 q5;obtain⟨x,hs,d2,rfl,h6⟩:=hrel;have b3:=Kh d2;have h3:=Kh h6;obtain⟨d6,h0⟩:=H6.out _ h6.g;obtain⟨q0,q1,q2,q3,q4,q5⟩:=zV d6;clear d2 h6 d6 q1 q2 q3 q4 q5;by_cases hx:x<m
 ·have e6:(x:Int)<m:=by omega
  obtain⟨rb,ro,rc,cr,c4,c0⟩:=b0.out x hx;have cr:=zJ cr h0;have g0:=Kh c0;have g3:=Kh c4;have e3:Hid (((autI I).next.take x).length=x):=Kh (by rw[List.length_take,pZ,<-HM.out];omega);have d8:Hid (((autI I).next.getD x []).length=k):=Kh (by rw[qCY (by rw[<-HM.out];exact hx),List.length_map,<-HK.out]);clear c0 c4 h0;go_upto_region 5 with fail;refine qMS h3.out hx e3.out m4 k6' q0 ?_;intro z26 z27 z28 z29 z30 z31 z32 w9 cg h9
  have e2:Hid ((hs.set x (.slice (some ⟨cg,0,none⟩) k k))[x]?=some (.slice (some ⟨cg,0,none⟩) k k)):=Kh (by
   have:=h9.cells.2.2;rw[List.length_set]at this
   rw[List.getElem?_set_self (by omega)])
  rw[<-qIJ ((autI I).next.getD x [])]at h9;have H9:=Kh h9;obtain⟨p0,p1,p2,p3,p4,p5⟩:=zV (H6.out _ h9.g).1;clear h9 cr q0 p0 p1 p2 p4 p5 h3;go_wp2
  go_loopg [6,7,36] k (fun gh a6 a7 a36 wr=>∃j:Nat,gh+j=k/\a36=.int .i64 j/\AutS w6 o k m ng sa sc I.accept (hs.set x (.slice (some ⟨cg,0,none⟩) k k)) ((autI I).next.take x) (⟨w6.heap.size,3,.slice (some ⟨cg,0,none⟩) k k,k,ints (aRow ((autI I).next.getD x []) k j),1⟩::[]) wr)
  case atStart=>exact⟨0,rfl,rfl,H9.out⟩
  clear H9 p3;obtain⟨j,d1,rfl,h6⟩:=hrel;have b2:=Kh d1;have h3:=Kh h6;have h0:=(H6.out _ h6.g).2;have i0:=Kh h0;clear d1 h6;by_cases hj:j<k
  ·have f5:(j:Int)<k:=by omega
   obtain⟨y,ci,hy,ey⟩:=b1.out j hj;have ci:=zJ ci h0;have cz:=zJ (g0.out y hy) h0
   have hz:(I.tab.getD x []).getD y 0=((autI I).next.getD x []).getD j 0:=by
    rw[qCY (by rw[<-HM.out];exact hx),xS (x:=0) (by rw[<-HK.out];exact hj),ey,Int.toNat_natCast]
   rw[hz]at cz;clear h0 hz ey;go_upto_region 9 with fail;refine qNV h3.out hx hj hy m4 k6' e2.out cz g3.out ?_;intro z41 z42 z43 z44 z45 z46 z47 z48 z49 z50 z51 w10 a3;rw[qKH,qLH d8.out hj]at a3;have b5:=Kh a3;clear a3 ci cz h3;go_wp2;go_roundg (k-(j+1))
   case measure=>have:=b2.out;omega
   exact⟨j+1,by have:=b2.out;omega,by go_num,b5.out⟩
  have c7:j=k:=by have:=b2.out;omega
  have f5:¬(j:Int)<k:=by omega
  have b5:Hid (AutS w6 o k m ng sa sc I.accept (hs.set x (.slice (some ⟨cg,0,none⟩) k k)) ((autI I).next.take (x+1)) [] wr):=Kh (by
   have:=h3.out;rw[c7,qLI d8.out]at this;have:=this.fin e3.out hx e2.out;rw[yF (d:=[]) (by rw[pZ,<-HM.out];exact hx)]
   exact this)
  clear h0 h3 c7;go_wp2;go_roundg (m-(x+1))
  case measure=>have:=b3.out;omega
  exact⟨x+1,_,by have:=b3.out;omega,by go_num,b5.out⟩
 have b7:x=m:=by have:=b3.out;omega
 have e6:¬(x:Int)<m:=(by omega);have H5:=h3.out;rw[b7,List.take_of_length_le (by rw[pZ,<-HM.out];exact Nat.le_refl _)]at H5;obtain⟨d4,hf,hn,c6⟩:=H5.read (by rw[pZ,<-HM.out]);have h5:=zB g8.out (zC b4.out H5.g);obtain⟨p0,p1,p2,p3⟩:=zP d4;obtain⟨r0,r1,r2,r3⟩:=zP h5;have f0:=zA h5 0;have f1:=zA h5 1;have f2:=zA h5 2;have f3:=zA h5 3;obtain⟨HF,HN,g4,e4,g6⟩:=K5 hf hn c6 h5 h0;clear H5 d4 hf hn c6 h5 h0 h3 b7 q0;go_wp2;refine bodyPost_ret (v:=.agg #[.int .i64 (k:Int),.int .i64 0,.slice sa m sc,.slice (some ⟨ng,0,none⟩) m m]) (by simp[results,Try.results53,go_sem,r0,r1,r2,r3]) rfl ?_;obtain⟨g9,H1⟩:=rT e4.out (.int .i64 (k:Int)) (.int .i64 0) (.slice sa m sc) (.slice (some ⟨ng,0,none⟩) m m)
 have H7:∀e',e'≠37->∀j,(some (P+1):Option Nat)=some j->wr.heap.size<=j\/xI wr e' j:=fun e' he j hj=>by
  have hj:=Oj hj;subst hj;exact .inr ⟨_,_,_,e4.out,fun e1=>he e1.symm⟩
 have hz:=H1.size;have eik:I.k=(k:Int):=g5.out;exact⟨_,rfl,⟨_,_,by simp only[autI,eik],((HF.out.kept H1 (H7 _ (by decide))).mono hz).row,Mat.of_rowT (HN.out.kept H1 (H7 _ (by decide))) (g4.out.kept H1 (H7 _ (by decide))) hz⟩,zC g6.out H1 (fun j e=>by have e:P+1=j:=Oj e;have:=d9.out;omega)⟩
theorem qNT {Q:Exit->Act->World->Prop}{v0 v1 v2 v3 v4 v6 v7 v9 x2 x3 x4 x5 x6 x7 x8 x9 t0 t1 t2 t3 t4 t5 t6 t7 t8 t9 s0 s1 s2 s3 s4 s5 s6 s7 s8 s9 r0 r1 r2 r3 r4 r5 r6 r7 r8 r9 q0 q1 q4 q5 q6 q7 q8 p0 p1 p2 p3 p4 p5 p6 p7 p8 p9 o0 o1 o2 o3 o4 o5 o6 o7 o8 o9 n0 n1 n2 n3 n4 n5 n6 n7 n8 n9 m0 m1 m2 m3 m4 m5 m6 m7 m8 m9 l0 l1 l2 g0 g1 g2 g3 g4 g5 g6 g7 g8 g9 f0 f1 f2 f3 f4 f5 f6 f7 f8 e0 e1 e2 l8 l9 k0 k1 k2 k3 k4 k5 k6 k7 k8 k9 j0 j1 j2 j3 j4 j5 j6 j7 j8 j9 i0 i1 i2 i3 i4 i5 i6 i7 e3 e4 e5 e6 e7 e8 e9 d0 d1 d2 d3 d4 d5 d6 d7 d8 d9 c0 c1 c2 c3 c7 c8 c9 b0 b1 b2 b3 b4 b6 b7 b8 b9 a0 a1 a2 a3 a4 a5 a6 a7 a8 a9:Value}{w6 w:World}{o m k tg wg ig ic pg:Nat}{im:List Nat}{l6:List Value}{done:List (List Nat)}{ws:List Value}{ps:List Bool}{i8:List Nat}{cg b5 qb qo qc lb lo lc rb rf rd sb so sc i j p a x y:Nat}(h:MonS w6 o m k tg wg ig ic pg im l6 done ws ps (⟨w6.heap.size,3,.slice (some ⟨cg,0,none⟩) m m,m,nats i8,1⟩::[]) w)(hi:i<m)(hj:j<m)(hp:p<m)(hx:x<m)(ha:a<k)(hm:m<=400)(x1:i8.length=m)(hh:l6[i]?=some (.slice (some ⟨cg,0,none⟩) m m))(cx:i8.getD p 0=x)(c6:w.cell? ⟨b5,6,none⟩=some (.slice (some ⟨rb,rf,none⟩) m rd))(c4:w.cell? ⟨b5,4,none⟩=some (.slice (some ⟨qb,qo,none⟩) m qc))(cq:w.cell? ⟨qb,qo+j,none⟩=some (.int .i64 (p:Int)))(cr:w.cell? ⟨rb,rf+x,none⟩=some (.slice (some ⟨sb,so,none⟩) k sc))(c5:w.cell? ⟨b5,5,none⟩=some (.slice (some ⟨lb,lo,none⟩) m lc))(cl:w.cell? ⟨lb,lo+j,none⟩=some (.int .i64 (a:Int)))(cy:w.cell? ⟨sb,so+a,none⟩=some (.int .i64 (y:Int)))(l4:m<=qc/\qc<=maxLen)(l3:m<=lc/\lc<=maxLen)(l5:m<=rd/\rd<=maxLen)(l7:k<=sc/\sc<=maxLen)(i9:∀(z122 z123 z124 z125 z126 z127 z128 z129 z130 z131 z132 z133 z134 z135 z136 z137 z138 z139 z140 z141 z142 z143 z144 z145 z146 z147 z148 z149 z150 z151:Value) (w':World),MonS w6 o m k tg wg ig ic pg im l6 done ws ps (⟨w6.heap.size,3,.slice (some ⟨cg,0,none⟩) m m,m,nats (i8.set j y),1⟩::[]) w'->Q .normal ⟨(v0::v1::v2::v3::v4::(Value.pointer (some ⟨b5,0,none⟩))::v6::v7::(Value.pointer (some ⟨o,0,none⟩))::v9::(Value.int .i64 (i:Int))::x2::(Value.int .i64 (j:Int))::x3::x4::x5::x6::x7::x8::x9::t0::t1::t2::t3::t4::t5::t6::t7::t8::t9::s0::s1::s2::s3::s4::s5::s6::s7::s8::s9::r0::r1::r2::r3::r4::r5::r6::r7::r8::r9::q0::q1::q4::q5::q6::q7::q8::p0::p1::p2::p3::p4::p5::p6::p7::p8::p9::o0::o1::o2::o3::o4::o5::o6::o7::o8::o9::n0::n1::n2::n3::n4::n5::n6::n7::n8::n9::m0::m1::m2::m3::m4::m5::m6::m7::m8::m9::l0::l1::l2::g0::g1::g2::g3::g4::g5::g6::g7::g8::g9::f0::f1::f2::f3::f4::f5::f6::f7::f8::e0::e1::e2::z122::z123::z124::z125::z126::z127::z128::z129::z130::z131::z132::z133::z134::z135::z136::z137::z138::z139::z140::z141::z142::z143::z144::z145::z146::z147::z148::z149::z150::z151::e3::e4::e5::e6::e7::e8::e9::d0::d1::d2::d3::d4::d5::d6::d7::d8::d9::c0::c1::c2::c3::c7::c8::c9::b0::b1::b2::b3::b4::b6::b7::b8::b9::a0::a1::a2::a3::a4::a5::a6::a7::a8::a9::[]).toArray,[]⟩ w'):Code.wp Try.prog (reg Try.f31 22) Q ⟨(v0::v1::v2::v3::v4::(Value.pointer (some ⟨b5,0,none⟩))::v6::v7::(Value.pointer (some ⟨o,0,none⟩))::v9::(Value.int .i64 (i:Int))::x2::(Value.int .i64 (j:Int))::x3::x4::x5::x6::x7::x8::x9::t0::t1::t2::t3::t4::t5::t6::t7::t8::t9::s0::s1::s2::s3::s4::s5::s6::s7::s8::s9::r0::r1::r2::r3::r4::r5::r6::r7::r8::r9::q0::q1::q4::q5::q6::q7::q8::p0::p1::p2::p3::p4::p5::p6::p7::p8::p9::o0::o1::o2::o3::o4::o5::o6::o7::o8::o9::n0::n1::n2::n3::n4::n5::n6::n7::n8::n9::m0::m1::m2::m3::m4::m5::m6::m7::m8::m9::l0::l1::l2::g0::g1::g2::g3::g4::g5::g6::g7::g8::g9::f0::f1::f2::f3::f4::f5::f6::f7::f8::e0::e1::e2::l8::l9::k0::k1::k2::k3::k4::k5::k6::k7::k8::k9::j0::j1::j2::j3::j4::j5::j6::j7::j8::j9::i0::i1::i2::i3::i4::i5::i6::i7::e3::e4::e5::e6::e7::e8::e9::d0::d1::d2::d3::d4::d5::d6::d7::d8::d9::c0::c1::c2::c3::c7::c8::c9::b0::b1::b2::b3::b4::b6::b7::b8::b9::a0::a1::a2::a3::a4::a5::a6::a7::a8::a9::[]).toArray,[]⟩ w:=by
 obtain⟨h7,h8,H8,H9,y7,y6,y5⟩:=h.cells;have h2:=h.arrC
 have h0:∀W:World,w.grownBy W none->W.cell? ⟨o,1,none⟩=some (.slice (some ⟨tg,0,none⟩) m m)/\W.cell? ⟨tg,i,none⟩=some (.slice (some ⟨cg,0,none⟩) m m)/\W.cell? ⟨b5,6,none⟩=some (.slice (some ⟨rb,rf,none⟩) m rd)/\W.cell? ⟨b5,4,none⟩=some (.slice (some ⟨qb,qo,none⟩) m qc)/\W.cell? ⟨qb,qo+j,none⟩=some (.int .i64 (p:Int))/\W.cell? ⟨cg,p,none⟩=some (.int .i64 (x:Int))/\W.cell? ⟨rb,rf+x,none⟩=some (.slice (some ⟨sb,so,none⟩) k sc)/\W.cell? ⟨b5,5,none⟩=some (.slice (some ⟨lb,lo,none⟩) m lc)/\W.cell? ⟨lb,lo+j,none⟩=some (.int .i64 (a:Int))/\W.cell? ⟨sb,so+a,none⟩=some (.int .i64 (y:Int)):=fun W hg=>by
  have q2:=zF (zB h7 hg) 1;simp only[List.getElem_toArray,List.getElem_cons_zero,List.getElem_cons_succ]at q2;have q3:=(h2.kept hg (by simp)).nat p (by omega);rw[cx]at q3;exact⟨q2,qM (h8.kept hg (by simp)) hh,zJ c6 hg,zJ c4 hg,zJ cq hg,q3,zJ cr hg,zJ c5 hg,zJ cl hg,zJ cy hg⟩
 have h1:∀W:World,w.grownBy W none->∃u,W.cell? ⟨cg,j,none⟩=some u:=fun W hg=>⟨_,(h2.kept hg (by simp)).nat j (by omega)⟩;have h6:∀W:World,w.grownBy W none->W.frozen? ⟨cg,j,none⟩=false:=fun W hg=>(h2.kept hg (by simp)).frozen j;obtain⟨H,y1,y0⟩:=K3 h h1 h6;have y9:(i:Int)<m:=by omega
 have y8:(j:Int)<m:=by omega
 have y4:(p:Int)<m:=by omega
 have y3:(x:Int)<m:=by omega
 have z0:(a:Int)<k:=by omega
 have H5:=l4.1;have H7:=l3.1;have H3:=l5.1;have H1:=l7.1;have H4:qc<=9223372036854775807:=by have:=l4.2;unfold maxLen at this;omega
 have H6:lc<=9223372036854775807:=by have:=l3.2;unfold maxLen at this;omega
 have H2:rd<=9223372036854775807:=by have:=l5.2;unfold maxLen at this;omega
 have H0:sc<=9223372036854775807:=by have:=l7.2;unfold maxLen at this;omega
 clear h h7 h8 H8 H9 h2 h1 h6 c6 c4 cq cr c5 cl cy l4 l3 l5 l7 hh cx;have y2:Hid (∀W:World,w.grownBy W none->W.cell? ⟨o,1,none⟩=some (.slice (some ⟨tg,0,none⟩) m m)/\W.cell? ⟨tg,i,none⟩=some (.slice (some ⟨cg,0,none⟩) m m)/\W.cell? ⟨b5,6,none⟩=some (.slice (some ⟨rb,rf,none⟩) m rd)/\W.cell? ⟨b5,4,none⟩=some (.slice (some ⟨qb,qo,none⟩) m qc)/\W.cell? ⟨qb,qo+j,none⟩=some (.int .i64 (p:Int))/\W.cell? ⟨cg,p,none⟩=some (.int .i64 (x:Int))/\W.cell? ⟨rb,rf+x,none⟩=some (.slice (some ⟨sb,so,none⟩) k sc)/\W.cell? ⟨b5,5,none⟩=some (.slice (some ⟨lb,lo,none⟩) m lc)/\W.cell? ⟨lb,lo+j,none⟩=some (.int .i64 (a:Int))/\W.cell? ⟨sb,so+a,none⟩=some (.int .i64 (y:Int))):=Kh (fun W hg=>h0 W hg);clear h0
 conv=>arg 2;whnf
 obtain⟨w7,h4⟩:=Nm w.drew;have h5:w.grownBy w7 none:=by rw[h4];exact zY w none
 have x0:=Kh h4;have h3:=Kh h5;clear h4 h5;refine wp_region_noPanic ?_;refine yK (G:=xU 30 (fun _=>True) (fun W=>W.cell? ⟨o,1,none⟩=some (.slice (some ⟨tg,0,none⟩) m m)/\W.cell? ⟨tg,i,none⟩=some (.slice (some ⟨cg,0,none⟩) m m)/\W.cell? ⟨b5,6,none⟩=some (.slice (some ⟨rb,rf,none⟩) m rd)/\W.cell? ⟨b5,4,none⟩=some (.slice (some ⟨qb,qo,none⟩) m qc)/\W.cell? ⟨qb,qo+j,none⟩=some (.int .i64 (p:Int))/\W.cell? ⟨cg,p,none⟩=some (.int .i64 (x:Int))/\W.cell? ⟨rb,rf+x,none⟩=some (.slice (some ⟨sb,so,none⟩) k sc)/\W.cell? ⟨b5,5,none⟩=some (.slice (some ⟨lb,lo,none⟩) m lc)/\W.cell? ⟨lb,lo+j,none⟩=some (.int .i64 (a:Int))/\W.cell? ⟨sb,so+a,none⟩=some (.int .i64 (y:Int)))) (by kernel_rfl) ?_;rw[<-x0.out];have C:=Kh (y2.out w7 h3.out);refine zL 0 ⟨trivial,fun _=>C.out⟩ ?_;refine yV 1 ⟨trivial,fun _=>C.out⟩ ?_;refine zL 2 ⟨trivial,fun _=>C.out⟩ ?_;refine zL 3 ⟨trivial,fun _=>C.out⟩ ?_;refine yV 4 ⟨trivial,fun _=>C.out⟩ ?_;refine zL 5 ⟨trivial,fun _=>C.out⟩ ?_;refine zL 6 ⟨trivial,fun _=>C.out⟩ ?_;refine yV 7 ⟨trivial,fun _=>C.out⟩ ?_;refine zL 8 ⟨trivial,fun _=>C.out⟩ ?_;refine yV 9 ⟨trivial,fun _=>C.out⟩ ?_;refine zL 10 ⟨trivial,fun _=>C.out⟩ ?_;refine zL 11 ⟨trivial,fun _=>C.out⟩ ?_;refine yV 12 ⟨trivial,fun _=>C.out⟩ ?_;refine zL 13 ⟨trivial,fun _=>C.out⟩ ?_;refine yV 14 ⟨trivial,fun _=>C.out⟩ ?_;refine zL 15 ⟨trivial,fun _=>C.out⟩ ?_;refine zL 16 ⟨trivial,fun _=>C.out⟩ ?_;refine yV 17 ⟨trivial,fun _=>C.out⟩ ?_;refine zL 18 ⟨trivial,fun _=>C.out⟩ ?_;refine yV 19 ⟨trivial,fun _=>C.out⟩ ?_;refine zL 20 ⟨trivial,fun _=>C.out⟩ ?_;refine yV 21 ⟨trivial,fun _=>C.out⟩ ?_;refine zL 22 ⟨trivial,fun _=>C.out⟩ ?_;refine yV 23 ⟨trivial,fun _=>C.out⟩ ?_;refine zL 24 ⟨trivial,fun _=>C.out⟩ ?_;refine zL 25 ⟨trivial,fun _=>C.out⟩ ?_;refine yV 26 ⟨trivial,fun _=>C.out⟩ ?_;refine zL 27 ⟨trivial,fun _=>C.out⟩ ?_;refine yV 28 ⟨trivial,fun _=>C.out⟩ ?_;refine zL 29 ⟨trivial,fun _=>C.out⟩ ?_;obtain⟨u9,q9⟩:=y1.out w7 h3.out;have f9:=y0.out w7 h3.out;refine oneG (i:=30) (by kernel_rfl) rfl (fun K hK=>?_);go_simp;refine hK.out _ _ ⟨trivial,fun h=>by simp at h⟩ ?_;clear hK K q9 f9
 try simp only[Act.put,sPd,sPe,sPf,sPa,sPb,sPc]
 refine tY (by kernel_rfl) ?_ _;refine NoPanic.normal ?_;have h9:=(H.out.grow h3.out).putC hj (.int .i64 (y:Int));rw[mF]at h9;exact i9 _ _ _ _ _ _ _ _ _ _ _ _ _ _ _ _ _ _ _ _ _ _ _ _ _ _ _ _ _ _  _ h9
end Go.Proofs.Ytobakifdllameaa
namespace Go.Proofs.Ytobakifdllameaa
open Go.RowKit
theorem qHN (B:Nat)(w:World)(v:Value)(xs:List Nat)(y:Nat)(h:Row B w v (nats xs)):Calls Try.prog 73 #[v,.int .i64 (y:Int)] w fun e w'=>(∃z:Int,e=.returned (.int .i64 z)/\((0<=z)↔y∈xs))/\w'=w:=by
 have h2:=h.len_le;rw[zQ]at h2;unfold maxLen at h2;by_cases h0:xs.length=0
 ·have hx:xs=[]:=List.eq_nil_of_length_eq_zero h0
  subst hx;obtain⟨a,c,rfl⟩:=h.nil_ rfl;clear h;go_enter Try.func73,Try.ntmps73;go_wp2
  go_loopg [8] 0 (fun g i wr=>i=.int .i64 0/\wr=w)
  case atStart=>exact⟨rfl,rfl⟩
  obtain⟨rfl,rfl⟩:=hrel;go_wp2;go_ret;exact⟨⟨-1,rfl,by simp⟩,rfl⟩
 obtain⟨b,o,c,rfl,_,h6,h5,hr⟩:=h.some_ (by rw[zQ];omega);have R:=Kh hr;rw[zQ]at h6⊢;clear h hr;unfold maxLen at h5;go_enter Try.func73,Try.ntmps73;go_wp2
 go_loopg [8] xs.length (fun g i wr=>∃k:Nat,g+k=xs.length/\i=.int .i64 k/\y ∉ xs.take k/\wr=w)
 case atStart=>exact⟨0,rfl,rfl,by simp,rfl⟩
 obtain⟨k,hg,rfl,hn,rfl⟩:=hrel;have HG:=Kh hg;have HN:=Kh hn;clear hg hn;by_cases hk:k<xs.length
 ·have h7:(k:Int)<xs.length:=by omega
  have ca:=R.out.nat k hk;obtain⟨x,hx⟩:=Nm (xs.getD k 0);rw[<-hx]at ca;have HX:=Kh hx;clear hx;have h3:Hid (x∈xs):=Kh (by rw[HX.out,List.getD_eq_getElem?_getD,List.getElem?_eq_getElem hk];exact List.getElem_mem hk);by_cases hxy:y=x
  ·subst hxy
   go_wp2;go_ret;exact⟨⟨(k:Int),rfl,fun _=>h3.out,fun _=>by omega⟩,rfl⟩
  have h4:Hid (¬(y:Int)=x):=Kh (by omega);have he:((y:Int) == (x:Int))=false:=by rw[beq_eq_false_iff_ne];exact h4.out
  go_wp2;go_roundg (xs.length-(k+1))
  case measure=>have:=HG.out;omega
  refine⟨k+1,by omega,by go_num,?_,rfl⟩;rw[List.take_add_one,List.mem_append];rintro (h1|h1)
  ·exact HN.out h1
  rw[List.getElem?_eq_getElem hk]at h1;simp only[Option.toList_some,List.mem_singleton]at h1;exact hxy (by rw[HX.out,List.getD_eq_getElem?_getD,List.getElem?_eq_getElem hk];exact h1)
 have HM:Hid (y ∉ xs):=Kh (by
  have:=HN.out
  rwa [List.take_of_length_le (by have:=HG.out;omega)]at this)
 go_wp2;go_ret;exact⟨⟨-1,rfl,fun h1=>by omega,fun h1=>absurd h1 HM.out⟩,rfl⟩
theorem aW (B:Nat)(w:World)(v:Value)(xs:List Nat)(y:Nat)(h:Row B w v (nats xs)):Calls Try.prog 50 #[v,.int .i64 (y:Int)] w fun e w'=>e=.returned (.bool (decide (y∈xs)))/\w'=w:=by
 have HI:=Kh (qHN B w v xs y h);clear h;go_enter Try.func50,Try.ntmps50;go_wp2_with fail;refine HI.out.mono ?_;rintro e w1 ⟨⟨z,rfl,hz⟩,rfl⟩;have HZ:=Kh hz;clear hz;have hd:Hid (decide (y∈xs)=decide (0<=z)):=Kh (by rw[Bool.eq_iff_iff,decide_eq_true_eq,decide_eq_true_eq];exact HZ.out.symm);go_wp2;go_ret;exact⟨yT hd.out.symm,rfl⟩
open Go.Maps
theorem qMN {Q:Exit->Act->World->Prop}{v0 v1 v2 v3 v4 v5 v6 v7 v9 t9 s0 s1 s2 s3 s4 s5 s6 s7 s8 s9 r0 r1 r2 r3 r4 r5 r6 r7 r8 r9 q0 q1 q3 q4 q5 q6 q7 q8 q9 p0 p1 p2 p3 p4 p5 p6 p7 p8 p9 o0 o1 o2 o3 o4 o5 o6 o7 o8 o9 n0 n1 n2 n3 n4 n5 n6 n7 n8 n9 m0 m1 m2 m3 m4 m5 m6 m7 m8 m9 l0 l1 l2 l3 l4 l5 l6 l7 l8 l9 k0 k1 t1 t2 t3 t4 t5 t6 t7 k2 k3 k4 k5 k6 k7 k8 k9 j0 j1 j2 j3 j4 j5 j6 j7 j8 j9 i0 i1 i2 i3 i4 i5 i6 i7 i8 i9 g0 g1 g2 g3 g4 g5 g6 g7 g8 g9 f0 f1 f2 f3 f4 f5 f6 f7 f8 e0 e1 e2 e3 e4 e5 e6 e7 e8 e9 d0 d1 d2 d3 d4 d5 d6 d7 d8 d9 c0 c1 c2 c3 c4 c5 c6 c7 c8 b0 b1 b2 b3 b4 b5 b6 b7 b8 b9 a0 a1 a2 a3 a4 a5 a6 a7 a8:Value}{w6 w:World}{o m k tg wg ig ic pg:Nat}{im:List Nat}{t8:List Value}{done:List (List Nat)}{ws:List Value}{ps:List Bool}{tl:List RowS}{vr:Value}{r:List Nat}{b:Bool}(h:MonS w6 o m k tg wg ig ic pg im t8 done ws ps tl w)(hm:0<m)(t0:m<=400)(hb:ps[0]?=some b)(hr:Row w6.heap.size w vr (nats r))(a9:∀(z93 z94 z95 z96 z97 z98 z99 z100 z101 z102 z103:Value) (w':World),MonS w6 o m k tg wg ig ic pg im t8 done ws (ps.set 0 (b || decide (0∈r))) tl w'->Q .normal ⟨(v0::v1::v2::v3::v4::v5::v6::v7::(Value.pointer (some ⟨o,0,none⟩))::v9::t9::vr::s0::s1::s2::s3::s4::s5::s6::s7::s8::s9::r0::r1::r2::r3::r4::r5::r6::r7::r8::r9::q0::q1::q3::q4::q5::q6::q7::q8::q9::p0::p1::p2::p3::p4::p5::p6::p7::p8::p9::o0::o1::o2::o3::o4::o5::o6::o7::o8::o9::n0::n1::n2::n3::n4::n5::n6::n7::n8::n9::m0::m1::m2::m3::m4::m5::m6::m7::m8::m9::l0::l1::l2::l3::l4::l5::l6::l7::l8::l9::k0::k1::z93::z94::z95::z96::z97::z98::z99::z100::z101::z102::z103::k6::k7::k8::k9::j0::j1::j2::j3::j4::j5::j6::j7::j8::j9::i0::i1::i2::i3::i4::i5::i6::i7::i8::i9::g0::g1::g2::g3::g4::g5::g6::g7::g8::g9::f0::f1::f2::f3::f4::f5::f6::f7::f8::e0::e1::e2::e3::e4::e5::e6::e7::e8::e9::d0::d1::d2::d3::d4::d5::d6::d7::d8::d9::c0::c1::c2::c3::c4::c5::c6::c7::c8::b0::b1::b2::b3::b4::b5::b6::b7::b8::b9::a0::a1::a2::a3::a4::a5::a6::a7::a8::[]).toArray,[]⟩ w'):Code.wp Try.prog (reg Try.f31 16) Q ⟨(v0::v1::v2::v3::v4::v5::v6::v7::(Value.pointer (some ⟨o,0,none⟩))::v9::t9::vr::s0::s1::s2::s3::s4::s5::s6::s7::s8::s9::r0::r1::r2::r3::r4::r5::r6::r7::r8::r9::q0::q1::q3::q4::q5::q6::q7::q8::q9::p0::p1::p2::p3::p4::p5::p6::p7::p8::p9::o0::o1::o2::o3::o4::o5::o6::o7::o8::o9::n0::n1::n2::n3::n4::n5::n6::n7::n8::n9::m0::m1::m2::m3::m4::m5::m6::m7::m8::m9::l0::l1::l2::l3::l4::l5::l6::l7::l8::l9::k0::k1::t1::t2::t3::t4::t5::t6::t7::k2::k3::k4::k5::k6::k7::k8::k9::j0::j1::j2::j3::j4::j5::j6::j7::j8::j9::i0::i1::i2::i3::i4::i5::i6::i7::i8::i9::g0::g1::g2::g3::g4::g5::g6::g7::g8::g9::f0::f1::f2::f3::f4::f5::f6::f7::f8::e0::e1::e2::e3::e4::e5::e6::e7::e8::e9::d0::d1::d2::d3::d4::d5::d6::d7::d8::d9::c0::c1::c2::c3::c4::c5::c6::c7::c8::b0::b1::b2::b3::b4::b5::b6::b7::b8::b9::a0::a1::a2::a3::a4::a5::a6::a7::a8::[]).toArray,[]⟩ w:=by
 obtain⟨h7,H0,h9,h3,H7,H6,H5⟩:=h.cells
 have h0:∀W:World,w.grownBy W none->W.cell? ⟨o,5,none⟩=some (.slice (some ⟨pg,0,none⟩) m m)/\W.cell? ⟨pg,0,none⟩=some (.bool b):=fun W hg=>by
  have q2:=zF (zB h7 hg) 5;simp only[List.getElem_toArray,List.getElem_cons_zero,List.getElem_cons_succ]at q2;exact⟨q2,qM (h3.kept hg (by simp)) (by simp[bls,hb])⟩
 have h5:∀W:World,w.grownBy W none->W.frozen? ⟨pg,0,none⟩=false:=fun W hg=>(h3.kept hg (by simp)).frozen 0;have h6:∀W:World,w.grownBy W none->Calls Try.prog 50 #[vr,.int .i64 ((0:Nat):Int)] W fun e w'=>e=.returned (.bool (decide (0∈r)))/\w'=W:=fun W hg=>aW _ W vr r 0 (hr.kept hg (by simp));obtain⟨H,h8,H2⟩:=K3 h h5 h6;have H4:(0:Int)<m:=by omega
 obtain⟨q,hq⟩:=Nm (decide (0∈r));rw[<-hq]at a9;have HQ:=Kh hq;clear h h7 H0 h9 h3 h5 h6 hr hq;have H3:Hid (∀W:World,w.grownBy W none->W.cell? ⟨o,5,none⟩=some (.slice (some ⟨pg,0,none⟩) m m)/\W.cell? ⟨pg,0,none⟩=some (.bool b)):=Kh (fun W hg=>h0 W hg);clear h0
 conv=>arg 2;whnf
 obtain⟨w7,h2⟩:=Nm w.drew;have h4:w.grownBy w7 none:=by rw[h2];exact zY w none
 have H1:=Kh h2;have h1:=Kh h4;clear h2 h4;refine wp_region_noPanic ?_;refine yK (G:=xU 11 (fun _=>True) (fun W=>W.cell? ⟨o,5,none⟩=some (.slice (some ⟨pg,0,none⟩) m m)/\W.cell? ⟨pg,0,none⟩=some (.bool b))) (by kernel_rfl) ?_;rw[<-H1.out];have C:=Kh (H3.out w7 h1.out);refine zL 0 ⟨trivial,fun _=>C.out⟩ ?_;refine yV 1 ⟨trivial,fun _=>C.out⟩ ?_;refine zL 2 ⟨trivial,fun _=>C.out⟩ ?_;refine yV 3 ⟨trivial,fun _=>C.out⟩ ?_;refine zL 4 ⟨trivial,fun _=>C.out⟩ ?_;refine yV 5 ⟨trivial,fun _=>C.out⟩ ?_;refine zL 6 ⟨trivial,fun _=>C.out⟩ ?_;cases b with
 | true =>
  refine qNR (i:=7) (v:=undef) rfl rfl (by kernel_rfl) (by kernel_rfl) (by kernel_rfl) (fun _ _ _ h=>h) (Or.inr ⟨by rfl,rfl⟩) ⟨trivial,fun _=>C.out⟩ ?_
  try simp only[Act.put,sPd,sPe,sPf,sPa,sPb,sPc]
  refine oneG (i:=8) (by kernel_rfl) rfl (fun K hK=>?_);rw[if_neg (by simp[Region.wanted,yielded])];refine hK.out _ _ ⟨trivial,fun _=>C.out⟩ ?_;clear hK K
  try simp only[Act.put,sPd,sPe,sPf,sPa,sPb,sPc]
  refine zL 9 ⟨trivial,fun _=>C.out⟩ ?_;refine zL 10 ⟨trivial,fun _=>C.out⟩ ?_;have f9:=h8.out _ h1.out;have c9:=C.out.2;refine oneG (i:=11) (by kernel_rfl) rfl (fun K hK=>?_);go_simp;refine hK.out _ _ ⟨trivial,fun h=>by simp at h⟩ ?_;clear hK K f9 c9
  try simp only[Act.put,sPd,sPe,sPf,sPa,sPb,sPc]
  refine tY (by kernel_rfl) ?_ _;refine NoPanic.normal ?_;exact a9 _ _ _ _ _ _ _ _ _ _ _  _ ((H.out.grow h1.out).putP hm true)
 | false =>
  refine zL 7 ⟨trivial,fun _=>C.out⟩ ?_;refine oneG (i:=8) (by kernel_rfl) rfl (fun K hK=>?_);go_simp
  go_at_call 50
  refine(H2.out w7 h1.out).mono ?_;rintro e w8 ⟨rfl,rfl⟩;rw[<-HQ.out];refine hK.out _ _ ⟨trivial,fun _=>C.out⟩ ?_;clear hK K
  try simp only[Act.put,sPd,sPe,sPf,sPa,sPb,sPc]
  refine zL 9 ⟨trivial,fun _=>C.out⟩ ?_;refine zL 10 ⟨trivial,fun _=>C.out⟩ ?_;have f9:=h8.out _ h1.out;have c9:=C.out.2;refine oneG (i:=11) (by kernel_rfl) rfl (fun K hK=>?_);go_simp;refine hK.out _ _ ⟨trivial,fun h=>by simp at h⟩ ?_;clear hK K f9 c9
  try simp only[Act.put,sPd,sPe,sPf,sPa,sPb,sPc]
  refine tY (by kernel_rfl) ?_ _;refine NoPanic.normal ?_;exact a9 _ _ _ _ _ _ _ _ _ _ _  _ ((H.out.grow h1.out).putP hm q)
inductive LisS (w6:World)(o m k tg wg ig ic pg:Nat)(im:List Nat)(hsT:List Value)(tab:List (List Nat))(ws:List Value)(ps:List Bool)(lg p:Nat)(hsL:List Value)(dn:List (List Bool))(tl:List RowS)(w:World):Prop
 | mk (X:Nat->Prop) (hB:BoxS w6.heap.size X o 44 w6 w (⟨w6.heap.size,22,.slice (some ⟨tg,0,none⟩) m m,m,hsT,1⟩::⟨w6.heap.size,9,.slice (some ⟨wg,0,none⟩) m m,m,ws,1⟩::⟨w6.heap.size,3,.slice (some ⟨ig,0,none⟩) k ic,k,nats im,1⟩::⟨w6.heap.size,4,.slice (some ⟨pg,0,none⟩) m m,m,bls ps,1⟩::⟨w6.heap.size,26,.slice (some ⟨lg,0,none⟩) p p,p,hsL,1⟩::tl) #[.int .i64 (k:Int),.slice (some ⟨tg,0,none⟩) m m,.slice (some ⟨wg,0,none⟩) m m,.slice (some ⟨ig,0,none⟩) k ic,.slice none 0 0,.slice (some ⟨pg,0,none⟩) m m] w) (hT:xO X 3 nats w (hsT.take tab.length) tab) (hL:xO X 4 bls w (hsL.take dn.length) dn)
section
variable {w6 w w':World} {o m k tg wg ig ic pg:Nat} {im:List Nat} {hsT:List Value} {tab:List (List Nat)} {ws:List Value} {ps:List Bool} {lg p:Nat} {hsL:List Value} {dn:List (List Bool)} {tl:List RowS}
theorem LisS.start (h:MonS w6 o m k tg wg ig ic pg im hsT tab ws ps [] w)(hg:w.grownBy w' none)(ho:w'.ownsRow w.heap.size 26 1 (.slice (some ⟨lg,0,none⟩) p p) p hsL):LisS w6 o m k tg wg ig ic pg im hsT tab ws ps lg p hsL [] [] w':=by
 obtain⟨X,hB,hT⟩:=h;have hA:=hB.add hg (e:=26) (sz:=1) ho (by decide);exact⟨X,hA.rebase,hT.kept hA.kept hA.wk,xO.nil⟩
theorem LisS.grow (h:LisS w6 o m k tg wg ig ic pg im hsT tab ws ps lg p hsL dn tl w)(hg:w.grownBy w' none):LisS w6 o m k tg wg ig ic pg im hsT tab ws ps lg p hsL dn tl w':=by
 obtain⟨X,hB,hT,hL⟩:=h;have k:=hB.mem.keep hg;exact⟨X,(hB.grow hg).rebase,hT.kept k hg.size,hL.kept k hg.size⟩
theorem LisS.g (h:LisS w6 o m k tg wg ig ic pg im hsT tab ws ps lg p hsL dn tl w):w6.grownBy w none:=by
 obtain⟨X,hB,hT,hL⟩:=h;exact hB.grown
theorem LisS.arrL (h:LisS w6 o m k tg wg ig ic pg im hsT tab ws ps lg p hsL dn tl w):Arr w lg 26 hsL/\hsL.length=p:=by
 obtain⟨X,hB,hT,hL⟩:=h;have h1:=hB.own (r:=⟨w6.heap.size,26,.slice (some ⟨lg,0,none⟩) p p,p,hsL,1⟩) (by simp);exact⟨Arr.of_owns h1,by have:=h1.1;simpa using this⟩
theorem LisS.begin {bg i:Nat}{bs:List Bool}(h:LisS w6 o m k tg wg ig ic pg im hsT tab ws ps lg p hsL dn [] w)(hi:i<p)(hd:dn.length=i)(hg:w.grownBy w' none)(ho:w'.ownsRow w.heap.size 4 1 (.slice (some ⟨bg,0,none⟩) m m) m (bls bs)):LisS w6 o m k tg wg ig ic pg im hsT tab ws ps lg p (hsL.set i (.slice (some ⟨bg,0,none⟩) m m)) dn (⟨w6.heap.size,4,.slice (some ⟨bg,0,none⟩) m m,m,bls bs,1⟩::[]) (w'.setCell ⟨lg,i,none⟩ (.slice (some ⟨bg,0,none⟩) m m)):=by
 obtain⟨X,hB,hT,hL⟩:=h;have hA:=hB.add hg (e:=4) (sz:=1) (n:=m) (v:=.slice (some ⟨bg,0,none⟩) m m) (xs:=bls bs) ho (by decide);have hP:=hA.put (j:=4) rfl hi (.slice (some ⟨bg,0,none⟩) m m);refine⟨X,hP.rebase,hT.kept hP.kept hP.wk,?_⟩;rw[List.take_set_of_le (by omega)];exact hL.kept hP.kept hP.wk
theorem LisS.putC {bg j:Nat}{bs:List Bool}(h:LisS w6 o m k tg wg ig ic pg im hsT tab ws ps lg p hsL dn (⟨w6.heap.size,4,.slice (some ⟨bg,0,none⟩) m m,m,bls bs,1⟩::[]) w)(hj:j<m)(b:Bool):LisS w6 o m k tg wg ig ic pg im hsT tab ws ps lg p hsL dn (⟨w6.heap.size,4,.slice (some ⟨bg,0,none⟩) m m,m,bls (bs.set j b),1⟩::[]) (w.setCell ⟨bg,j,none⟩ (.bool b)):=by
 obtain⟨X,hB,hT,hL⟩:=h;have hP:=hB.put (j:=5) rfl hj (.bool b);rw[qBS]at hP;exact⟨X,hP.rebase,hT.kept hP.kept hP.wk,hL.kept hP.kept hP.wk⟩
theorem LisS.ownC {bg:Nat}{bs:List Bool}(h:LisS w6 o m k tg wg ig ic pg im hsT tab ws ps lg p hsL dn (⟨w6.heap.size,4,.slice (some ⟨bg,0,none⟩) m m,m,bls bs,1⟩::[]) w):w.ownsRow w6.heap.size 4 1 (.slice (some ⟨bg,0,none⟩) m m) m (bls bs):=by
 obtain⟨X,hB,hT,hL⟩:=h;exact hB.own (r:=⟨w6.heap.size,4,.slice (some ⟨bg,0,none⟩) m m,m,bls bs,1⟩) (by simp)
theorem LisS.fin {bg i:Nat}{bs:List Bool}(h:LisS w6 o m k tg wg ig ic pg im hsT tab ws ps lg p hsL dn (⟨w6.heap.size,4,.slice (some ⟨bg,0,none⟩) m m,m,bls bs,1⟩::[]) w)(hd:dn.length=i)(hi:i<p)(hh:hsL[i]?=some (.slice (some ⟨bg,0,none⟩) m m)):LisS w6 o m k tg wg ig ic pg im hsT tab ws ps lg p hsL (dn++[bs]) [] w:=by
 obtain⟨X,hB,hT,hL⟩:=h;have hR:=BoxS.retire (rs:=(⟨w6.heap.size,22,.slice (some ⟨tg,0,none⟩) m m,m,hsT,1⟩::⟨w6.heap.size,9,.slice (some ⟨wg,0,none⟩) m m,m,ws,1⟩::⟨w6.heap.size,3,.slice (some ⟨ig,0,none⟩) k ic,k,nats im,1⟩::⟨w6.heap.size,4,.slice (some ⟨pg,0,none⟩) m m,m,bls ps,1⟩::⟨w6.heap.size,26,.slice (some ⟨lg,0,none⟩) p p,p,hsL,1⟩::[])) (r:=⟨w6.heap.size,4,.slice (some ⟨bg,0,none⟩) m m,m,bls bs,1⟩) hB;have hm:∀j,X j->X j\/(Value.slice (some ⟨bg,0,none⟩) m m).ownBlock=some j:=fun j hj=>.inl hj;refine⟨_,hR,hT.mono hm,?_⟩;have hX:RowX (fun j=>X j\/(Value.slice (some ⟨bg,0,none⟩) m m).ownBlock=some j) 4 w (.slice (some ⟨bg,0,none⟩) m m) (bls bs):=RowX.of_owns (hB.own (r:=⟨w6.heap.size,4,.slice (some ⟨bg,0,none⟩) m m,m,bls bs,1⟩) (by simp)) (fun j hj=>.inr hj);have h9:=(hL.mono hm).snoc hX
 have e:hsL.take dn.length++[.slice (some ⟨bg,0,none⟩) m m]=hsL.take (dn++[bs]).length:=by
  rw[List.length_append,List.length_singleton,hd,List.take_add_one,hh];rfl
 rw[e]at h9;exact h9
end
theorem qNU {Q:Exit->Act->World->Prop}{v0 v1 v2 v3 v4 v5 v6 v7 v8 v9 t0 t1 t2 t3 t4 t5 t6 t7 t8 t9 s0 s1 s2 s3 s4 s5 s6 s7 s8 s9 r0 r1 r2 r3 r4 r5 r6 r7 r8 r9 q3 q4 q5 q6 q7 q8 p0 p1 p2 p3 p4 p5 p6 p7 p8 p9 o0 o1 o2 o3 o4 o5 o6 o7 o8 o9 n0 n1 n2 n3 n4 n5 n6 n7 n8 n9 m0 m1 m2 m3 m4 m5 m6 m7 m8 m9 l0 l1 l2 l3 l4 l5 l6 l7 l8 j1 j2 j3 j4 j5 j6 j7 j8 j9 i0 i1 i2 i3 i4 i5 i6 i7 i8 i9 g0 g1 g2 g3 g4 g5 g6 g7 g8 g9 f0 f1 f2 f3 f4 f5 f6 f7 f8 e0 e1 e2 e3 e4 e5 e6 e7 e8 e9 d0 d1 d2 d3 d4 d5 d6 d7 d8 d9 c0 c1 c2 c3 c4 c5 c6 c7 c8 c9 b0 b1 b2 b3 b4 b5 b6 b7 b8 b9 a0 a1 a2 a3 k0 k1 k2 k3 k4 k5 k6 k7 k8 a4 a5 a6 a7:Value}{w6 w:World}{o m k tg wg ig ic pg:Nat}{im:List Nat}{x9:List Value}{tab:List (List Nat)}{ws:List Value}{ps:List Bool}{lg p:Nat}{l9:List Value}{dn:List (List Bool)}{a9 bg st sh i kk:Nat}{vn vf:Value}{bs:List Bool}{c:Bool}(h:LisS w6 o m k tg wg ig ic pg im x9 tab ws ps lg p l9 dn (⟨w6.heap.size,4,.slice (some ⟨bg,0,none⟩) m m,m,bls bs,1⟩::[]) w)(k9:w.heap[a9]?=some (.cells #[.int .i64 (st:Int),vn,.int .i64 (sh:Int)] 85 (0,0)))(hi:i<m)(x7:m<=400)(x6:kk<p)(x8:p<=4096)(hh:l9[kk]?=some (.slice (some ⟨bg,0,none⟩) m m))(x5:bs.length=m)(a8:∀W:World,w.grownBy W none->Calls Try.prog 51 #[.agg #[.int .i64 (st:Int),vn,.int .i64 (sh:Int)],vf] W fun e w'=>e=.returned (.bool c)/\W.grownBy w' none)(j0:∀(z182 z183 z184 z185 z186 z187 z188 z189 z190:Value) (w':World),LisS w6 o m k tg wg ig ic pg im x9 tab ws ps lg p l9 dn (⟨w6.heap.size,4,.slice (some ⟨bg,0,none⟩) m m,m,bls (bs.set i c),1⟩::[]) w'->w'.heap[a9]?=some (.cells #[.int .i64 (st:Int),vn,.int .i64 (sh:Int)] 85 (0,0))->Q .normal ⟨(v0::v1::v2::v3::v4::v5::v6::v7::v8::v9::t0::t1::t2::(Value.slice (some ⟨lg,0,none⟩) p p)::(Value.int .i64 (kk:Int))::(Value.pointer (some ⟨a9,0,none⟩))::(Value.int .i64 (i:Int))::vf::t3::t4::t5::t6::t7::t8::t9::s0::s1::s2::s3::s4::s5::s6::s7::s8::s9::r0::r1::r2::r3::r4::r5::r6::r7::r8::r9::q3::q4::q5::q6::q7::q8::p0::p1::p2::p3::p4::p5::p6::p7::p8::p9::o0::o1::o2::o3::o4::o5::o6::o7::o8::o9::n0::n1::n2::n3::n4::n5::n6::n7::n8::n9::m0::m1::m2::m3::m4::m5::m6::m7::m8::m9::l0::l1::l2::l3::l4::l5::l6::l7::l8::j1::j2::j3::j4::j5::j6::j7::j8::j9::i0::i1::i2::i3::i4::i5::i6::i7::i8::i9::g0::g1::g2::g3::g4::g5::g6::g7::g8::g9::f0::f1::f2::f3::f4::f5::f6::f7::f8::e0::e1::e2::e3::e4::e5::e6::e7::e8::e9::d0::d1::d2::d3::d4::d5::d6::d7::d8::d9::c0::c1::c2::c3::c4::c5::c6::c7::c8::c9::b0::b1::b2::b3::b4::b5::b6::b7::b8::b9::a0::a1::a2::a3::z182::z183::z184::z185::z186::z187::z188::z189::z190::a4::a5::a6::a7::[]).toArray,[]⟩ w'):Code.wp Try.prog (reg Try.f31 32) Q ⟨(v0::v1::v2::v3::v4::v5::v6::v7::v8::v9::t0::t1::t2::(Value.slice (some ⟨lg,0,none⟩) p p)::(Value.int .i64 (kk:Int))::(Value.pointer (some ⟨a9,0,none⟩))::(Value.int .i64 (i:Int))::vf::t3::t4::t5::t6::t7::t8::t9::s0::s1::s2::s3::s4::s5::s6::s7::s8::s9::r0::r1::r2::r3::r4::r5::r6::r7::r8::r9::q3::q4::q5::q6::q7::q8::p0::p1::p2::p3::p4::p5::p6::p7::p8::p9::o0::o1::o2::o3::o4::o5::o6::o7::o8::o9::n0::n1::n2::n3::n4::n5::n6::n7::n8::n9::m0::m1::m2::m3::m4::m5::m6::m7::m8::m9::l0::l1::l2::l3::l4::l5::l6::l7::l8::j1::j2::j3::j4::j5::j6::j7::j8::j9::i0::i1::i2::i3::i4::i5::i6::i7::i8::i9::g0::g1::g2::g3::g4::g5::g6::g7::g8::g9::f0::f1::f2::f3::f4::f5::f6::f7::f8::e0::e1::e2::e3::e4::e5::e6::e7::e8::e9::d0::d1::d2::d3::d4::d5::d6::d7::d8::d9::c0::c1::c2::c3::c4::c5::c6::c7::c8::c9::b0::b1::b2::b3::b4::b5::b6::b7::b8::b9::a0::a1::a2::a3::k0::k1::k2::k3::k4::k5::k6::k7::k8::a4::a5::a6::a7::[]).toArray,[]⟩ w:=by
 obtain⟨h9,H2⟩:=h.arrL;have h5:=h.ownC
 have h0:∀W:World,w.grownBy W none->W.cell? ⟨lg,kk,none⟩=some (.slice (some ⟨bg,0,none⟩) m m)/\W.cell? ⟨a9,0,none⟩=some (.int .i64 (st:Int))/\W.cell? ⟨a9,1,none⟩=some vn/\W.cell? ⟨a9,2,none⟩=some (.int .i64 (sh:Int)):=fun W hg=>by
  have h4:=zB k9 hg;have q0:=zF h4 0;have q1:=zF h4 1;have q2:=zF h4 2;simp only[List.getElem_toArray,List.getElem_cons_zero,List.getElem_cons_succ]at q0 q1 q2;exact⟨qM (h9.kept hg (by simp)) hh,q0,q1,q2⟩
 have h1:∀W:World,w.grownBy W none->W.cell? ⟨bg,i,none⟩=some (.bool (bs.getD i false))/\W.frozen? ⟨bg,i,none⟩=false:=fun W hg=>by
  have hA:Arr W bg 4 (bls bs):=Arr.of_owns (zX h5 hg);exact⟨hA.bool i (by omega),hA.frozen i⟩
 obtain⟨H,H4,H5,H6⟩:=K4 h h1 a8 k9;have H1:Hid (bg≠a9):=Kh (fun e=>zS h5 k9 (by decide) (by rw[e];rfl));have H8:(i:Int)<m:=by omega
 have H7:(kk:Int)<p:=by omega
 clear h h1 a8 h9 H2 h5 hh k9;have H0:Hid (∀W:World,w.grownBy W none->W.cell? ⟨lg,kk,none⟩=some (.slice (some ⟨bg,0,none⟩) m m)/\W.cell? ⟨a9,0,none⟩=some (.int .i64 (st:Int))/\W.cell? ⟨a9,1,none⟩=some vn/\W.cell? ⟨a9,2,none⟩=some (.int .i64 (sh:Int))):=Kh (fun W hg=>h0 W hg);clear h0
 conv=>arg 2;whnf
 obtain⟨w7,h3⟩:=Nm w.drew;have h8:w.grownBy w7 none:=by rw[h3];exact zY w none
 have H3:=Kh h3;have h6:=Kh h8;clear h3 h8;refine wp_region_noPanic ?_;refine yK (G:=xU 9 (fun _=>True) (fun W=>W.cell? ⟨lg,kk,none⟩=some (.slice (some ⟨bg,0,none⟩) m m)/\W.cell? ⟨a9,0,none⟩=some (.int .i64 (st:Int))/\W.cell? ⟨a9,1,none⟩=some vn/\W.cell? ⟨a9,2,none⟩=some (.int .i64 (sh:Int)))) (by kernel_rfl) ?_;rw[<-H3.out];have C:=Kh (H0.out w7 h6.out);refine zL 0 ⟨trivial,fun _=>C.out⟩ ?_;refine zL 1 ⟨trivial,fun _=>C.out⟩ ?_;refine zL 2 ⟨trivial,fun _=>C.out⟩ ?_;refine yV 3 ⟨trivial,fun _=>C.out⟩ ?_;refine zL 4 ⟨trivial,fun _=>C.out⟩ ?_;refine yV 5 ⟨trivial,fun _=>C.out⟩ ?_;refine zL 6 ⟨trivial,fun _=>C.out⟩ ?_;refine oneG (i:=7) (by kernel_rfl) rfl (fun K hK=>?_);go_simp
 go_at_call 51
 refine(H5.out w7 h6.out).mono ?_;rintro e w8 ⟨rfl,h7⟩;have h2:=Kh (zC h6.out h7);have C8:=Kh (H0.out w8 h2.out);refine hK.out _ _ ⟨trivial,fun _=>C8.out⟩ ?_;clear hK K C h7
 try simp only[Act.put,sPd,sPe,sPf,sPa,sPb,sPc]
 refine zL 8 ⟨trivial,fun _=>C8.out⟩ ?_;obtain⟨q9,f9⟩:=H4.out w8 h2.out;refine oneG (i:=9) (by kernel_rfl) rfl (fun K hK=>?_);go_simp;refine hK.out _ _ ⟨trivial,fun h=>by simp at h⟩ ?_;clear hK K q9 f9
 try simp only[Act.put,sPd,sPe,sPf,sPa,sPb,sPc]
 refine tY (by kernel_rfl) ?_ _;refine NoPanic.normal ?_;exact j0 _ _ _ _ _ _ _ _ _  _ ((H.out.grow h2.out).putC hi c) (zB (zB H6.out h2.out) (zG w8 ⟨bg,i,none⟩ (.bool c)) (fun e=>H1.out (Oj e)))
structure PartV where
 st:Nat
 fin:List Bool
 sh:Nat
deriving Inhabited
def accP (p:PartV)(el:List (List Nat)):List Bool:=el.map fun f=>p.fin.getD (f.getD p.st 0-p.sh) false
theorem qLF (st:Nat)(fin:List Bool)(el:List (List Nat)):accP ⟨st,fin,0⟩ el=accE fin st el:=rfl
def cY (B:Nat)(w:World)(pb po:Nat)(ps:List PartV):Prop:=∀j,j<ps.length->∃vf,w.cell? ⟨pb,po+j*3,none⟩=some (.int .i64 ((ps.getD j default).st:Nat))/\w.cell? ⟨pb,po+j*3+1,none⟩=some vf/\w.cell? ⟨pb,po+j*3+2,none⟩=some (.int .i64 ((ps.getD j default).sh:Nat))/\Row B w vf (bls (ps.getD j default).fin)
theorem cY.kept {B:Nat}{w w':World}{pb po:Nat}{ps:List PartV}(h:cY B w pb po ps)(hg:w.grownBy w' none):cY B w' pb po ps:=fun j hj=>by
 obtain⟨vf,h1,h2,h3,h4⟩:=h j hj
 exact⟨vf,zJ h1 hg,zJ h2 hg,zJ h3 hg,h4.kept hg (by simp)⟩
theorem vO.boolP {w:World}{b off:Nat}{bs:List Bool}(h:vO w b off (bls bs))(i:Nat)(hi:i<bs.length):w.cell? ⟨b,off+i,none⟩=some (.bool (bs.getD i false)):=by
 rw[h.map (f:=Value.bool) i hi,zN hi]
theorem qEW (B C:Nat)(w:World)(vf fv:Value)(fin:List Bool)(f:List Nat)(st sh:Nat)(h:Row B w vf (bls fin))(hf:Row C w fv (nats f))(a9:st<f.length)(h1:sh<=f.getD st 0)(h2:f.getD st 0<sh+fin.length)(hb:sh+fin.length<=4096):Calls Try.prog 51 #[.agg #[.int .i64 (st:Int),vf,.int .i64 (sh:Int)],fv] w fun e w'=>e=.returned (.bool (fin.getD (f.getD st 0-sh) false))/\w.grownBy w' none:=by
 obtain⟨x,hx⟩:=Nm (f.getD st 0);rw[<-hx]at h1 h2⊢;obtain⟨fb,fo,fc,rfl,_,H1,H0,h7⟩:=h.some_ (by rw[zZ];omega);obtain⟨gb,go,gc,rfl,_,h9,h8,h6⟩:=hf.some_ (by rw[zQ];omega);rw[zZ]at H1⊢;rw[zQ]at h9⊢;unfold maxLen at H0 h8;obtain⟨wA,h4⟩:=Nm (w.alloc (.cells #[.int .i64 (st:Int),.slice (some ⟨fb,fo,none⟩) fin.length fc,.int .i64 (sh:Int)] 85));have h3:w.grownBy wA none:=by rw[h4];exact Ga w _ none
 have h0:=heap_alloc_new w (.cells #[.int .i64 (st:Int),.slice (some ⟨fb,fo,none⟩) fin.length fc,.int .i64 (sh:Int)] 85);rw[<-h4]at h0;obtain⟨P,hP⟩:=Nm w.heap.size;rw[<-hP]at h0;have q0:=zF h0 0;have q1:=zF h0 1;have q2:=zF h0 2;simp only[List.getElem_toArray,List.getElem_cons_zero,List.getElem_cons_succ]at q0 q1 q2;have cx:=zJ (h6.nat st a9) h3;rw[<-hx]at cx;have cy:=zJ (h7.boolP (x-sh) (by omega)) h3;obtain⟨y,hy⟩:=Nm (fin.getD (x-sh) false);obtain⟨z,hz⟩:=Nm (x-sh);rw[<-hy]at cy⊢;rw[<-hz]at cy;have h5:(x:Int)-(sh:Int)=(z:Int):=by omega
 have H7:IntKind.i64.wrap ((x:Int)-(sh:Int))=(z:Int):=by rw[h5];exact vD (by omega)
 have H5:(z:Int)<fin.length:=by omega
 have H6:(st:Int)<f.length:=by omega
 obtain⟨H4,H2,H3⟩:=K3 h3 h4 hP;clear h hf h7 h6 hx hy hz h3 h4 h0 hP h5;go_enter Try.func51,Try.ntmps51;go_upto_region 1 with fail;rw[<-H2.out,<-H3.out]
 go_quiet (fail)
 go_wp2;go_ret;exact⟨rfl,zC H4.out (zT wA _ none)⟩
structure EnuAt (B:Nat)(w:World)(b5 m n k:Nat)(el:List (List Nat))(pr la:List Int)(ri:List (List Nat))(qb qo qc lb lo lc rb rf rd eb eo ec:Nat):Prop where
 c3:w.cell? ⟨b5,3,none⟩=some (.slice (some ⟨eb,eo,none⟩) m ec)
 c4:w.cell? ⟨b5,4,none⟩=some (.slice (some ⟨qb,qo,none⟩) m qc)
 c5:w.cell? ⟨b5,5,none⟩=some (.slice (some ⟨lb,lo,none⟩) m lc)
 c6:w.cell? ⟨b5,6,none⟩=some (.slice (some ⟨rb,rf,none⟩) m rd)
 qc1:m<=qc/\qc<=maxLen
 lc1:m<=lc/\lc<=maxLen
 rc1:m<=rd/\rd<=maxLen
 ec1:m<=ec/\ec<=maxLen
 q:∀i,i<m->w.cell? ⟨qb,qo+i,none⟩=some (.int .i64 (pr.getD i 0))
 l:∀i,i<m->w.cell? ⟨lb,lo+i,none⟩=some (.int .i64 (la.getD i 0))
 r:∀i,i<m->∃sb so sc,w.cell? ⟨rb,rf+i,none⟩=some (.slice (some ⟨sb,so,none⟩) k sc)/\(k<=sc/\sc<=maxLen)/\Row B w (.slice (some ⟨sb,so,none⟩) k sc) (nats (ri.getD i []))/\∀a,a<k->w.cell? ⟨sb,so+a,none⟩=some (.int .i64 (((ri.getD i []).getD a 0:Nat):Int))
 e:∀i,i<m->∃v,w.cell? ⟨eb,eo+i,none⟩=some v/\Row B w v (nats (el.getD i []))
theorem EnuAt.kept {B:Nat}{w w':World}{b5 m n k:Nat}{el:List (List Nat)}{pr la:List Int}{ri:List (List Nat)}{qb qo qc lb lo lc rb rf rd eb eo ec:Nat}(h:EnuAt B w b5 m n k el pr la ri qb qo qc lb lo lc rb rf rd eb eo ec)(hg:w.grownBy w' none):EnuAt B w' b5 m n k el pr la ri qb qo qc lb lo lc rb rf rd eb eo ec :=
 ⟨zJ h.c3 hg,zJ h.c4 hg,zJ h.c5 hg,zJ h.c6 hg,h.qc1,h.lc1,h.rc1,h.ec1,fun i hi=>zJ (h.q i hi) hg,fun i hi=>zJ (h.l i hi) hg,fun i hi=>by
  obtain⟨sb,so,sc,h1,h2,h3,h4⟩:=h.r i hi
  exact⟨sb,so,sc,zJ h1 hg,h2,h3.kept hg (by simp),fun a ha=>zJ (h4 a ha) hg⟩,fun i hi=>by
  obtain⟨v,h1,h2⟩:=h.e i hi
  exact⟨v,zJ h1 hg,h2.kept hg (by simp)⟩⟩
theorem EnuAt.of {w:World}{b5 m n k u cG cE cP cL cR cU:Nat}{sG sE sP sL sR sU:Option Addr}{el:List (List Nat)}{pr la:List Int}{ri:List (List Nat)}(hb:w.heap[b5]?=some (.cells #[.int .i64 n,.bool true,.slice sG k cG,.slice sE m cE,.slice sP m cP,.slice sL m cL,.slice sR m cR,.slice sU u cU,.int .i64 m] 90 (0,0)))(hE:TMat w.heap.size w (.slice sE m cE) el)(hP:Row w.heap.size w (.slice sP m cP) (ints pr))(hL:Row w.heap.size w (.slice sL m cL) (ints la))(hR:TMat w.heap.size w (.slice sR m cR) ri)(he:el.length=m)(hp:pr.length=m)(hl:la.length=m)(hr:ri.length=m)(a9:∀i,i<m->(ri.getD i []).length=k)(hm:1<=m)(hk:1<=k):∃(qb qo lb lo rb rf eb eo:Nat),sP=some ⟨qb,qo,none⟩/\sL=some ⟨lb,lo,none⟩/\sR=some ⟨rb,rf,none⟩/\sE=some ⟨eb,eo,none⟩/\EnuAt w.heap.size w b5 m n k el pr la ri qb qo cP lb lo cL rb rf cR eb eo cE:=by
 obtain⟨q0,q1,q2,q3,q4,q5,q6,q7,q8⟩:=zU hb;obtain⟨qb,qo,cp,e1,_,p1,p2,p3⟩:=hP.some_ (by rw[zO];omega);obtain⟨lb,lo,cl,e2,_,l1,l2,l3⟩:=hL.some_ (by rw[zO];omega);obtain⟨rb,rf,cr,e3,r1,r2,_,_,r3⟩:=hR.head (by omega);obtain⟨eb,eo,ce,e4,s1,s2,_,_,s3⟩:=hE.head (by omega);rw[zO,hp]at p1 e1;rw[zO,hl]at l1 e2;rw[hr]at r1 e3;rw[he]at s1 e4;simp only[Value.slice.injEq,true_and]at e1 e2 e3 e4;obtain⟨rfl,rfl⟩:=e1;obtain⟨rfl,rfl⟩:=e2;obtain⟨rfl,rfl⟩:=e3;obtain⟨rfl,rfl⟩:=e4;refine⟨qb,qo,lb,lo,rb,rf,eb,eo,rfl,rfl,rfl,rfl,q3,q4,q5,q6,⟨p1,p2⟩,⟨l1,l2⟩,⟨r1,r2⟩,⟨s1,s2⟩,fun i hi=>p3.int i (by omega),fun i hi=>l3.int i (by omega),fun i hi=>?_,fun i hi=>?_⟩
 ·obtain⟨a,c,h1,h2⟩:=r3 i (by omega)
  rw[a9 i hi]at h1 h2;obtain⟨sb,so,sc,e5,_,t1,t2,t3⟩:=h2.row.some_ (by rw[zQ,a9 i hi];omega);rw[zQ,a9 i hi]at e5 t1;simp only[Value.slice.injEq,true_and]at e5;obtain⟨rfl,rfl⟩:=e5;exact⟨sb,so,c,h1,⟨t1,t2⟩,h2.row,fun a ha=>t3.nat a (by rw[a9 i hi];exact ha)⟩
 obtain⟨a,c,h1,h2⟩:=s3 i (by omega);exact⟨_,h1,h2.row⟩
end Go.Proofs.Ytobakifdllameaa
