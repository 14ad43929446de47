/- Part 18 of the proof. -/
import Derived.Test.YtjfdomfendbhfaaQg17
import Derived.BigRegion
set_option linter.unusedVariables false
set_option linter.unusedSimpArgs false
set_option maxRecDepth 100000
set_option maxHeartbeats 16000000
namespace Go.Proofs.Ytjfdomfendbhfaa
open Go.Maps Go.RowKit
theorem sY {w:World}{b e sz n g cap i:Nat}{xs:List Value}(h:w.ownsRow b e sz (.slice (some ⟨g,0,none⟩) n cap) n xs)(u:Value):(w.setCell ⟨g,i,none⟩ u).ownsRow b e sz (.slice (some ⟨g,0,none⟩) n cap) n (xs.set i u):=by
 refine⟨by rw[List.length_set];exact h.1,?_⟩;rcases h.2 with ⟨hv,_⟩|⟨g',cap',cur,hv,hb,hg,hnc,hcm,hcs,htake⟩
 ·simp at hv
 ·simp only[Value.slice.injEq,Option.some.injEq,Addr.mk.injEq]at hv
  obtain⟨⟨rfl,_⟩,_,rfl⟩:=hv;have hs:=heap_setCell_same w g i _ _ u hg;refine .inr ⟨g,cap,_,rfl,hb,hs,hnc,hcm,by simpa using hcs,?_⟩;rw[<- htake];simp[List.take_set]
def ltN (t:List Nat):List Nat:=t.map fun b=>97+b
theorem ltN_length (t:List Nat):(ltN t).length=t.length:=by simp[ltN]
theorem qHK (t:List Nat):zb (ltN t)=lets t:=by simp[zb,ltN,lets]
def RevI (t l:List Nat)(i:Nat):Prop:=l.length=t.length/\∀ p,p<t.length->l.getD p 0=if p<i\/t.length<=p+i then t.getD (t.length - 1 - p) 0 else t.getD p 0
theorem RevI.start (t:List Nat):RevI t t 0:=⟨rfl,fun p hp=>by rw[if_neg (by omega)]⟩
theorem qBS {l:List Nat}{i p x:Nat}(hi:i<l.length):(l.set i x).getD p 0=if p=i then x else l.getD p 0:=by
 simp only[List.getD_eq_getElem?_getD,List.getElem?_set]
 split
 ·rename_i e;subst e;simp[hi]
 ·rename_i e;rw[if_neg (fun h=>e h.symm)]
theorem RevI.step {t l:List Nat}{i j:Nat}(h:RevI t l i)(hj:i+j+1=t.length)(hij:i<j):RevI t ((l.set i (l.getD j 0)).set j (l.getD i 0)) (i+1):=by
 refine⟨by simp[h.1],fun p hp=>?_⟩;rw[qBS (by rw[List.length_set,h.1];omega),qBS (by rw[h.1];omega)];by_cases e1:p=j
 ·subst e1
  rw[if_pos rfl,if_pos (by omega),h.2 i (by omega),if_neg (by omega)];congr 1;omega
 ·rw[if_neg e1]
  by_cases e2:p=i
  ·subst e2
   rw[if_pos rfl,if_pos (by omega),h.2 j (by omega),if_neg (by omega)];congr 1;omega
  ·rw[if_neg e2,h.2 p hp]
   by_cases e3:p<i\/t.length<=p+i
   ·rw[if_pos e3,if_pos (by omega)]
   ·rw[if_neg e3,if_neg (by omega)]
theorem RevI.done {t l:List Nat}{i j:Nat}(h:RevI t l i)(hj:i+j+1=t.length)(hij:j<=i):l=t.reverse:=by
 refine List.ext_getElem (by rw[h.1,List.length_reverse]) fun p h1 h2=>?_;have hp:p<t.length:=by rw[<- h.1];exact h1
 have:=h.2 p hp;rw[zG h1]at this;rw[this,List.getElem_reverse]
 split
 ·rw[zG (by omega)]
 ·have:p=t.length - 1 - p:=by omega
  rw[zG hp];congr 1
def qGU (w:World)(ds:List DfaV)(k:Nat)(L:List (List Nat))(s:Nat)(e:Ending)(w':World):Prop :=
 ∃ u:List Nat,yJ k u/\u.length<=s/\sI (nxtT ds) (L.getD 0 []) u=L.getD s []/\e=.returned (.string (strOfNums (lets u)))/\w.grownBy w' none
theorem swap_own {w W:World}{b e n g cap i j:Nat}{t:List Nat}(h:w.ownsRow b e 1 (.slice (some ⟨g,0,none⟩) n cap) n (u8s t))(hij:i≠j)(x y:Nat)(hW:W=(w.setCell ⟨g,i,none⟩ (.int .u8 (x:Int))).setCell ⟨g,j,none⟩ (.int .u8 (y:Int))\/W=(w.setCell ⟨g,j,none⟩ (.int .u8 (y:Int))).setCell ⟨g,i,none⟩ (.int .u8 (x:Int))):W.ownsRow b e 1 (.slice (some ⟨g,0,none⟩) n cap) n (u8s ((t.set i x).set j y))/\w.grownBy W (some g):=by
 refine⟨?_,?_⟩
 ·rcases hW with rfl|rfl
  ·have:=sY (i:=j) (sY (i:=i) h (.int .u8 (x:Int))) (.int .u8 (y:Int))
   rwa [gH,gH]at this
  ·have:=sY (i:=i) (sY (i:=j) h (.int .u8 (y:Int))) (.int .u8 (x:Int))
   rw[gH,gH,List.set_comm _ _ (fun e=>hij e.symm)]at this;exact this
 ·rcases hW with rfl|rfl
  ·exact zD (zC w ⟨g,i,none⟩ _) (zC _ ⟨g,j,none⟩ _)
  ·exact zD (zC w ⟨g,j,none⟩ _) (zC _ ⟨g,i,none⟩ _)
theorem pword_any (w:World)(o k:Nat)(pv:Value)(ds:List DfaV)(L:List (List Nat))(nxl fr bl:List Nat)(sb sc nb nc fb fc bb bc s:Nat)(h:ProdV w o k pv L nxl fr bl sb sc nb nc fb fc bb bc)(hf:dA ds k L fr bl)(hk6:k<=6)(hs:s<L.length)(hL:L.length<=4000):Calls Try.prog 60 #[.pointer (some ⟨o,0,none⟩),.int .i64 (s:Int)] w (qGU w ds k L s):=by
 obtain⟨m,hm⟩:∃ m,m=L.length:=⟨_,rfl⟩;have H:=Kh h;have HF:=Kh hf;have HM:=Kh hm;rw[<- hm]at hs hL;clear h hf hm;go_enter Try.func60,Try.ntmps60;go_wp2
 go_loopg [1,5] s (fun gh v1 v5 wr=>∃ (q:Nat) (sa:Option Addr) (sc:Nat) (t:List Nat),gh=q/\v1=.int .i64 q/\v5=.slice sa t.length sc/\wr.ownsRow w.heap.size 5 1 (.slice sa t.length sc) t.length (u8s (ltN t))/\BackI ds k L s q t/\w.grownBy wr none)
 case atStart=>exact⟨s,none,0,[],rfl,rfl,rfl,World.ownsRow_nil _ _ _ _,BackI.start _ _ _ _,zL _ _⟩
 case round =>
  obtain⟨q,sa,sd,t,a3,rfl,rfl,h3,H8,hg⟩:=hrel;have b6:=Kh a3;have HO:=Kh h3;have HB:=Kh H8;have HG:=Kh hg;have H5:=H8.len;clear a3 h3 H8;by_cases hq:q=0
  ·subst hq
   obtain⟨n,hn⟩:∃ n,n=t.length:=⟨_,rfl⟩;have HN:=Kh hn;rw[<- hn]at H5 HO ⊢;have H9:=Kh (RevI.start (ltN t));obtain⟨lt,h9⟩:∃ x,x=ltN t:=⟨_,rfl⟩;have h4:lt.length=n:=by rw[h9,ltN_length,hn]
   rw[<- h9]at H9 HO;have a7:=Kh h9;have a0:=Kh h4;clear hn h9 h4 hg;by_cases hn0:n=0
   ·subst hn0
    have H7:=pY 106 5 Try.underlying106 Try.underlying5 9 Try.underlying9 (xs:=zb lt) HO.out;obtain⟨X,hX⟩:∃ X,X=strOfNums (zb lt):=⟨_,rfl⟩;rw[<- hX]at H7;have HX:=Kh hX;clear hX;go_wp2
    go_loopw [6,7] (fun v6 v7 wr2=>v6=.int .i64 0/\v7=.int .i64 (-1)/\wr2=wr) (fun _ _ _=>0)
    case atStart=>exact⟨rfl,rfl,rfl⟩
    case round =>
     obtain⟨rfl,rfl,rfl⟩:=hrel;go_wp2;go_ret;refine⟨t.reverse,fun a ha=>HB.out.ok a (by simpa using ha),by rw[List.length_reverse,<- HN.out];omega,HB.out.walk,?_,HG.out⟩;have h1:t=[]:=List.eq_nil_of_length_eq_zero HN.out.symm;rw[HX.out,a7.out,qHK,h1];rfl
   ·obtain⟨gb,rfl,c6,b4,h0⟩:=yW HO.out (by omega)
    have c4:sd<=9223372036854775807:=by unfold maxLen at b4;omega
    clear h0;obtain⟨wo,rfl⟩:∃ wo:World,wo=wr:=⟨_,rfl⟩;go_wp2
    go_loopg [6,7] (n - 1) (fun gh v6 v7 wr=>∃ (i j:Nat) (l:List Nat),gh=j/\v6=.int .i64 i/\v7=.int .i64 j/\i+j+1=n/\RevI lt l i/\wr.ownsRow w.heap.size 5 1 (.slice (some ⟨gb,0,none⟩) n sd) n (u8s l)/\w.grownBy wr none)
    case atStart=>exact⟨0,n - 1,lt,rfl,rfl,by go_num,by omega,H9.out,HO.out,HG.out⟩
    case round =>
     clear HG HO H9;obtain⟨i,j,l,a4,rfl,rfl,a2,H2,h3,hg⟩:=hrel;have b8:=Kh a4;have H1:=Kh a2;have a6:=Kh H2;have HO:=Kh h3;have HG:=Kh hg;have h0:=Arr.of_owns h3;have H4:l.length=n:=by rw[H2.1,a0.out]
     have c7:=Kh H4;clear a4 a2 H2;by_cases h4:i<j
     ·have H3:(i:Int)<j:=by omega
      have c5:j<n:=(by have:=H1.out;omega);have b0:(j:Int)<n:=(by omega);have b1:(i:Int)<n:=(by omega);have c1:=bO h0 i (by omega);have c2:=bO h0 j (by omega);have f1:=h0.frozen i;have f2:=h0.frozen j;obtain⟨x,hx⟩:∃ x,x=l.getD i 0:=⟨_,rfl⟩;obtain⟨y,hy⟩:∃ y,y=l.getD j 0:=⟨_,rfl⟩;rw[<- hx]at c1;rw[<- hy]at c2;have h7:=Kh (a6.out.step (by rw[a0.out];exact H1.out) h4);rw[<- hx,<- hy]at h7;have b2:=h0.lt;clear hx hy h0 H4 h3 hg;go_wp2
      go_region
      all_goals
       go_wp2;go_roundg (j - 1)
       case measure=>have:=b8.out;omega
       case rel =>
        obtain⟨h1,h2⟩:=swap_own (W:=_) (zP HO.out (zO _ none)) (show i≠j by omega) y x (by first|exact .inl rfl|exact .inr rfl);exact⟨i+1,j - 1,_,rfl,by go_num,by go_num,by have:=H1.out;omega,h7.out,h1,zA (zA HG.out (zO _ none) (by simp)) h2 (fun x e=>by have e:gb=x:=Oj e;subst e;exact(HO.out.lt _ rfl).1)⟩
     ·have H3:¬ (i:Int)<j:=by omega
      have a1:=Kh (a6.out.done (by rw[a0.out];exact H1.out) (by omega));have H7:=pY 106 5 Try.underlying106 Try.underlying5 9 Try.underlying9 (xs:=zb l) HO.out;obtain⟨X,hX⟩:∃ X,X=strOfNums (zb l):=⟨_,rfl⟩;rw[<- hX]at H7;have HX:=Kh hX;clear hX h0 h3 hg H4;go_wp2;go_ret;refine⟨t.reverse,fun a ha=>HB.out.ok a (by simpa using ha),by rw[List.length_reverse,<- HN.out];omega,HB.out.walk,?_,HG.out⟩;rw[HX.out,a1.out,a7.out];rw[show (ltN t).reverse=ltN t.reverse by simp[ltN],qHK];rfl
  ·have hv:=H.out.grow hg
   obtain⟨x0,x1,x2,x3,x4,x5⟩:=hv.cells;have h8:q<m:=(by omega);have c1:=hv.fr q (by rw[<- HM.out];exact h8);have c2:=hv.by_ q (by rw[<- HM.out];exact h8);obtain⟨e1,e2,e3⟩:=HF.out.2.2 q (by omega) (by rw[<- HM.out];exact h8);have h7:=Kh (HB.out.step e2 e1 e3);obtain⟨f,H6⟩:∃ f,f=fr.getD q 0:=⟨_,rfl⟩;obtain⟨b,a5⟩:∃ b,b=bl.getD q 0:=⟨_,rfl⟩;rw[<- H6]at c1 e1 h7;rw[<- a5]at c2 e2 h7;have H0:=hv.caps;rw[<- HM.out]at x4 x5 H0;have k1:fc<=9223372036854775807:=by have:=H0.2.2.2.2.2.1;unfold maxLen at this;omega
   have k2:bc<=9223372036854775807:=by have:=H0.2.2.2.2.2.2.2;unfold maxLen at this;omega
   have c3:((q:Int) != 0)=true:=by rw[bne_iff_ne];omega
   have c0:¬ (q:Int)=0:=by omega
   have a9:(q:Int)<m:=(by omega);have e4:IntKind.u8.wrap (b:Int)=b:=IntWalk.u8_in _ (by omega);have e5:IntKind.u8.wrap (97+(b:Int))=97+(b:Int):=IntWalk.u8_in _ (by omega);have a8:=hg.size
   have b9:Hid (∀ W:World,w.grownBy W none->W.cell? ⟨o,4,none⟩=some (.slice (some ⟨fb,0,none⟩) m fc)/\W.cell? ⟨fb,q,none⟩=some (.int .i64 (f:Int))):=Kh (fun W hW=>by
    have hv:=H.out.grow hW;refine⟨by have:=hv.cells.2.2.2.2.1;rw[<- HM.out]at this;exact this,?_⟩;have:=hv.fr q (by rw[<- HM.out];exact h8)
    rw[<- H6]at this;exact this)
   clear hv H6 a5 H0 e3 hg x0 x1 x2 x3;go_upto_region 3 with (first|(at_builtin;refine lW rfl _ _ _ rfl qCR.toN w.heap.size (.slice sa t.length sd) t.length (u8s (ltN t)) rfl HO.out [.int .u8 (97+(b:Int))] rfl rfl ?z1 ?z2 ?z3 ?z4 ?_;(case z1=>(intro v hv;simp only[List.mem_cons,List.not_mem_nil,or_false]at hv;subst hv;rfl));(case z2=>(unfold maxLen;omega));(case z3=>(show (t.length+1) * 1<=140737488355328;omega));(case z4=>exact a8);intro sn cn wM h5 b3)|fail)
   have h6:=zA HG.out b3 (fun x e=>(HO.out.lt x e).1);obtain⟨d1,d2⟩:=b9.out wM h6;have b5:=Kh h5;have b7:=Kh h6;clear h5 h6 c1 c2 x4 x5;go_wp2;go_roundg f
   case measure=>have:=b6.out;omega
   case rel =>
    refine⟨f,sn,cn,t++[b],rfl,rfl,by rw[List.length_append];rfl,?_,h7.out,b7.out⟩;rw[List.length_append,show u8s (ltN (t++[b]))=u8s (ltN t)++[.int .u8 (97+(b:Int))] by simp[u8s,ltN,zb]];exact b5.out
def mN (m:List Bool):List Nat:=m.map fun b=>if b=true then 1 else 0
def mT (m:List Bool):ByteArray:=txtT (mN m)
theorem rA (m:List Bool):(mN m).length=m.length:=by simp[mN]
theorem mN_get {m:List Bool}{i:Nat}(hi:i<m.length):(mN m).getD i 0=if m.getD i false=true then 1 else 0:=by
 rw[zG (by rw[rA];exact hi),zG hi];simp[mN]
theorem qIM (m:List Bool):∀ x∈mN m,x<256:=by
 intro x hx;simp only[mN,List.mem_map]at hx;obtain⟨b,_,rfl⟩:=hx
 split<;>omega
theorem qHP:∀ {m n:List Bool},mN m=mN n->m=n
 | [],[],_=>rfl
 | [],y::n,h=>by simp[mN]at h
 | x::m,[],h=>by simp[mN]at h
 | x::m,y::n,h=>by
  simp only[mN,List.map_cons,List.cons.injEq]at h
  have h2:m=n:=qHP (by simpa [mN] using h.2)
  have h1:=h.1
  cases x<;>cases y<;>simp_all
theorem aG (m:List Bool):(mT m).size=m.length:=by rw[mT,pH,rA]
theorem key_mT {n:Nat}(h:n<=400):KeyK 129 9 (fun m:List Bool=>m.length=n) (fun m=>.string (mT m)) where
 key:=mL
 und:=qN
 of:=fun a ha=>by rw[Go.WideMaps.keyOf_string_mk nF (by rw[aG,ha];unfold maxLen;omega)];rfl
 inj:=fun a b ha hb e=>qHP (qCZ (qIM a) (qIM b) (by simpa [mT] using e))
def cval (c:ClaV):List Value:=[.string (mT c.m),.int .i64 c.yes,.int .i64 c.no]
def tX (l:List ClaV):List Value:=l.flatMap cval
theorem jW (l:List ClaV)(c:ClaV):tX (l++[c])=tX l++cval c:=by simp[tX]
theorem pS (c:ClaV)(l:List ClaV):tX (c::l)=.string (mT c.m)::.int .i64 c.yes::.int .i64 c.no::tX l:=rfl
theorem pR:∀ (l:List ClaV) (i:Nat) (h:i<l.length),(tX l)[i * 3]?=some (.string (mT l[i].m))/\(tX l)[i * 3+1]?=some (.int .i64 l[i].yes)/\(tX l)[i * 3+2]?=some (.int .i64 l[i].no)
 | [],i,h=>by simp at h
 | x::l,0,_=>⟨rfl,rfl,rfl⟩
 | x::l,i+1,h=>by
  have h1:=pR l i (by simpa using h)
  rw[pS,show (i+1) * 3=i * 3+1+1+1 by omega,show i * 3+1+1+1+1=(i * 3+1)+1+1+1 by omega,show i * 3+1+1+1+2=(i * 3+2)+1+1+1 by omega]
  simpa using h1
theorem eH:∀ (l:List ClaV) (i:Nat) (y:Int),i<l.length->(tX l).set (i * 3+1) (.int .i64 y)=tX (l.set i ⟨(l.getD i default).m,y,(l.getD i default).no⟩)
 | [],i,y,h=>by simp at h
 | x::l,0,y,_=>rfl
 | x::l,i+1,y,h=>by
  have h1:=eH l i y (by simpa using h)
  rw[pS,show (i+1) * 3+1=(i * 3+1)+1+1+1 by omega]
  simp only[List.set_cons_succ,List.getD_cons_succ,pS]
  rw[h1]
theorem aP:∀ (l:List ClaV) (i:Nat) (y:Int),i<l.length->(tX l).set (i * 3+2) (.int .i64 y)=tX (l.set i ⟨(l.getD i default).m,(l.getD i default).yes,y⟩)
 | [],i,y,h=>by simp at h
 | x::l,0,y,_=>rfl
 | x::l,i+1,y,h=>by
  have h1:=aP l i y (by simpa using h)
  rw[pS,show (i+1) * 3+2=(i * 3+2)+1+1+1 by omega]
  simp only[List.set_cons_succ,List.getD_cons_succ,pS]
  rw[h1]
theorem aN:ElemN Try.prog 96 99 3 (.agg #[.string ⟨#[]⟩,.int .i64 0,.int .i64 0]) 32:=⟨by kernel_rfl,by kernel_rfl,by rfl,by decide⟩
structure ClsO (w:World)(g off:Nat)(l:List ClaV):Prop where
 lt:g<w.heap.size
 m:∀ i,i<l.length->w.cell? ⟨g,off+i * 3,none⟩=some (.string (mT (l.getD i default).m))
 y:∀ i,i<l.length->w.cell? ⟨g,off+i * 3+1,none⟩=some (.int .i64 (l.getD i default).yes)
 n:∀ i,i<l.length->w.cell? ⟨g,off+i * 3+2,none⟩=some (.int .i64 (l.getD i default).no)
theorem ClsO.of_block {w w':World}{g off:Nat}{l:List ClaV}(h:ClsO w g off l)(hb:w'.heap[g]?=w.heap[g]?)(hs:w.heap.size<=w'.heap.size):ClsO w' g off l :=
 ⟨Nat.lt_of_lt_of_le h.lt hs,fun i hi=>(World.cell?_of_block hb).trans (h.m i hi),fun i hi=>(World.cell?_of_block hb).trans (h.y i hi),fun i hi=>(World.cell?_of_block hb).trans (h.n i hi)⟩
def ClsX (X:Nat->Prop)(w:World)(v:Value)(l:List ClaV):Prop :=
 (∃ a cap,v=.slice a 0 cap/\l=[])\/∃ b off cap,v=.slice (some ⟨b,off,none⟩) l.length cap/\X b/\l.length<=cap/\cap<=maxLen/\ClsO w b off l
section
variable {X:Nat->Prop} {w w':World} {v:Value} {l:List ClaV}
theorem ClsX.kept (h:ClsX X w v l)(hk:vZ X w w')(hs:w.heap.size<=w'.heap.size):ClsX X w' v l:=by
 rcases h with h|⟨b,off,cap,h1,h2,h3,h4,h5⟩
 ·exact .inl h
 ·exact .inr ⟨b,off,cap,h1,h2,h3,h4,h5.of_block (hk b h2) hs⟩
theorem ClsX.mono {X':Nat->Prop}(h:ClsX X w v l)(hX:∀ q,X q->X' q):ClsX X' w v l:=by
 rcases h with h|⟨b,off,cap,h1,h2,h3⟩
 ·exact .inl h
 ·exact .inr ⟨b,off,cap,h1,hX b h2,h3⟩
theorem ClsX.grow (h:ClsX X w v l)(hg:w.grownBy w' none):ClsX X w' v l:=by
 rcases h with h|⟨b,off,cap,h1,h2,h3,h4,h5⟩
 ·exact .inl h
 ·exact .inr ⟨b,off,cap,h1,h2,h3,h4,h5.of_block (hg.block _ h5.lt (by simp)) hg.size⟩
theorem ClsX.shape (h:ClsX X w v l):∃ a c,v=.slice a l.length c:=by
 rcases h with ⟨a,c,rfl,rfl⟩|⟨b,off,cap,rfl,_⟩
 ·exact⟨a,c,rfl⟩
 ·exact⟨_,_,rfl⟩
theorem ClsX.len_le (h:ClsX X w v l):l.length<=maxLen:=by
 rcases h with ⟨a,c,rfl,rfl⟩|⟨b,off,cap,rfl,h1,h2,h3,_⟩
 ·exact Nat.zero_le _
 ·omega
theorem ClsX.at_ (h:ClsX X w v l)(h0:0<l.length):∃ b off cap,v=.slice (some ⟨b,off,none⟩) l.length cap/\X b/\l.length<=cap/\cap<=maxLen/\ClsO w b off l:=by
 rcases h with ⟨a,c,rfl,rfl⟩|h
 ·simp at h0
 ·exact h
end
theorem lT {X:Nat->Prop}{base:Nat}{w:World}{v:Value}{l:List ClaV}(h:w.ownsRow base 99 3 v l.length (tX l))(hX:∀ k,v.ownBlock=some k->X k):ClsX X w v l:=by
 have h1:∀ g j,(⟨g,0,none⟩:Addr).add j=⟨g,j,none⟩:=fun g j=>by unfold Addr.add;split<;>simp_all
 rcases h.2 with ⟨rfl,h0⟩|⟨g,cap,cur,rfl,hb,hg,hnc,hcm,_⟩
 ·exact .inl ⟨none,0,by first|rfl|rw[h0],List.eq_nil_of_length_eq_zero h0⟩
 ·refine .inr ⟨g,0,cap,rfl,hX g rfl,hnc,hcm,zK hg,fun i hi=>?_,fun i hi=>?_,fun i hi=>?_⟩
  ·have c1:=h.cells (g:=g) rfl _ _ (pR l i hi).1
   rw[h1]at c1;rw[zG hi,Nat.zero_add];exact c1
  ·have c1:=h.cells (g:=g) rfl _ _ (pR l i hi).2.1
   rw[h1]at c1;rw[zG hi,Nat.zero_add];exact c1
  ·have c1:=h.cells (g:=g) rfl _ _ (pR l i hi).2.2
   rw[h1]at c1;rw[zG hi,Nat.zero_add];exact c1
def numC (l:List ClaV)(m:List Bool):Option Nat:=if m∈l.map ClaV.m then some ((l.map ClaV.m).idxOf m) else none
theorem numC_of_mem {l:List ClaV}{m:List Bool}(h:m∈l.map ClaV.m):numC l m=some ((l.map ClaV.m).idxOf m):=if_pos h
theorem numC_not {l:List ClaV}{m:List Bool}(h:m ∉ l.map ClaV.m):numC l m=none:=if_neg h
theorem numC_snoc {l:List ClaV}{c:ClaV}(h:c.m ∉ l.map ClaV.m):(fun q=>if q=c.m then some l.length else numC l q)=numC (l++[c]):=by
 funext q;unfold numC;rw[List.map_append,List.map_singleton];by_cases e:q=c.m
 ·subst e
  rw[if_pos rfl,if_pos (by simp),List.idxOf_append,if_neg h];simp
 ·rw[if_neg e]
  by_cases hq:q∈l.map ClaV.m
  ·rw[if_pos hq,if_pos (List.mem_append_left _ hq),List.idxOf_append,if_pos hq]
  ·rw[if_neg hq,if_neg (fun h=>by
    rcases List.mem_append.1 h with h|h
    ·exact hq h
    ·simp at h;exact e h)]
theorem qEA {l:List ClaV}{n:Nat}{c:ClaV}(hn:n<l.length)(hm:c.m=(l.getD n default).m):numC (l.set n c)=numC l:=by
 have:(l.set n c).map ClaV.m=l.map ClaV.m:=by
  rw[List.map_set,hm,zG hn];refine List.ext_getElem (by simp) fun i h1 h2=>?_;rw[List.getElem_set]
  split
  ·rename_i e;subst e;simp
  ·rfl
 unfold numC;rw[this]
def gN (m:List Bool):List Nat:=m.map fun b=>if b=true then 49 else 48
def gT (m:List Bool):ByteArray:=txtT (gN m)
theorem gN_length (m:List Bool):(gN m).length=m.length:=by simp[gN]
theorem qIN (m:List Bool):∀ x∈gN m,x<256:=by
 intro x hx;simp only[gN,List.mem_map]at hx;obtain⟨b,_,rfl⟩:=hx
 split<;>omega
theorem qHS:∀ {m n:List Bool},gN m=gN n->m=n
 | [],[],_=>rfl
 | [],y::n,h=>by simp[gN]at h
 | x::m,[],h=>by simp[gN]at h
 | x::m,y::n,h=>by
  simp only[gN,List.map_cons,List.cons.injEq]at h
  have h2:m=n:=qHS (by simpa [gN] using h.2)
  have h1:=h.1
  cases x<;>cases y<;>simp_all
theorem qGG (m:List Bool):(gT m).size=m.length:=by rw[gT,pH,gN_length]
theorem gT_snoc (m:List Bool)(b:Bool):gT (m++[b])=gT m++txtT [if b=true then 49 else 48]:=by
 rw[gT,gN,List.map_append,gI];rfl
theorem key_gT {n:Nat}(h:n<=400):KeyK 129 9 (fun m:List Bool=>m.length=n) (fun m=>.string (gT m)) where
 key:=mL
 und:=qN
 of:=fun a ha=>by rw[Go.WideMaps.keyOf_string_mk nF (by rw[qGG,ha];unfold maxLen;omega)];rfl
 inj:=fun a b ha hb e=>qHS (qCZ (qIN a) (qIN b) (by simpa [gT] using e))
def numS (l:List (List Bool))(m:List Bool):Option Nat:=if m∈l then some (l.idxOf m) else none
theorem numS_of_mem {l:List (List Bool)}{m:List Bool}(h:m∈l):numS l m=some (l.idxOf m):=if_pos h
theorem numS_not {l:List (List Bool)}{m:List Bool}(h:m ∉ l):numS l m=none:=if_neg h
theorem numS_snoc {l:List (List Bool)}{c:List Bool}(h:c ∉ l):(fun q=>if q=c then some l.length else numS l q)=numS (l++[c]):=by
 funext q;unfold numS;by_cases e:q=c
 ·subst e
  rw[if_pos rfl,if_pos (by simp),List.idxOf_append,if_neg h];simp
 ·rw[if_neg e]
  by_cases hq:q∈l
  ·rw[if_pos hq,if_pos (List.mem_append_left _ hq),List.idxOf_append,if_pos hq]
  ·rw[if_neg hq,if_neg (fun h=>by
    rcases List.mem_append.1 h with h|h
    ·exact hq h
    ·simp at h;exact e h)]
theorem EMem.put {X:Nat->Prop}{w:World}{rs:List RowS}(h:EMem X w rs){j g n cap b e i:Nat}{xs:List Value}(hr:rs[j]?=some ⟨b,e,.slice (some ⟨g,0,none⟩) n cap,n,xs,1⟩)(hi:i<n)(u:Value):EMem X (w.setCell ⟨g,i,none⟩ u) (rs.set j ⟨b,e,.slice (some ⟨g,0,none⟩) n cap,n,xs.set i u,1⟩):=by
 have h1:=List.mem_of_getElem? hr;have ho:=h.own _ h1;simp only at ho;have hg:=zC w ⟨g,i,none⟩ u;obtain⟨h4,h2⟩:=List.getElem?_eq_some_iff.1 hr;have h3:=List.pairwise_iff_getElem.1 h.apart;refine⟨fun r hr'=>?_,?_,fun r hr' k hk=>?_,fun k hk=>Nat.lt_of_lt_of_le (h.lt k hk) hg.size⟩
 ·obtain⟨q,hq,rfl⟩:=List.getElem_of_mem hr'
  rw[List.getElem_set];have h0:q<rs.length:=by simpa using hq
  split
  ·exact qAV ho hi u
  ·rename_i hne
   refine(h.own _ (List.getElem_mem h0)).kept hg (.inr (fun e1=>?_));rcases Nat.lt_or_gt_of_ne hne with hlt|hlt
   ·exact h3 j q h4 h0 hlt g (by rw[h2];rfl) e1
   ·exact h3 q j h0 h4 hlt g e1 (by rw[h2];rfl)
 ·rw[List.pairwise_iff_getElem]
  intro p q hp hq h5;have h6:p<rs.length:=by simpa using hp
  have h0:q<rs.length:=by simpa using hq
  have:=h3 p q h6 h0 h5;rw[List.getElem_set,List.getElem_set]
  split<;>split
  ·omega
  ·rename_i e1 e2;subst e1;rw[h2]at this;exact this
  ·rename_i e1 e2;subst e2;rw[h2]at this;exact this
  ·exact this
 ·rcases List.mem_or_eq_of_mem_set hr' with hr'|rfl
  ·exact h.offX r hr' k hk
  ·exact h.offX _ h1 k hk
structure GrS (w0:World)(mb np:Nat)(M:Nat->List Bool)(A:Nat->Bool)(s t:Nat)(sa ya na:Option Addr)(sc yc nc m:Nat)(svs:List Value)(sets:List (List Bool))(ys ns:List Bool)(w:World):Prop where
 mem:EMem (fun _=>False) w (⟨w0.heap.size,39,.slice sa m sc,m,svs,1⟩::⟨w0.heap.size,4,.slice ya m yc,m,bls ys,1⟩::⟨w0.heap.size,4,.slice na m nc,m,bls ns,1⟩::[])
 map:∃ u c,u<=t/\MapK 9 (fun m:List Bool=>m.length=np) (fun m=>.string (gT m)) w mb u c (numS sets)
 grp:GrpI M A s t sets ys ns
 len:m=sets.length
 gr:w0.grownBy w none
 mlo:w0.heap.size<=mb
section
variable {w0 w w':World} {mb np s t:Nat} {M:Nat->List Bool} {A:Nat->Bool} {sa ya na:Option Addr} {sc yc nc m:Nat} {svs:List Value} {sets:List (List Bool)} {ys ns:List Bool}
theorem GrS.grow (h:GrS w0 mb np M A s t sa ya na sc yc nc m svs sets ys ns w)(hg:w.grownBy w' none):GrS w0 mb np M A s t sa ya na sc yc nc m svs sets ys ns w':=by
 obtain⟨u,c,hu,hm⟩:=h.map;exact⟨h.mem.grow hg,⟨u,c,hu,hm.kept hg (by simp)⟩,h.grp,h.len,zA h.gr hg (by simp),h.mlo⟩
theorem GrS.yes (h:GrS w0 mb np M A s t sa ya na sc yc nc m svs sets ys ns w):w.ownsRow w0.heap.size 4 1 (.slice ya m yc) m (bls ys):=h.mem.own ⟨w0.heap.size,4,.slice ya m yc,m,bls ys,1⟩ (by simp)
theorem GrS.no (h:GrS w0 mb np M A s t sa ya na sc yc nc m svs sets ys ns w):w.ownsRow w0.heap.size 4 1 (.slice na m nc) m (bls ns):=h.mem.own ⟨w0.heap.size,4,.slice na m nc,m,bls ns,1⟩ (by simp)
theorem GrS.rows (h:GrS w0 mb np M A s t sa ya na sc yc nc m svs sets ys ns w):w.ownsRow w0.heap.size 39 1 (.slice sa m sc) m svs:=h.mem.own ⟨w0.heap.size,39,.slice sa m sc,m,svs,1⟩ (by simp)
theorem GrS.put {yb nb q:Nat}(h:GrS w0 mb np M A s (s+1) sa (some ⟨yb,0,none⟩) (some ⟨nb,0,none⟩) sc yc nc m svs sets ys ns w)(hq:q<m)(hm:sets.getD q []=M s){W:World}(hW:W=(w.setCell ⟨yb,q,none⟩ (.bool (ys.getD q false || A s))).setCell ⟨nb,q,none⟩ (.bool (ns.getD q false || !A s))):GrS w0 mb np M A (s+1) (s+1) sa (some ⟨yb,0,none⟩) (some ⟨nb,0,none⟩) sc yc nc m svs sets (ys.set q (ys.getD q false || A s)) (ns.set q (ns.getD q false || !A s)) W:=by
 subst hW;obtain⟨u,c,hu,h0⟩:=h.map;have hy:=h.yes;have hn:=h.no;have h1:=h.mem.put (j:=1) rfl hq (.bool (ys.getD q false || A s));have h2:=h1.put (j:=2) rfl hq (.bool (ns.getD q false || !A s));have g1:=zC w ⟨yb,q,none⟩ (.bool (ys.getD q false || A s));have g2:=zC (w.setCell ⟨yb,q,none⟩ (.bool (ys.getD q false || A s))) ⟨nb,q,none⟩ (.bool (ns.getD q false || !A s));have h3:=(hy.lt yb rfl).1;have h4:=(hn.lt nb rfl).1;have ey:yb≠mb:=fun e=>yD (es:=#[]) (clock:=0) hy h0.obj (by rw[<- e];rfl);have en:nb≠mb:=fun e=>yD (es:=#[]) (clock:=0) hn h0.obj (by rw[<- e];rfl);refine⟨?_,⟨u,c,hu,(h0.kept g1 (fun e=>ey (Oj e))).kept g2 (fun e=>en (Oj e))⟩,h.grp.put (by rw[<- h.len];exact hq) hm,h.len,zA (zA h.gr g1 (fun k e=>by have e:yb=k:=Oj e;omega)) g2 (fun k e=>by have e:nb=k:=Oj e;omega),h.mlo⟩;have e1:(bls ys).set q (.bool (ys.getD q false || A s))=bls (ys.set q (ys.getD q false || A s)):=by simp[bls]
 have e2:(bls ns).set q (.bool (ns.getD q false || !A s))=bls (ns.set q (ns.getD q false || !A s)):=by simp[bls]
 rw[<- e1,<- e2];exact h2
end
theorem cell_other2 {w:World}{b c q:Nat}{u x:Value}(h:b≠c)(hc:w.cell? ⟨c,q,none⟩=some x):(w.setCell ⟨b,q,none⟩ u).cell? ⟨c,q,none⟩=some x:=by
 have hg:=zC w ⟨b,q,none⟩ u;exact hg.cell hc (fun e=>h (Oj e).symm)
theorem frozen_other2 {w:World}{b c q:Nat}{u:Value}(h:b≠c)(hc:w.frozen? ⟨c,q,none⟩=false):(w.setCell ⟨b,q,none⟩ u).frozen? ⟨c,q,none⟩=false:=by
 go_simp
theorem pX {ops:Array Oper}{o:Oper}{a:Act}{w:World}{K:Act->World->Prop}{Q:Exit->Act->World->Prop}{R:Prop}(hgd:o.guard=none)(x y:Operand)(hop:o.op=.store 4 x y)(b i:Nat)(z:Bool)(u0:Value)(hx:a.eval x=.pointer (some ⟨b,i,none⟩))(hy:a.eval y=.bool z)(hc:w.cell? ⟨b,i,none⟩=some u0)(hf:w.frozen? ⟨b,i,none⟩=false)(hK:K (a.put o.dst undef) (w.setCell ⟨b,i,none⟩ (.bool z))):if Region.wanted o (yielded ops a.tmps)=true then Oper.wp Try.prog o a w K Q else R:=by
 have hw:Region.wanted o (yielded ops a.tmps)=true:=by simp[Region.wanted,hgd]
 rw[if_pos hw];unfold Oper.wp execOp;simp only[hop,hx,hy];go_simp;exact hK
theorem qEI {Q':Exit->Act->World->Prop}{v0 v1 v2 v3 v4 v7 v8 v9 v10 v11 v12 v13 v15 v16 v17 v19 v20 v21 v22 v23 v24 v25 v26 v27 v28 v29 v30 v31 v32 v33 v34 v35 v36 v37 v38 v39 v40 v41 v42 v43 v44 v45 v46 v47 v48 v49 v50 v51 v52 v53 v54 v55 v56 v57 v58 v59 v60 v61 v62 v63 v64 v65 v66 v67 v68 v69 v70 v71 v72 v73 v74 v75 v76 v77 v78 v79 v80 v81 v82 v83 v84 v85 v86 v87 v88 v89 v90 v91 v92 v93 v94 v95 v96 v97 v98 v99 v100 v101 v102 v103 v104 v105 v106 v107 v108 v109 v110 v111 v112 v113 v114 v115 v116 v117 v118 v119 v120 v121 v122 v123 v124:Value}{dd:_}{w:World}{yb nb yc nc n q:Nat}{y z a:Bool}(cy:w.cell? ⟨yb,q,none⟩=some (.bool y))(cn:w.cell? ⟨nb,q,none⟩=some (.bool z))(fy:w.frozen? ⟨yb,q,none⟩=false)(fn:w.frozen? ⟨nb,q,none⟩=false)(hne:yb≠nb)(hq:q<n)(hn:n<=4000)(hexit:∀ z100 z101 z102 z103 z104 z105 z106 z107 z108 z109 z110 z111 z112 z113 z114 z115 z116 z117 z118 z119 z120:Value,Q' .normal ⟨(v0::v1::v2::v3::v4::(Value.slice (some ⟨yb,0,none⟩) n yc)::(Value.slice (some ⟨nb,0,none⟩) n nc)::v7::v8::v9::v10::v11::v12::v13::(Value.bool a)::v15::v16::v17::(Value.int .i64 (q:Int))::v19::v20::v21::v22::v23::v24::v25::v26::v27::v28::v29::v30::v31::v32::v33::v34::v35::v36::v37::v38::v39::v40::v41::v42::v43::v44::v45::v46::v47::v48::v49::v50::v51::v52::v53::v54::v55::v56::v57::v58::v59::v60::v61::v62::v63::v64::v65::v66::v67::v68::v69::v70::v71::v72::v73::v74::v75::v76::v77::v78::v79::v80::v81::v82::v83::v84::v85::v86::v87::v88::v89::v90::v91::v92::v93::v94::v95::v96::v97::v98::v99::z100::z101::z102::z103::z104::z105::z106::z107::z108::z109::z110::z111::z112::z113::z114::z115::z116::z117::z118::z119::z120::v121::v122::v123::v124::[]).toArray,dd⟩ ((w.drew.setCell ⟨yb,q,none⟩ (.bool (y || a))).setCell ⟨nb,q,none⟩ (.bool (z || !a)))):Code.wp Try.prog (reg Try.f62 26) Q' ⟨(v0::v1::v2::v3::v4::(Value.slice (some ⟨yb,0,none⟩) n yc)::(Value.slice (some ⟨nb,0,none⟩) n nc)::v7::v8::v9::v10::v11::v12::v13::(Value.bool a)::v15::v16::v17::(Value.int .i64 (q:Int))::v19::v20::v21::v22::v23::v24::v25::v26::v27::v28::v29::v30::v31::v32::v33::v34::v35::v36::v37::v38::v39::v40::v41::v42::v43::v44::v45::v46::v47::v48::v49::v50::v51::v52::v53::v54::v55::v56::v57::v58::v59::v60::v61::v62::v63::v64::v65::v66::v67::v68::v69::v70::v71::v72::v73::v74::v75::v76::v77::v78::v79::v80::v81::v82::v83::v84::v85::v86::v87::v88::v89::v90::v91::v92::v93::v94::v95::v96::v97::v98::v99::v100::v101::v102::v103::v104::v105::v106::v107::v108::v109::v110::v111::v112::v113::v114::v115::v116::v117::v118::v119::v120::v121::v122::v123::v124::[]).toArray,dd⟩ w:=by
 conv=>arg 2;whnf
 have h3:(q:Int)<n:=by omega
 obtain⟨W0,h0⟩:∃ W0,W0=w.drew:=⟨_,rfl⟩;have HE:=Kh hexit;rw[<- h0]at HE;have C:Hid (W0.cell? ⟨yb,q,none⟩=some (.bool y)/\W0.cell? ⟨nb,q,none⟩=some (.bool z)):=Kh (by rw[h0];exact⟨cy,cn⟩);have F0:Hid (W0.frozen? ⟨yb,q,none⟩=false/\W0.frozen? ⟨nb,q,none⟩=false):=Kh (by rw[h0];exact⟨fy,fn⟩);have h1:=Kh hne;have h2:=Kh h0;clear hexit cy cn fy fn h0 hne;refine wp_region_noPanic ?_;refine wQ (G:=tZ 20 (fun _=>True) (fun W=>W.cell? ⟨yb,q,none⟩=some (.bool y)/\W.cell? ⟨nb,q,none⟩=some (.bool z))) (by kernel_rfl) ?_;cases y<;>cases z<;>cases a
 all_goals
  rw[<- h2.out];refine zW 0 ⟨trivial,fun _=>C.out⟩ ?_;refine zW 1 ⟨trivial,fun _=>C.out⟩ ?_;refine zW 2 ⟨trivial,fun _=>C.out⟩ ?_;refine zW 3 ⟨trivial,fun _=>C.out⟩ ?_;refine zW 4 ⟨trivial,fun _=>C.out⟩ ?_;refine zW 5 ⟨trivial,fun _=>C.out⟩ ?_;refine zW 6 ⟨trivial,fun _=>C.out⟩ ?_;refine zW 11 ⟨trivial,fun _=>C.out⟩ ?_;refine zW 12 ⟨trivial,fun _=>C.out⟩ ?_;refine zW 13 ⟨trivial,fun _=>C.out⟩ ?_;refine dD 7 ⟨trivial,fun _=>C.out⟩ ?_;refine dD 14 ⟨trivial,fun _=>C.out⟩ ?_;refine zW 8 ⟨trivial,fun _=>C.out⟩ ?_
  first
  | (refine qCH (i:=9) (v:=undef) rfl rfl (by kernel_rfl) (by kernel_rfl) (by kernel_rfl) (fun _ _ _ h=>h) (Or.inr ⟨?_,rfl⟩) ⟨trivial,fun _=>C.out⟩ ?_;· (simp[Region.wanted,yielded];done))
  | (refine qCH (i:=9) (v:=?_) rfl rfl (by kernel_rfl) (by kernel_rfl) (by kernel_rfl) (fun _ _ _ h=>h) (Or.inl ⟨by first|(simp[Region.wanted,yielded];done)|kernel_rfl,?_⟩) ⟨trivial,fun _=>C.out⟩ ?_;rotate_left;· (rintro wz hz;(try dsimp only at hz);go_simp;(try with_reducible rfl)))
  try simp only[Act.put,sPd,sPe,sPf,sPa,sPb,sPc]
  refine zW 10 ⟨trivial,fun _=>C.out⟩ ?_;refine zW 15 ⟨trivial,fun _=>C.out⟩ ?_
  first
  | (refine qCH (i:=16) (v:=undef) rfl rfl (by kernel_rfl) (by kernel_rfl) (by kernel_rfl) (fun _ _ _ h=>h) (Or.inr ⟨?_,rfl⟩) ⟨trivial,fun _=>C.out⟩ ?_;· (simp[Region.wanted,yielded];done))
  | (refine qCH (i:=16) (v:=?_) rfl rfl (by kernel_rfl) (by kernel_rfl) (by kernel_rfl) (fun _ _ _ h=>h) (Or.inl ⟨by first|(simp[Region.wanted,yielded];done)|kernel_rfl,?_⟩) ⟨trivial,fun _=>C.out⟩ ?_;rotate_left;· (rintro wz hz;(try dsimp only at hz);go_simp;(try with_reducible rfl)))
  try simp only[Act.put,sPd,sPe,sPf,sPa,sPb,sPc]
  first
  | (refine qCH (i:=17) (v:=undef) rfl rfl (by kernel_rfl) (by kernel_rfl) (by kernel_rfl) (fun _ _ _ h=>h) (Or.inr ⟨?_,rfl⟩) ⟨trivial,fun _=>C.out⟩ ?_;· (simp[Region.wanted,yielded];done))
  | (refine qCH (i:=17) (v:=?_) rfl rfl (by kernel_rfl) (by kernel_rfl) (by kernel_rfl) (fun _ _ _ h=>h) (Or.inl ⟨by first|(simp[Region.wanted,yielded];done)|kernel_rfl,?_⟩) ⟨trivial,fun _=>C.out⟩ ?_;rotate_left;· (rintro wz hz;(try dsimp only at hz);go_simp;(try with_reducible rfl)))
  try simp only[Act.put,sPd,sPe,sPf,sPa,sPb,sPc]
  refine zW 18 ⟨trivial,fun _=>C.out⟩ ?_;refine zW 19 ⟨trivial,fun _=>C.out⟩ ?_;have c1:=C.out.1;have f1:=F0.out.1;refine oneG (i:=20) (by kernel_rfl) rfl (fun K hK=>?_)
  first|refine pX rfl (.tmp 119) (.tmp 110) rfl yb q true _ rfl rfl c1 f1 ?_|refine pX rfl (.tmp 119) (.tmp 110) rfl yb q false _ rfl rfl c1 f1 ?_
  refine hK.out _ _ ⟨trivial,fun h=>by cases h⟩ ?_;clear hK K c1 f1
  try simp only[Act.put,sPd,sPe,sPf,sPa,sPb,sPc]
  refine zW 21 ⟨trivial,fun h=>by cases h⟩ ?_;have c1:=fun u=>cell_other2 (u:=u) h1.out C.out.2;have f1:=fun u=>frozen_other2 (u:=u) h1.out F0.out.2;refine oneG (i:=22) (by kernel_rfl) rfl (fun K hK=>?_)
  first|refine pX rfl (.tmp 120) (.tmp 118) rfl nb q true _ rfl rfl (c1 _) (f1 _) ?_|refine pX rfl (.tmp 120) (.tmp 118) rfl nb q false _ rfl rfl (c1 _) (f1 _) ?_
  refine hK.out _ _ ⟨trivial,fun h=>by cases h⟩ ?_;clear hK K c1 f1
  try simp only[Act.put,sPd,sPe,sPf,sPa,sPb,sPc]
  refine rH (by kernel_rfl) ?_ _;exact HE.out _ _ _ _ _ _ _ _ _ _ _ _ _ _ _ _ _ _ _ _ _
theorem GrpI.len_le {M:Nat->List Bool}{A:Nat->Bool}{s t:Nat}{sets:List (List Bool)}{ys ns:List Bool}(h:GrpI M A s t sets ys ns):sets.length<=t:=by
 have h1:=List.Nodup.length_le_of_subset (l₂:=(List.range t).map M) h.nd (fun x hx=>by
  obtain⟨i,hi,e⟩:=h.met x hx
  exact List.mem_map.2 ⟨i,List.mem_range.2 hi,e⟩)
 simpa using h1
theorem elem_rowB:ElemN Try.prog 102 39 1 (.slice none 0 0) 24:=⟨by kernel_rfl,by kernel_rfl,by rfl,by decide⟩
theorem row_frontB {w:World}{lb gc k:Nat}{e:TypeId}{L:List Bool}(hA:Arr w lb e (bls L))(hk:k<=L.length)(hc:L.length<=gc)(hm:gc<=maxLen):Row w.heap.size w (.slice (some ⟨lb,0,none⟩) k gc) (bls (L.take k)):=by
 have hl:(bls (L.take k)).length=k:=by rw[yL,List.length_take];omega
 refine .inr ⟨lb,0,gc,by rw[hl],hA.lt,by rw[hl];omega,hm,?_⟩;have:=hA.row.take k
 rwa [show bls (L.take k)=(bls L).take k by simp[bls,List.map_take]]
def qGZ (w:World)(d:DfaV)(ps:List (List ByteArray))(e:Ending)(w':World):Prop :=
 w.grownBy w' none/\((∃ a,e=.returned (.tuple #[.slice none 0 0,.slice none 0 0,.slice none 0 0,.int .i64 a])/\a≠0/\(a=autE d.letters ps\/(autE d.letters ps=0/\a=3/\Over (ofT d ps) d.letters.toNat))) \/
  (autE d.letters ps=0/\∃ (B:Nat) (L:List (List Nat)) (sets:List (List Bool)) (ys ns:List Bool) (m sc yc nc:Nat) (sa ya na:Option Addr),e=.returned (.tuple #[.slice sa m sc,.slice ya m yc,.slice na m nc,.int .i64 0])/\w.heap.size<=B/\m=sets.length/\BfsD (nxtT (ofT d ps)) d.letters.toNat (st0T (ofT d ps)) L/\L.length<=4000/\GrpI (MT (ofT d ps) ps.length L) (AT (ofT d ps) ps.length L) L.length L.length sets ys ns/\w'.ownsRow B 4 1 (.slice ya m yc) m (bls ys)/\w'.ownsRow B 4 1 (.slice na m nc) m (bls ns)))
theorem rgroups_any (Bd:Nat)(w:World)(dv pv:Value)(d:DfaV)(ps:List (List ByteArray))(hBd:Bd<=w.heap.size)(hd:uW Bd w dv d)(hp:PatsIn Bd w pv ps)(hp4:ps.length<=4096)(hv:xD d=0)(h14:∀ p∈ps,patW p d.letters=0->sG p<=14):Calls Try.prog 62 #[dv,pv] w (qGZ w d ps):=by
 have f7:=dC hv;obtain⟨k,hk⟩:∃ k,k=d.letters.toNat:=⟨_,rfl⟩;have t0:=f7.hk;have e3:d.letters=(k:Int):=by omega
 have r0:Hid (autE d.letters ps=0->ofE d ps=0/\OkT (ofT d ps) k):=Kh (fun h=>by
  have h0:ofE d ps=0:=by unfold ofE;rw[if_pos hv];exact h
  exact⟨h0,by rw[hk];exact qDW h0⟩)
 have j2:=Kh f7;have HK:=Kh hk;have b9:=Kh e3;have e9:=hd;obtain⟨fv,nv,rfl,hf,hn⟩:=hd;obtain⟨fa,fc,rfl⟩:=hf.shape;rw[yL]at e9 hf ⊢;obtain⟨na,nc,rfl⟩:=hn.shape;obtain⟨pa,pc,rfl⟩:=hp.shape;obtain⟨np,g0⟩:∃ n,n=ps.length:=⟨_,rfl⟩;obtain⟨fl,i3⟩:∃ n,n=d.final.length:=⟨_,rfl⟩;obtain⟨nl,g5⟩:∃ n,n=d.next.length:=⟨_,rfl⟩;obtain⟨ds,b8⟩:∃ n,n=d.start:=⟨_,rfl⟩;have n3:=Kh g0;have HP:=Kh hp;have s5:=Kh h14;rw[<- g0]at hp4 HP ⊢;rw[<- i3,<- g5,e3,<- b8]at e9;rw[<- i3,<- g5,e3,<- b8];have HD:=Kh e9;obtain⟨wA,f0⟩:∃ wA,wA=w.alloc (.cells #[.int .i64 (k:Int),.int .i64 ds,.slice fa fl fc,.slice na nl nc] 42):=⟨_,rfl⟩;have a4:=Ga w (.cells #[.int .i64 (k:Int),.int .i64 ds,.slice fa fl fc,.slice na nl nc] 42) none;have d3:=heap_alloc_new w (.cells #[.int .i64 (k:Int),.int .i64 ds,.slice fa fl fc,.slice na nl nc] 42);obtain⟨Q,hQ⟩:∃ Q,Q=w.heap.size:=⟨_,rfl⟩;have l2:wA.heap.size=Q+1:=by rw[f0,zJ,hQ]
 rw[<- f0]at a4 d3;rw[<- hQ]at d3;obtain⟨c0,c1,c2,c3⟩:=zF d3;have d5:=Kh hQ;have c4:=Kh a4;have s4:=Kh d3;have q8:=Kh f0;have j1:=Kh l2;have k8:Hid (Calls Try.prog 51 #[.slice pa np pc,.int .i64 (k:Int)] wA (qFE wA (autE (k:Int) ps) (autD ps (k:Int)))):=Kh (autos34_any Bd wA _ ps (k:Int) (by have:=a4.size;omega) (HP.out.kept a4 (by simp)) (by rw[<- n3.out];exact hp4) (by rw[<- b9.out];exact s5.out));obtain⟨E,hE⟩:∃ E,E=autE (k:Int) ps:=⟨_,rfl⟩;rw[<- hE]at k8;have HE:=Kh hE;clear d3 a4 f0 l2 hQ hf hn e9 hp g0 i3 g5 b8 hE h14 hk e3 f7 hv c1 c2 c3;go_enter Try.func62,Try.ntmps62;go_upto_region 1 with fail;rw[<- q8.out,<- d5.out];go_wp2_with fail;refine k8.out.mono ?_;rintro e w1 ⟨sa,n2,sc,rfl,b5,a7⟩;have d9:=Kh b5;have n8:=Kh (zA c4.out b5 (by simp));have s3:=Kh (zB s4.out b5 (by simp));have q7:Hid (Q+1<=w1.heap.size):=Kh (by rw[<- j1.out];exact b5.size);clear b5 k8 c0;by_cases hE0:E=0
 case neg =>
  have e1:(E != 0)=true:=by rw[bne_iff_ne];exact hE0
  have r4:=Kh hE0;clear hE0 a7;go_wp2;refine bodyPost_ret (v:=.tuple #[.slice none 0 0,.slice none 0 0,.slice none 0 0,.int .i64 E]) (by simp[results,Try.results62,go_sem]) rfl ?_;exact⟨n8.out,.inl ⟨E,rfl,r4.out,.inl (by rw[HE.out,b9.out])⟩⟩
 case pos =>
  subst hE0
  have h2:n2=(autD ps (k:Int)).length/\∃ l,l.map (·.1)=autD ps (k:Int)/\DsUp wA.heap.size w1 (.slice sa n2 sc) l:=by
   rcases a7 with h|h
   ·exact absurd rfl h
   ·exact h.2
  obtain⟨e2,lp,g8,f8⟩:=h2;clear a7;rw[j1.out]at f8;have j0:autE d.letters ps=0:=by rw[b9.out,<- HE.out]
  obtain⟨i9,H5⟩:=r0.out j0
  have H5:OkT (autD ps (k:Int)++[minD d k]) k:=by
   rw[ofT,b9.out,Int.toNat_natCast]at H5;exact H5
  have d0:n2<=300:=by have:=(oE i9).2.1;rw[e2,yY];exact this
  have d1:n2=ps.length:=by rw[e2,yY]
  have m0:lp.length=n2:=by rw[e2,<- g8,List.length_map]
  have m2:=j2.out.k1;have m1:=j2.out.k6;rw[<- HK.out]at m2 m1;have j8:Hid (∀ W:World,wA.grownBy W none->Calls Try.prog 54 #[.agg #[.int .i64 (k:Int),.int .i64 ds,.slice fa fl fc,.slice na nl nc]] W (qGX W (minD d k))):=Kh (fun W hW=>fM Bd W _ d d.final.length k (by have:=c4.out.size;have:=hW.size;omega) (HD.out.kept (zA c4.out hW (by simp)) (by simp)) (by have:=j2.out;rw[<- HK.out]at this;exact this));have H7:=Kh H5;have q9:=Kh f8;have r6:=Kh g8;have r7:=Kh m0;have f1:=Kh d1;have t6:=Kh i9;have n9:=Kh j0;have b5:=n8.out;have k2:Hid (wA.grownBy w1 none):=Kh (by exact d9.out);clear H5 f8 g8 m0 e2 d1 i9 j0 b5;go_upto_region 4 with fail;refine gr_reg4 (Bd:=Bd) (w0:=wA) (base:=Q+1) s3.out k2.out q7.out (by rw[j1.out];exact Nat.le_refl _) (Nat.lt_succ_self _) q9.out r6.out r7.out f1.out d0 j8.out H7.out m2 m1 ?_ ?_
  ·intro o4 z30 z31 z32 z33 z34 z35 z36 z37 z38 z39 z40 R w2 d2
   go_wp2;refine bodyPost_ret (v:=.tuple #[.slice none 0 0,.slice none 0 0,.slice none 0 0,.int .i64 3]) (by simp[results,Try.results62,go_sem]) rfl ?_;exact⟨zA c4.out d2 (by simp),.inl ⟨3,rfl,by decide,.inr ⟨n9.out,rfl,by rw[ofT,<- HK.out,b9.out];exact o4⟩⟩⟩
  ·have o8:n2=np:=by rw[n3.out,f1.out]
   subst o8;intro z30 z31 z32 z33 z34 z35 z36 z37 z38 z39 z40 R w2 B8 sN sS sT cN cS cT LL TL L T l i8 q4 g9 i5 l4 b8 H6 i1 c5 d2;obtain⟨dl,e8⟩:∃ x,x=autD ps (k:Int)++[minD d k]:=⟨_,rfl⟩;have m7:dl.length=n2+1:=by rw[e8,List.length_append,yY,f1.out];rfl
   rw[<- e8]at g9 H6 c5 H7;have n0:0<L.length:=(by have:=H6.hd;rcases Nat.eq_zero_or_pos L.length with h|h;(rw[List.eq_nil_of_length_eq_zero h]at this;cases this);exact h);obtain⟨sb8,sc8,nv8,c7⟩:=l4.view n0;obtain⟨M,hM⟩:∃ M:Nat->List Bool,M=MT dl n2 L:=⟨_,rfl⟩;obtain⟨A,hA⟩:∃ A:Nat->Bool,A=AT dl n2 L:=⟨_,rfl⟩;have H1:Hid (∀ i,(M i).length=n2):=Kh (fun i=>by rw[hM];exact oH _ _ _);have r9:Hid (∀ i,mtsT dl (n2+1) (L.getD i [])=M i++[A i]):=Kh (fun i=>by rw[hM,hA];show mtsT dl (n2+1) _=mtsT dl n2 _++[accT dl _ n2];unfold mtsT;rw[List.range_succ,List.map_append];rfl)
   have k4:Hid (∀ (W:World) (i:Nat),w2.grownBy W none->i<LL->Calls Try.prog 53 #[.agg #[.slice sN (n2+1) cN,.slice sS LL cS,.slice sT TL cT],.int .i64 (i:Int)] W fun e w'=>∃ sa sc,e=.returned (.slice sa (n2+1) sc)/\w'.ownsRow W.heap.size 4 1 (.slice sa (n2+1) sc) (n2+1) (bls (M i++[A i]))/\W.grownBy w' none):=Kh (fun W i hW hi=>by
    have:=rfinals_any w2.heap.size W k _ _ nv8 dl L T sb8 sc8 i hW.size (c7.grow hW) (by have:=b8.in_;rw[g9]at this;exact this.kept hW (by simp)) H7.out (by rw[<- i8];exact hi) (by
     have m3:i<L.length:=(by omega);obtain⟨u,hu,eu⟩:=H6.re _ (List.getElem_mem m3);rw[zG m3,<- eu]
     exact H7.out.walk u H7.out.in0 hu) (by omega) (by omega) i1
    rw[m7,r9.out]at this
    exact this)
   have r8:Hid (GrpI M A 0 0 [] [] []):=Kh (GrpI.nil M A)
   have j7:Hid (∀ e w',(w.grownBy w' none/\∃ (sets:List (List Bool)) (ys ns:List Bool) (m sc yc nc:Nat) (sa ya na:Option Addr),e=.returned (.tuple #[.slice sa m sc,.slice ya m yc,.slice na m nc,.int .i64 0])/\m=sets.length/\GrpI M A LL LL sets ys ns/\w'.ownsRow w2.heap.size 4 1 (.slice ya m yc) m (bls ys)/\w'.ownsRow w2.heap.size 4 1 (.slice na m nc) m (bls ns))->qGZ w d ps e w'):=Kh (fun e w' h=>by
    obtain⟨hg,sets,ys,ns,m,sc,yc,nc,sa,ya,na,h1,h2,h3,h4,h5⟩:=h;have e1:ofT d ps=dl:=by rw[ofT,b9.out,Int.toNat_natCast,e8]
    rw[hM,hA,i8,f1.out]at h3
    exact⟨hg,.inr ⟨n9.out,w2.heap.size,L,sets,ys,ns,m,sc,yc,nc,sa,ya,na,h1,(zA c4.out d2 (by simp)).size,h2,by rw[e1,<- HK.out];exact H6,i1,by rw[e1];exact h3,h4,h5⟩⟩)
   have j9:Hid (w.grownBy w2 none):=Kh (zA c4.out d2 (by simp));have s2:=Kh i5;obtain⟨b0,b1,b2⟩:=zM i5;have q5:LL<=4000:=by omega
   have n4:=Kh (key_gT (n:=n2) (by omega));clear e8 hM hA i8 q4 g9 l4 b8 H6 c5 d2 c7 i5 n0 i1 m7;have p6:=@run_makeMap Try.prog;go_upto_region 8 with fail;obtain⟨mb,l5⟩:∃ b,b=w2.heap.size:=⟨_,rfl⟩;obtain⟨w3,l3⟩:∃ w3,w3=w2.alloc (.map #[] 0):=⟨_,rfl⟩;have H0:=MapK.made 9 (fun m:List Bool=>m.length=n2) (fun m=>.string (gT m)) w2;have e7:=Ga w2 (.map #[] 0) none;rw[<- l3]at H0 e7 ⊢;rw[<- l5]at H0 ⊢;have n1:Hid (GrS w2 mb n2 M A 0 0 none none none 0 0 0 0 [] [] [] [] w3):=Kh ⟨⟨fun r hr=>by(simp only[List.mem_cons,List.not_mem_nil,or_false]at hr;rcases hr with rfl|rfl|rfl<;>exact World.ownsRow_nil _ _ _ _),by simp[Value.ownBlock],fun r hr j hj=>by(simp only[List.mem_cons,List.not_mem_nil,or_false]at hr;rcases hr with rfl|rfl|rfl<;>cases hj),fun j hj=>hj.elim⟩,⟨0,0,Nat.le_refl _,H0⟩,r8.out,rfl,e7,by omega⟩;have b1:=xE b1 e7;clear H0 l3 e7 p6 b0 b2 l5;go_wp2
   go_loopg [4,5,6,11,12,13,14,15,17,18,19,48] LL (fun gh v4 v5 v6 v11 v12 v13 v14 v15 v17 v18 v19 v48 wr=>∃ (s m sc yc nc:Nat) (sa ya na:Option Addr) (svs:List Value) (sets:List (List Bool)) (ys ns:List Bool),gh+s=LL/\v48=.int .i64 s/\v4=.slice sa m sc/\v5=.slice ya m yc/\v6=.slice na m nc/\GrS w2 mb n2 M A s s sa ya na sc yc nc m svs sets ys ns wr)
   case atStart=>exact⟨0,0,0,0,0,none,none,none,[],[],[],[],rfl,rfl,rfl,rfl,rfl,n1.out⟩
   case round =>
    clear n1;obtain⟨s,m,sc,yc,nc,sa,ya,na,svs,sets,ys,ns,m4,rfl,rfl,rfl,rfl,e0⟩:=hrel;have d7:=Kh m4;have b6:=Kh e0;clear m4;by_cases hs:s<LL
    case neg =>
     have o2:s=LL:=by have:=d7.out;omega
     have o3:¬ (s:Int)<LL:=(by omega);subst o2;go_wp2;refine bodyPost_ret (v:=.tuple #[.slice sa m sc,.slice ya m yc,.slice na m nc,.int .i64 0]) (by simp[results,Try.results62,go_sem]) rfl ?_;exact j7.out _ _ ⟨zA j9.out b6.out.gr (by simp),sets,ys,ns,m,sc,yc,nc,sa,ya,na,rfl,b6.out.len,b6.out.grp,b6.out.yes,b6.out.no⟩
    case pos =>
     have o3:(s:Int)<LL:=(by omega);obtain⟨b0,b1',b2⟩:=zM (zB s2.out e0.gr (by simp));have a5:=Kh (k4.out wr s e0.gr hs);clear e0 b1;go_wp2_with fail;refine a5.out.mono ?_;rintro e w4 ⟨ga,gc,rfl,a8,m6⟩;obtain⟨fb,rfl,m8,i4,a0⟩:=yW a8 (by omega);have t5:gc<=9223372036854775807:=by unfold maxLen at i4;omega
     have o9:n2<=gc:=by omega
     have p9:fb<w4.heap.size:=(a8.lt fb rfl).2
     have c1:w4.cell? ⟨fb,n2,none⟩=some (.bool (A s)):=by
      have h8:=a0.bool n2 (by rw[List.length_append,H1.out];simp);rw[rS (H1.out s).symm]at h8;exact h8
     have j4:=Kh (b6.out.grow m6)
     have k9:Hid (∀ W:World,w4.grownBy W none->∀ j,j<n2->W.cell? ⟨fb,j,none⟩=some (.bool ((M s).getD j false))):=Kh (fun W hW j hj=>by
      have h8:=(a0.kept hW (by simp)).bool j (by rw[List.length_append,H1.out];omega);rw[pN (by rw[H1.out];exact hj)]at h8
      exact h8)
     have l0:=Kh a0;have n6:Hid (n2+1<=gc/\gc<=maxLen):=Kh ⟨m8,i4⟩;have p0:(n2:Int)<(n2+1:Nat):=(by omega);clear a8 m6 a0 b0 b1' b2 a5 b6 m8 i4;go_upto_region 12 with fail
     go_quiet (fail)
     clear c1;obtain⟨ab,i6⟩:∃ b,b=A s:=⟨_,rfl⟩;rw[<- i6];have o0:=Kh i6;clear i6;go_wp2
     go_loopg [15,17,65] n2 (fun gh v15 v17 v65 wr=>∃ j:Nat,gh+j=n2/\v65=.int .i64 j/\v15=.string (gT ((M s).take j))/\w4.grownBy wr none)
     case atStart=>exact⟨0,rfl,rfl,rfl,by first|exact zN _ _ _|exact zO _ _|exact zL _ _⟩
     case round =>
      obtain⟨j,m5,rfl,rfl,b7⟩:=hrel;have k0:=Kh m5;clear m5;by_cases hj:j<n2
      ·have p8:(j:Int)<n2:=by omega
       have c2:=k9.out _ b7 j hj;have hU:(gT ((M s).take j)).size=j:=by rw[qGG,List.length_take,H1.out];omega
       have j5:Hid (gT ((M s).take (j+1))=gT ((M s).take j)++txtT [if (M s).getD j false=true then 49 else 48]):=Kh (by
        rw[<- gT_snoc,zG (by rw[H1.out];exact hj),List.take_add_one,List.getElem?_eq_getElem (by rw[H1.out];exact hj)];rfl)
       obtain⟨U,i7⟩:∃ U,U=gT ((M s).take j):=⟨_,rfl⟩;rw[<- i7]at hU j5;rw[<- i7];obtain⟨bj,m9⟩:∃ b,b=(M s).getD j false:=⟨_,rfl⟩;rw[<- m9]at c2 j5;have s8:(⟨#[49]⟩:ByteArray).size=1:=rfl;have s7:(⟨#[48]⟩:ByteArray).size=1:=rfl;have k3:=Kh b7;clear i7 m9 b7;have p7:¬ 9223372036854775807<U.size+1:=(by omega);cases bj
       all_goals
        go_wp2;go_roundg (n2 - (j+1))
        case measure=>have:=k0.out;omega
        case rel=>exact⟨j+1,by have:=k0.out;omega,by go_num,by rw[j5.out];rfl,k3.out⟩
      ·have t4:j=n2:=by have:=k0.out;omega
       have p8:¬ (j:Int)<n2:=(by omega);have etk:(M s).take j=M s:=List.take_of_length_le (by rw[H1.out];omega);rw[etk];have H4:=j4.out.grow b7;have k3:=Kh b7;obtain⟨u,c,hu,b4⟩:=H4.map;have H2:=b4.lookup n4.out (x:=M s) (H1.out s);obtain⟨U,hU⟩:∃ U,U=gT (M s):=⟨_,rfl⟩;rw[<- hU];have HU:=Kh hU;have j3:=Kh hu;have h7:=Kh b4;have h6:=Kh H4;have s9:m<=s:=by rw[H4.len];exact H4.grp.len_le
       clear hU hu b4 H4 etk b7;by_cases hmem:M s∈sets
       ·obtain⟨q,hq⟩:∃ q,q=sets.idxOf (M s):=⟨_,rfl⟩
        have H9:q<sets.length:=(by rw[hq];exact List.idxOf_lt_length_of_mem hmem);have f9:q<m:=by rw[h6.out.len];exact H9
        have c6:sets.getD q []=M s:=by
         rw[zG H9];have h1:=List.getElem_idxOf (x:=M s) (xs:=sets) (by rw[<- hq];exact H9);simp only[<- hq]at h1;exact h1
        have i0:Sem.run Try.prog (Instr.lookup 129 (.map (some mb)) (.string U) true) wr=.ok (.tuple #[.int .i64 (q:Int),.bool true]) wr:=by
         rw[numS_of_mem hmem,<- hq]at H2;rw[HU.out];exact H2
        have H3:Hid (GrS w2 mb n2 M A s (s+1) sa ya na sc yc nc m svs sets ys ns wr):=Kh ⟨h6.out.mem,⟨u,c,Nat.le_succ_of_le j3.out,h7.out⟩,h6.out.grp.old hmem,h6.out.len,h6.out.gr,h6.out.mlo⟩;obtain⟨yb,rfl,f6,f5,a6⟩:=yW H3.out.yes (by omega);obtain⟨nb,rfl,g7,b3,a9⟩:=yW H3.out.no (by omega);have cy:=a6.bool q (by rw[H3.out.grp.leny];exact H9);have cn:=a9.bool q (by rw[H3.out.grp.lenn];exact H9);have fy:=a6.frozen q;have fn:=a9.frozen q;have c9:yb≠nb:=fun e=>(List.pairwise_cons.1 (List.pairwise_cons.1 H3.out.mem.apart).2).1 _ (List.mem_cons_self ..) yb rfl (by rw[e];rfl);have d4:=Kh f9;have d5:=Kh c6;have HC:=Kh (And.intro cy (And.intro cn (And.intro fy (And.intro fn c9))));clear H2 hq H9 c6 hmem f6 f5 a6 g7 b3 a9 cy cn fy fn c9 h6 h7;go_upto_region 26 with fail;clear i0;refine qEI HC.out.1 HC.out.2.1 HC.out.2.2.1 HC.out.2.2.2.1 HC.out.2.2.2.2 d4.out (by omega) ?_;intro z100 z101 z102 z103 z104 z105 z106 z107 z108 z109 z110 z111 z112 z113 z114 z115 z116 z117 z118 z119 z120;go_wp2;go_roundg (LL - (s+1))
        case measure=>have:=d7.out;omega
        case rel =>
         have hW:=(H3.out.grow (zO wr none)).put d4.out d5.out rfl;rw[<- o0.out]at hW;exact⟨s+1,m,sc,yc,nc,sa,_,_,svs,sets,_,_,by have:=d7.out;omega,by go_num,rfl,rfl,rfl,hW⟩
       ·have i0:Sem.run Try.prog (Instr.lookup 129 (.map (some mb)) (.string U) true) wr=.ok (.tuple #[.int .i64 0,.bool false]) wr:=by
         rw[numS_not hmem]at H2;rw[HU.out];exact H2
        have d6:=Kh hmem;clear H2 hmem;go_upto_region 25 with (first|(at_mapUpdate;refine pI n4.out rfl _ _ _ rfl mb u c (numS sets) (M s) m rfl ?k1 rfl h7.out (by have:=j3.out;unfold maxLen;omega) (H1.out s) (by omega) ?_;(case k1=>(show _=Value.string (gT (M s));rw[<- HU.out];rfl));intro w8 l9 e6)|fail)
        have HN:Hid ((Value.slice sa m sc).ownBlock≠some mb/\(Value.slice ya m yc).ownBlock≠some mb/\(Value.slice na m nc).ownBlock≠some mb):=Kh ⟨yD (es:=#[]) (clock:=0) h6.out.rows h7.out.obj,yD (es:=#[]) (clock:=0) h6.out.yes h7.out.obj,yD (es:=#[]) (clock:=0) h6.out.no h7.out.obj⟩
        have s1:=Kh (h6.out.mem.far e6 (fun r hr=>by
         simp only[List.mem_cons,List.not_mem_nil,or_false]at hr;rcases hr with rfl|rfl|rfl
         ·exact HN.out.1
         ·exact HN.out.2.1
         ·exact HN.out.2.2))
        have f2:Hid (w2.grownBy w8 none):=Kh (zA h6.out.gr e6 (fun k e=>by have e:mb=k:=Oj e;have:=h6.out.mlo;omega));have r5:=Kh l9
        have j6:Hid (Row (w8.alloc (.cells #[] 4)).heap.size (w8.alloc (.cells #[] 4)) (.slice (some ⟨fb,0,none⟩) n2 gc) (bls (M s))):=Kh (by
         have h8:=l0.out.kept k3.out (by simp);have g6:mb≠fb:=fun e=>by obtain⟨es,cl,hb⟩:=h7.out.obj;obtain⟨cs,r,q0,_⟩:=id h8;rw[e,q0]at hb;simp at hb
         have h9:=(h8.kept e6 (fun e=>g6 (Oj e))).kept (Ga w8 (.cells #[] 4) none) (by simp);have q6:=row_frontB (k:=n2) h9 (by rw[List.length_append,H1.out];omega) (gc:=gc) (by rw[List.length_append,H1.out];exact n6.out.1) n6.out.2
         rwa [List.take_left' (H1.out s)]at q6)
        have s6:=f2.out.size;clear l9 e6 i0;go_upto_region 26 with (first|(at_builtin;refine appR rfl (.tmp 89) (.tmp 90) _ rfl xW w8.heap.size _ 0 [] rfl (pK (heap_alloc_new w8 _) (Nat.le_refl _)) _ (bls (M s)) rfl ⟨_,j6.out⟩ ?p1 n2 ?p2 ?p3 ?p4 ?p5 ?_;(case p1=>(intro v hv;obtain⟨b,_,rfl⟩:=List.mem_map.1 hv;rfl));(case p2=>(rw[yL,H1.out];omega));(case p3=>(unfold maxLen;omega));(case p4=>omega);(case p5=>(rw[zJ];omega));intro sA cA wA c8 a4;have H8:=Kh (zA (Ga w8 (.cells #[] 4) none) a4 (fun k e=>by have e:w8.heap.size=k:=Oj e;omega));have f3:=Kh (s1.out.grow H8.out);have f4:=(zA f2.out H8.out (by simp)).size;clear c8 a4)|(at_builtin;refine vI rfl (.tmp 88) (.tmp 92) _ rfl elem_rowB w2.heap.size (.slice sa m sc) m svs rfl (f3.out.own ⟨w2.heap.size,39,.slice sa m sc,m,svs,1⟩ (by simp)) [.slice sA n2 cA] rfl rfl ?q1 ?q2 ?q3 f4 ?_;(case q1=>(intro v hv;simp only[List.mem_cons,List.not_mem_nil,or_false]at hv;subst hv;rfl));(case q2=>(unfold maxLen;omega));(case q3=>omega);intro sB cB wB a3 e5 l8;have n7:=Kh e5;have k7:=Kh (f3.out.appAt (j:=0) rfl a3 e5 l8);have l1:=(zA (zA f2.out H8.out (by simp)) e5 (fun k e=>((f3.out.own ⟨w2.heap.size,39,.slice sa m sc,m,svs,1⟩ (by simp)).lt k e).1)).size;clear a3 e5 l8)|(at_builtin;refine vI rfl (.tmp 94) (.tmp 95) _ rfl xW.toN w2.heap.size (.slice ya m yc) m (bls ys) rfl (k7.out.own ⟨w2.heap.size,4,.slice ya m yc,m,bls ys,1⟩ (by simp)) [.bool false] rfl rfl ?r1 ?r2 ?r3 l1 ?_;(case r1=>(intro v hv;simp only[List.mem_cons,List.not_mem_nil,or_false]at hv;subst hv;rfl));(case r2=>(unfold maxLen;omega));(case r3=>omega);intro sC cC wC a2 e4 l7;have d8:=Kh e4;have k5:=Kh (k7.out.appAt (j:=1) rfl a2 e4 l7);have o1:=Nat.le_trans l1 e4.size;clear a2 e4 l7)|(at_builtin;refine vI rfl (.tmp 97) (.tmp 98) _ rfl xW.toN w2.heap.size (.slice na m nc) m (bls ns) rfl (k5.out.own ⟨w2.heap.size,4,.slice na m nc,m,bls ns,1⟩ (by simp)) [.bool false] rfl rfl ?t1 ?t2 ?t3 o1 ?_;(case t1=>(intro v hv;simp only[List.mem_cons,List.not_mem_nil,or_false]at hv;subst hv;rfl));(case t2=>(unfold maxLen;omega));(case t3=>omega);intro sD cD wD a1 i2 l6;have n5:=Kh i2;have s0:=Kh (k5.out.appAt (j:=2) rfl a1 i2 l6);clear a1 i2 l6)|fail)
        have H3:Hid (GrS w2 mb n2 M A s (s+1) sB sC sD cB cC cD (m+1) (svs++[.slice sA n2 cA]) (sets++[M s]) (ys++[false]) (ns++[false]) wD):=Kh (by
         have o7:=f3.out.own ⟨w2.heap.size,39,.slice sa m sc,m,svs,1⟩ (by simp);have o6:=k7.out.own ⟨w2.heap.size,4,.slice ya m yc,m,bls ys,1⟩ (by simp);have o5:=k5.out.own ⟨w2.heap.size,4,.slice na m nc,m,bls ns,1⟩ (by simp);have g1:=zA f2.out H8.out (by simp);have g2:=zA g1 n7.out (fun k e=>(o7.lt k e).1);have g3:=zA g2 d8.out (fun k e=>(o6.lt k e).1);have g4:=zA g3 n5.out (fun k e=>(o5.lt k e).1);refine⟨?_,⟨u+1,if (numS sets (M s)).isSome=true then c else c+1,by have:=j3.out;omega,?_⟩,h6.out.grp.new d6.out,by rw[List.length_append,h6.out.len];rfl,g4,h6.out.mlo⟩
         ·rw[show bls (ys++[false])=bls ys++[.bool false] by simp[bls],show bls (ns++[false])=bls ns++[.bool false] by simp[bls]]
          exact s0.out
         ·rw[<- numS_snoc d6.out,<- h6.out.len]
          exact(((r5.out.kept H8.out (by simp)).kept n7.out HN.out.1).kept d8.out HN.out.2.1).kept n5.out HN.out.2.2)
        obtain⟨q,hq⟩:∃ q,q=m:=⟨_,rfl⟩;have H9:q<(sets++[M s]).length:=(by rw[List.length_append,<- h6.out.len,hq];simp);have f9:q<m+1:=(by omega);have c6:(sets++[M s]).getD q []=M s:=rS (by rw[hq];exact h6.out.len);rw[show (Value.int .i64 (m:Int))=.int .i64 (q:Int) by rw[hq]];obtain⟨yb,rfl,f6,f5,a6⟩:=yW H3.out.yes (by omega);obtain⟨nb,rfl,g7,b3,a9⟩:=yW H3.out.no (by omega);have cy:=a6.bool q (by rw[H3.out.grp.leny];exact H9);have cn:=a9.bool q (by rw[H3.out.grp.lenn];exact H9);have fy:=a6.frozen q;have fn:=a9.frozen q;have c9:yb≠nb:=fun e=>(List.pairwise_cons.1 (List.pairwise_cons.1 H3.out.mem.apart).2).1 _ (List.mem_cons_self ..) yb rfl (by rw[e];rfl);have d4:=Kh f9;have d5:=Kh c6;have HC:=Kh (And.intro cy (And.intro cn (And.intro fy (And.intro fn c9))));clear hq H9 c6 f6 f5 a6 g7 b3 a9 cy cn fy fn c9;refine qEI HC.out.1 HC.out.2.1 HC.out.2.2.1 HC.out.2.2.2.1 HC.out.2.2.2.2 d4.out (by omega) ?_;intro z100 z101 z102 z103 z104 z105 z106 z107 z108 z109 z110 z111 z112 z113 z114 z115 z116 z117 z118 z119 z120;go_wp2;go_roundg (LL - (s+1))
        case measure=>have:=d7.out;omega
        case rel =>
         have hW:=(H3.out.grow (zO wD none)).put d4.out d5.out rfl;rw[<- o0.out]at hW;exact⟨s+1,m+1,cB,cC,cD,sB,_,_,_,_,_,_,by have:=d7.out;omega,by go_num,rfl,rfl,rfl,hW⟩
end Go.Proofs.Ytjfdomfendbhfaa
namespace Go.Proofs.Ytjfdomfendbhfaa
open Go.RowKit
theorem pV (B:Nat)(w:World)(v:Value)(d:DfaV)(hB:B<=w.heap.size)(h:uW B w v d):
  Calls Try.prog 32 #[v] w fun e w'=>e=.returned (.int .i64 (xD d))/\w.grownBy w' none:=by
 obtain⟨fv,nv,rfl,hf,hn⟩:=h;have a2:=hf.len_le;rw[yL]at a2;unfold maxLen at a2;have a5:=hn.len_le;unfold maxLen at a5;obtain⟨fa,fc,rfl⟩:=hf.shape;rw[yL]at hf ⊢;obtain⟨na,nc,rfl⟩:=hn.shape;have HN:=Kh hn;obtain⟨n,a0⟩:∃ n,n=d.final.length:=⟨_,rfl⟩;obtain⟨m,a1⟩:∃ m,m=d.next.length:=⟨_,rfl⟩;obtain⟨L,hL⟩:∃ L,L=d.letters:=⟨_,rfl⟩;obtain⟨S,hS⟩:∃ S,S=d.start:=⟨_,rfl⟩;rw[<- a0]at a2 ⊢;rw[<- a1]at a5 HN ⊢;rw[<- hL,<- hS];have H0:=Kh a0;have H1:=Kh a1;have H8:=Kh hL;have b0:=Kh hS;clear hf hn a0 a1 hL hS;obtain⟨wA,H6⟩:∃ wA,wA=w.alloc (.cells #[.int .i64 L,.int .i64 S,.slice fa n fc,.slice na m nc] 42):=⟨_,rfl⟩;have h3:wA.heap[w.heap.size]?=some (.cells #[.int .i64 L,.int .i64 S,.slice fa n fc,.slice na m nc] 42 (0,0)):=by rw[H6];exact heap_alloc_new w _
 have a7:w.grownBy wA none:=by rw[H6];exact Ga w _ none
 have c0:=zH h3 0 (by simp);have c1:=zH h3 1 (by simp);have c2:=zH h3 2 (by simp);have c3:=zH h3 3 (by simp);simp only[List.getElem_toArray,List.getElem_cons_zero,List.getElem_cons_succ]at c0 c1 c2 c3;have h4:=Kh a7;have h9:=Kh H6;clear h3 a7 H6;by_cases hl:L<1\/6<L
 ·have HE:=Kh (mX (d:=d) (by rw[<- H8.out];exact hl))
  have h8:decide (1<=L/\L<=6)=false:=decide_eq_false (by omega);go_enter Try.func32,Try.ntmps32;go_wp2_with fail;rw[<- h9.out];refine(yK wA L).mono ?_;rintro e w1 ⟨rfl,rfl⟩;rw[h8];go_wp2;go_ret;exact⟨yA HE.out.symm,h4.out⟩
 ·have c7:1<=L:=by omega
  have c6:L<=6:=by omega
  have H2:Hid (¬ (d.letters<1\/6<d.letters)):=Kh (by rw[<- H8.out];exact hl);have h8:decide (1<=L/\L<=6)=true:=decide_eq_true (by omega);clear hl;by_cases h5:512<n
  ·have HE:=Kh (dJ H2.out (by rw[<- H0.out];exact h5))
   go_enter Try.func32,Try.ntmps32;go_wp2_with fail;rw[<- h9.out];refine(yK wA L).mono ?_;rintro e w1 ⟨rfl,rfl⟩;rw[h8];go_wp2;go_ret;exact⟨yA HE.out.symm,h4.out⟩
  ·have H5:Hid (¬ 512<d.final.length):=Kh (by rw[<- H0.out];exact h5)
   by_cases hsh:n=0\/m≠n\/S<0\/n<=S
   ·have HE:=Kh (iD H2.out H5.out (by rw[<- H0.out,<- H1.out,<- b0.out];exact hsh))
    by_cases h0:n=0
    ·have e0:((n:Int) == 0)=true:=by rw[beq_iff_eq];omega
     clear hsh h0;go_enter Try.func32,Try.ntmps32;go_wp2_with fail;rw[<- h9.out];refine(yK wA L).mono ?_;rintro e w1 ⟨rfl,rfl⟩;rw[h8];go_wp2;go_ret;exact⟨yA HE.out.symm,h4.out⟩
    ·have e0:((n:Int) == 0)=false:=by rw[beq_eq_false_iff_ne];omega
     by_cases h7:m=n
     ·have e1:((m:Int) != n)=false:=by rw[h7];simp
      have b7:=Kh h7;by_cases hs:S<0
      ·clear hsh h7
       go_enter Try.func32,Try.ntmps32;go_wp2_with fail;rw[<- h9.out];refine(yK wA L).mono ?_;rintro e w1 ⟨rfl,rfl⟩;rw[h8];go_wp2;go_ret;exact⟨yA HE.out.symm,h4.out⟩
      ·have b1:(n:Int)<=S:=by omega
       clear hsh h7;go_enter Try.func32,Try.ntmps32;go_wp2_with fail;rw[<- h9.out];refine(yK wA L).mono ?_;rintro e w1 ⟨rfl,rfl⟩;rw[h8];go_wp2;go_ret;exact⟨yA HE.out.symm,h4.out⟩
     ·have e1:((m:Int) != n)=true:=by rw[bne_iff_ne];omega
      clear hsh;go_enter Try.func32,Try.ntmps32;go_wp2_with fail;rw[<- h9.out];refine(yK wA L).mono ?_;rintro e w1 ⟨rfl,rfl⟩;rw[h8];go_wp2;go_ret;exact⟨yA HE.out.symm,h4.out⟩
   ·have H7:Hid (¬ (d.final.length=0\/d.next.length≠d.final.length\/d.start<0\/d.final.length<=d.start)):=Kh (by rw[<- H0.out,<- H1.out,<- b0.out];exact hsh)
    have h0:0<n:=(by omega);have e0:((n:Int) == 0)=false:=by rw[beq_eq_false_iff_ne];omega
    have h7:m=n:=by omega
    have e1:((m:Int) != n)=false:=by rw[h7];simp
    have c4:0<=S:=by omega
    have b1:S<n:=(by omega);have b2:0<m:=(by omega);have a9:Mat B wA (.slice na m nc) d.next:=HN.out.kept h4.out (by simp);obtain⟨b,off,cap,A,C,e,b6,b5,a6⟩:=a9.some_ (by rw[<- H1.out];exact b2);simp only[Value.slice.injEq]at e;obtain⟨rfl,-,rfl⟩:=e;rw[<- H1.out]at b6;have c5:nc<=9223372036854775807:=by unfold maxLen at b5;omega
    have HM:=Kh a6;have b7:=Kh h7;clear hsh h7 a9 a6;go_enter Try.func32,Try.ntmps32;go_wp2_with fail;rw[<- h9.out];refine(yK wA L).mono ?_;rintro e w1 ⟨rfl,rfl⟩;rw[h8];go_wp2
    go_loopg [40] m (fun g i wr=>∃ k:Nat,g+k=m/\i=.int .i64 k/\qIR d k/\wA=wr)
    case atStart=>exact⟨0,rfl,rfl,fun x hx=>absurd hx (by omega),rfl⟩
    case round =>
     obtain⟨k,hg,rfl,H3,rfl⟩:=hrel;have OK:=Kh H3;have HG:=Kh hg;clear H3 hg;by_cases hk:k<m
     ·have H4:k<d.next.length:=by rw[<- H1.out];exact hk
      have a8:=HM.out.hd k H4;have h6:=HM.out.row k H4;have H9:=h6.len_le;rw[yE]at H9;unfold maxLen at H9;obtain⟨r,hr⟩:∃ r,r=d.next.getD k []:=⟨_,rfl⟩;rw[<- hr]at a8 h6 H9;have HR:=Kh hr;have a3:=Kh H4;clear hr H4;by_cases hlr:(r.length:Int)=L
      ·have b8:=Kh hlr
       have b3:((r.length:Int) != L)=false:=by rw[hlr];simp
       obtain⟨rb,ro,rc,e,hb,h1,h2,a4⟩:=h6.some_ (by rw[yE];omega);simp only[Value.slice.injEq]at e;obtain⟨eA,-,rfl⟩:=e;rw[eA]at a8;rw[yE]at h1;have HA:=Kh eA;have RA:=Kh a4;clear eA a4 hlr h6;go_wp2
       go_loopg [51] r.length (fun g j wr'=>∃ y:Nat,g+y=r.length/\j=.int .i64 y/\qIC n r y/\wA=wr')
       case atStart=>exact⟨0,rfl,rfl,fun x hx=>absurd hx (by omega),rfl⟩
       case round =>
        obtain⟨y,hg,rfl,H3,rfl⟩:=hrel;have OKY:=Kh H3;have b9:=Kh hg;clear H3 hg;by_cases hy:y<r.length
        ·have b4:=RA.out.int y hy
         obtain⟨z,hz⟩:∃ z,z=r.getD y 0:=⟨_,rfl⟩;rw[<- hz]at b4;have HZ:=Kh hz;clear hz;by_cases hb1:z<0
         ·have HE:=Kh (rO H2.out H5.out H7.out a3.out (by rw[<- HR.out];exact iY (y:=y) hy (by rw[<- HZ.out];exact .inl hb1)))
          go_wp2;go_ret;exact⟨yA HE.out.symm,h4.out⟩
         ·by_cases hb2:(n:Int)<=z
          ·have HE:=Kh (rO H2.out H5.out H7.out a3.out (by rw[<- HR.out];exact iY (y:=y) hy (by rw[<- HZ.out,<- H0.out];exact .inr hb2)))
           go_wp2;go_ret;exact⟨yA HE.out.symm,h4.out⟩
          ·go_wp2
           go_roundg (r.length - (y+1))
           case measure=>have:=b9.out;omega
           case rel =>
            refine⟨y+1,by omega,by go_num,fun x hx=>?_,rfl⟩;rcases Nat.lt_succ_iff_lt_or_eq.1 hx with hx|rfl
            ·exact OKY.out x hx
            ·rw[<- HZ.out];omega
        ·go_wp2
         go_roundg (m - (k+1))
         case measure=>have:=HG.out;omega
         case rel =>
          refine⟨k+1,by omega,by go_num,fun x hx=>?_,rfl⟩;rcases Nat.lt_succ_iff_lt_or_eq.1 hx with hx|rfl
          ·exact OK.out x hx
          ·rw[<- HR.out,pZ,<- H0.out,<- H8.out]
           exact⟨b8.out,fun z hz=>OKY.out z (by omega)⟩
      ·have b3:((r.length:Int) != L)=true:=by rw[bne_iff_ne];exact hlr
       have HE:=Kh (rO H2.out H5.out H7.out a3.out (by rw[<- HR.out];exact qDM (by rw[<- H8.out];exact hlr)));clear hlr;go_wp2;go_ret;exact⟨yA HE.out.symm,h4.out⟩
     ·have HE:=Kh (qAD H2.out H5.out H7.out (fun q hq=>OK.out q (by have:=H1.out;omega)))
      go_wp2;go_ret;exact⟨yA HE.out.symm,h4.out⟩
end Go.Proofs.Ytjfdomfendbhfaa
