/- Part 30 of the proof: Lets, CWord, ClsM. -/
import Derived.Test.YtjfdomfendbhfaaQe29
import Derived.BigRegion
set_option linter.unusedVariables false
set_option linter.unusedSimpArgs false
namespace Go.Proofs.Ytjfdomfendbhfaa
def lets (w:List Nat):List Int:=w.map fun(a:Nat)=>97+(a:Int)
end Go.Proofs.Ytjfdomfendbhfaa
namespace Go.Proofs.Ytjfdomfendbhfaa
open Go.RowKit Go.Maps
theorem uT {w:World} {b e sz n g cap i:Nat} {xs:List Value} (h:w.ownsRow b e sz (.slice (some ⟨g,0,none⟩) n cap) n xs) (u:Value):(w.setCell ⟨g,i,none⟩ u).ownsRow b e sz (.slice (some ⟨g,0,none⟩) n cap) n (xs.set i u):=by
 refine⟨by rw[List.length_set];exact h.1,?_⟩
 rcases h.2 with ⟨hv,_⟩|⟨g',cap',cur,hv,hb,hg,hnc,hcm,hcs,htake⟩
 ·simp at hv
 ·simp only[Value.slice.injEq,Option.some.injEq,Addr.mk.injEq]at hv
  obtain⟨⟨rfl,_⟩,_,rfl⟩:=hv
  have hs:=heap_setCell_same w g i _ _ u hg
  refine .inr ⟨g,cap,_,rfl,hb,hs,hnc,hcm,by simpa using hcs,?_⟩
  rw[<- htake]
  simp[List.take_set]
def ltN (t:List Nat):List Nat:=t.map fun b=>97+b
theorem ltN_length (t:List Nat):(ltN t).length=t.length:=by simp[ltN]
theorem qCL (t:List Nat):zb (ltN t)=lets t:=by simp[zb,ltN,lets]
def RevI (t l:List Nat) (i:Nat):Prop:=l.length=t.length/\∀ p,p < t.length->l.getD p 0=if p < i\/t.length<=p+i then t.getD (t.length - 1 - p) 0 else t.getD p 0
theorem RevI.start (t:List Nat):RevI t t 0:=⟨rfl,fun p hp=>by rw[if_neg (by omega)]⟩
theorem cH {l:List Nat} {i p x:Nat} (hi:i < l.length):(l.set i x).getD p 0=if p=i then x else l.getD p 0:=by
 simp only[List.getD_eq_getElem?_getD,List.getElem?_set]
 split
 ·rename_i e;subst e;simp[hi]
 ·rename_i e;rw[if_neg (fun h=>e h.symm)]
theorem RevI.step {t l:List Nat} {i j:Nat} (h:RevI t l i) (hj:i+j+1=t.length) (hij:i < j):RevI t ((l.set i (l.getD j 0)).set j (l.getD i 0)) (i+1):=by
 refine⟨by simp[h.1],fun p hp=>?_⟩
 rw[cH (by rw[List.length_set,h.1];omega),cH (by rw[h.1];omega)]
 by_cases e1:p=j
 ·subst e1
  rw[if_pos rfl,if_pos (by omega),h.2 i (by omega),if_neg (by omega)]
  congr 1;omega
 ·rw[if_neg e1]
  by_cases e2:p=i
  ·subst e2
   rw[if_pos rfl,if_pos (by omega),h.2 j (by omega),if_neg (by omega)]
   congr 1;omega
  ·rw[if_neg e2,h.2 p hp]
   by_cases e3:p < i\/t.length<=p+i
   ·rw[if_pos e3,if_pos (by omega)]
   ·rw[if_neg e3,if_neg (by omega)]
theorem RevI.done {t l:List Nat} {i j:Nat} (h:RevI t l i) (hj:i+j+1=t.length) (hij:j<=i):l=t.reverse:=by
 refine List.ext_getElem (by rw[h.1,List.length_reverse]) fun p h1 h2=>?_
 have hp:p < t.length:=by rw[<- h.1];exact h1
 have:=h.2 p hp
 rw[zF h1]at this
 rw[this,List.getElem_reverse]
 split
 ·rw[zF (by omega)]
 ·have:p=t.length - 1 - p:=by omega
  rw[zF hp];congr 1
theorem RevI.nil {t l:List Nat} (h:RevI t l 0) (h0:t.length=0):l=t.reverse:=by
 have:=List.eq_nil_of_length_eq_zero h0
 subst this
 have:=List.eq_nil_of_length_eq_zero h.1
 rw[this];rfl
def qBY (w:World) (ds:List DfaV) (k:Nat) (L:List (List Nat)) (s:Nat) (e:Ending) (w':World):Prop :=
 ∃ u:List Nat,zX k u/\u.length<=s/\sR (nxtT ds) (L.getD 0 []) u=L.getD s []/\e=.returned (.string (strOfNums (lets u)))/\w.grownBy w' none
theorem swap_own {w W:World} {b e n g cap i j:Nat} {t:List Nat} (h:w.ownsRow b e 1 (.slice (some ⟨g,0,none⟩) n cap) n (u8s t)) (hij:i≠j) (x y:Nat)
  (hW:W=(w.setCell ⟨g,i,none⟩ (.int .u8 (x:Int))).setCell ⟨g,j,none⟩ (.int .u8 (y:Int))\/W=(w.setCell ⟨g,j,none⟩ (.int .u8 (y:Int))).setCell ⟨g,i,none⟩ (.int .u8 (x:Int))) :
  W.ownsRow b e 1 (.slice (some ⟨g,0,none⟩) n cap) n (u8s ((t.set i x).set j y))/\w.grownBy W (some g):=by
 refine⟨?_,?_⟩
 ·rcases hW with rfl|rfl
  ·have:=uT (i:=j) (uT (i:=i) h (.int .u8 (x:Int))) (.int .u8 (y:Int))
   rwa [kJ,kJ]at this
  ·have:=uT (i:=i) (uT (i:=j) h (.int .u8 (y:Int))) (.int .u8 (x:Int))
   rw[kJ,kJ,List.set_comm _ _ (fun e=>hij e.symm)]at this
   exact this
 ·rcases hW with rfl|rfl
  ·exact zD (zC w ⟨g,i,none⟩ _) (zC _ ⟨g,j,none⟩ _)
  ·exact zD (zC w ⟨g,j,none⟩ _) (zC _ ⟨g,i,none⟩ _)
set_option maxRecDepth 100000 in
set_option maxHeartbeats 1600000 in
theorem pword_any (w:World) (o k:Nat) (pv:Value) (ds:List DfaV) (L:List (List Nat)) (nxl fr bl:List Nat) (sb sc nb nc fb fc bb bc s:Nat) (h:ProdV w o k pv L nxl fr bl sb sc nb nc fb fc bb bc) (hf:iB ds k L fr bl) (hk6:k<=6) (hs:s < L.length) (hL:L.length<=4000) :
  Calls Try.prog 60 #[.pointer (some ⟨o,0,none⟩),.int .i64 (s:Int)] w (qBY w ds k L s):=by
 obtain⟨m,hm⟩:∃ m,m=L.length:=⟨_,rfl⟩
 have H:=Kh h;have HF:=Kh hf;have HM:=Kh hm
 rw[<- hm]at hs hL
 clear h hf hm
 go_enter Try.func60,Try.ntmps60
 go_wp2
 go_loopg [1,5] s (fun gh v1 v5 wr=>∃ (q:Nat) (sa:Option Addr) (sc:Nat) (t:List Nat),gh=q/\v1=.int .i64 q/\v5=.slice sa t.length sc/\wr.ownsRow w.heap.size 5 1 (.slice sa t.length sc) t.length (u8s (ltN t))/\BackI ds k L s q t/\w.grownBy wr none)
 case atStart=>exact⟨s,none,0,[],rfl,rfl,rfl,World.ownsRow_nil _ _ _ _,BackI.start _ _ _ _,zN _ _⟩
 case round =>
  obtain⟨q,sa,sd,t,a3,rfl,rfl,h3,H8,hg⟩:=hrel
  have b6:=Kh a3;have HO:=Kh h3;have HB:=Kh H8;have HG:=Kh hg
  have H5:=H8.len
  clear a3 h3 H8
  by_cases hq:q=0
  ·subst hq
   obtain⟨n,hn⟩:∃ n,n=t.length:=⟨_,rfl⟩
   have HN:=Kh hn
   rw[<- hn]at H5 HO ⊢
   have H9:=Kh (RevI.start (ltN t))
   obtain⟨lt,h9⟩:∃ x,x=ltN t:=⟨_,rfl⟩
   have h4:lt.length=n:=by rw[h9,ltN_length,hn]
   rw[<- h9]at H9 HO
   have a7:=Kh h9;have a0:=Kh h4
   clear hn h9 h4 hg
   by_cases hn0:n=0
   ·subst hn0
    have H7:=tM 106 5 Try.underlying106 Try.underlying5 9 Try.underlying9 (xs:=zb lt) HO.out
    obtain⟨X,hX⟩:∃ X,X=strOfNums (zb lt):=⟨_,rfl⟩
    rw[<- hX]at H7
    have HX:=Kh hX
    clear hX
    go_wp2
    go_loopw [6,7] (fun v6 v7 wr2=>v6=.int .i64 0/\v7=.int .i64 (-1)/\wr2=wr) (fun _ _ _=>0)
    case atStart=>exact⟨rfl,rfl,rfl⟩
    case round =>
     obtain⟨rfl,rfl,rfl⟩:=hrel
     go_wp2
     go_ret
     refine⟨t.reverse,fun a ha=>HB.out.ok a (by simpa using ha),by rw[List.length_reverse,<- HN.out];omega,HB.out.walk,?_,HG.out⟩
     have h1:t=[]:=List.eq_nil_of_length_eq_zero HN.out.symm
     rw[HX.out,a7.out,qCL,h1];rfl
   ·obtain⟨gb,rfl,c6,b4,h0⟩:=uS HO.out (by omega)
    have c4:sd<=9223372036854775807:=by unfold maxLen at b4;omega
    clear h0
    obtain⟨wo,rfl⟩:∃ wo:World,wo=wr:=⟨_,rfl⟩
    go_wp2
    go_loopg [6,7] (n - 1) (fun gh v6 v7 wr=>∃ (i j:Nat) (l:List Nat),gh=j/\v6=.int .i64 i/\v7=.int .i64 j/\i+j+1=n/\RevI lt l i/\wr.ownsRow w.heap.size 5 1 (.slice (some ⟨gb,0,none⟩) n sd) n (u8s l)/\w.grownBy wr none)
    case atStart=>exact⟨0,n - 1,lt,rfl,rfl,by go_num,by omega,H9.out,HO.out,HG.out⟩
    case round =>
     clear HG HO H9
     obtain⟨i,j,l,a4,rfl,rfl,a2,H2,h3,hg⟩:=hrel
     have b8:=Kh a4;have H1:=Kh a2;have a6:=Kh H2;have HO:=Kh h3;have HG:=Kh hg
     have h0:=Arr.of_owns h3
     have H4:l.length=n:=by rw[H2.1,a0.out]
     have c7:=Kh H4
     clear a4 a2 H2
     by_cases h4:i < j
     ·have H3:(i:Int) < j:=by omega
      have c5:j < n:=by have:=H1.out;omega
      have b0:(j:Int) < n:=by omega
      have b1:(i:Int) < n:=by omega
      have c1:=gO h0 i (by omega)
      have c2:=gO h0 j (by omega)
      have f1:=h0.frozen i
      have f2:=h0.frozen j
      obtain⟨x,hx⟩:∃ x,x=l.getD i 0:=⟨_,rfl⟩
      obtain⟨y,hy⟩:∃ y,y=l.getD j 0:=⟨_,rfl⟩
      rw[<- hx]at c1
      rw[<- hy]at c2
      have h7:=Kh (a6.out.step (by rw[a0.out];exact H1.out) h4)
      rw[<- hx,<- hy]at h7
      have b2:=h0.lt
      clear hx hy h0 H4 h3 hg
      go_wp2
      go_region
      all_goals
       go_wp2
       go_roundg (j - 1)
       case measure=>have:=b8.out;omega
       case rel =>
        obtain⟨h1,h2⟩:=swap_own (W:=_) (zQ HO.out (zL _ none)) (show i≠j by omega) y x (by first|exact .inl rfl|exact .inr rfl)
        exact⟨i+1,j - 1,_,rfl,by go_num,by go_num,by have:=H1.out;omega,h7.out,h1,zB (zB HG.out (zL _ none) (by simp)) h2 (fun x e=>by have e:gb=x:=Oj e;subst e;exact(HO.out.lt _ rfl).1)⟩
     ·have H3:¬ (i:Int) < j:=by omega
      have a1:=Kh (a6.out.done (by rw[a0.out];exact H1.out) (by omega))
      have H7:=tM 106 5 Try.underlying106 Try.underlying5 9 Try.underlying9 (xs:=zb l) HO.out
      obtain⟨X,hX⟩:∃ X,X=strOfNums (zb l):=⟨_,rfl⟩
      rw[<- hX]at H7
      have HX:=Kh hX
      clear hX h0 h3 hg H4
      go_wp2
      go_ret
      refine⟨t.reverse,fun a ha=>HB.out.ok a (by simpa using ha),by rw[List.length_reverse,<- HN.out];omega,HB.out.walk,?_,HG.out⟩
      rw[HX.out,a1.out,a7.out]
      rw[show (ltN t).reverse=ltN t.reverse by simp[ltN],qCL]
      rfl
  ·have hv:=H.out.grow hg
   obtain⟨x0,x1,x2,x3,x4,x5⟩:=hv.cells
   have h8:q < m:=by omega
   have c1:=hv.fr q (by rw[<- HM.out];exact h8)
   have c2:=hv.by_ q (by rw[<- HM.out];exact h8)
   obtain⟨e1,e2,e3⟩:=HF.out.2.2 q (by omega) (by rw[<- HM.out];exact h8)
   have h7:=Kh (HB.out.step e2 e1 e3)
   obtain⟨f,H6⟩:∃ f,f=fr.getD q 0:=⟨_,rfl⟩
   obtain⟨b,a5⟩:∃ b,b=bl.getD q 0:=⟨_,rfl⟩
   rw[<- H6]at c1 e1 h7
   rw[<- a5]at c2 e2 h7
   have H0:=hv.caps
   rw[<- HM.out]at x4 x5 H0
   have k1:fc<=9223372036854775807:=by have:=H0.2.2.2.2.2.1;unfold maxLen at this;omega
   have k2:bc<=9223372036854775807:=by have:=H0.2.2.2.2.2.2.2;unfold maxLen at this;omega
   have c3:((q:Int) != 0)=true:=by rw[bne_iff_ne];omega
   have c0:¬ (q:Int)=0:=by omega
   have a9:(q:Int) < m:=by omega
   have e4:IntKind.u8.wrap (b:Int)=b:=IntWalk.u8_in _ (by omega)
   have e5:IntKind.u8.wrap (97+(b:Int))=97+(b:Int):=IntWalk.u8_in _ (by omega)
   have a8:=hg.size
   have b9:Hid (∀ W:World,w.grownBy W none->W.cell? ⟨o,4,none⟩=some (.slice (some ⟨fb,0,none⟩) m fc)/\W.cell? ⟨fb,q,none⟩=some (.int .i64 (f:Int))):=Kh (fun W hW=>by
    have hv:=H.out.grow hW
    refine⟨by have:=hv.cells.2.2.2.2.1;rw[<- HM.out]at this;exact this,?_⟩
    have:=hv.fr q (by rw[<- HM.out];exact h8)
    rw[<- H6]at this;exact this)
   clear hv H6 a5 H0 e3 hg x0 x1 x2 x3
   go_upto_region 3 with (first|(at_builtin;refine qBV rfl _ _ _ rfl fU.toN w.heap.size (.slice sa t.length sd) t.length (u8s (ltN t)) rfl HO.out [.int .u8 (97+(b:Int))] rfl rfl ?z1 ?z2 ?z3 ?z4 ?_;(case z1=>(intro v hv;simp only[List.mem_cons,List.not_mem_nil,or_false]at hv;subst hv;rfl));(case z2=>(unfold maxLen;omega));(case z3=>(show (t.length+1) * 1<=140737488355328;omega));(case z4=>exact a8);intro sn cn wM h5 b3)|fail)
   have h6:=zB HG.out b3 (fun x e=>(HO.out.lt x e).1)
   obtain⟨d1,d2⟩:=b9.out wM h6
   have b5:=Kh h5;have b7:=Kh h6
   clear h5 h6 c1 c2 x4 x5
   go_wp2
   go_roundg f
   case measure=>have:=b6.out;omega
   case rel =>
    refine⟨f,sn,cn,t ++ [b],rfl,rfl,by rw[List.length_append];rfl,?_,h7.out,b7.out⟩
    rw[List.length_append,show u8s (ltN (t ++ [b]))=u8s (ltN t) ++ [.int .u8 (97+(b:Int))] by simp[u8s,ltN,zb]]
    exact b5.out
end Go.Proofs.Ytjfdomfendbhfaa
namespace Go.Proofs.Ytjfdomfendbhfaa
open Go.RowKit Go.Maps
def mN (m:List Bool):List Nat:=m.map fun b=>if b=true then 1 else 0
def mT (m:List Bool):ByteArray:=txtT (mN m)
theorem uU (m:List Bool):(mN m).length=m.length:=by simp[mN]
theorem mN_get {m:List Bool} {i:Nat} (hi:i < m.length):(mN m).getD i 0=if m.getD i false=true then 1 else 0:=by
 rw[zF (by rw[uU];exact hi),zF hi];simp[mN]
theorem qDE (m:List Bool):∀ x∈mN m,x < 256:=by
 intro x hx
 simp only[mN,List.mem_map]at hx
 obtain⟨b,_,rfl⟩:=hx
 split <;> omega
theorem qCO:∀ {m n:List Bool},mN m=mN n->m=n
 | [],[],_=>rfl
 | [],y :: n,h=>by simp[mN]at h
 | x :: m,[],h=>by simp[mN]at h
 | x :: m,y :: n,h=>by
  simp only[mN,List.map_cons,List.cons.injEq]at h
  have h2:m=n:=qCO (by simpa [mN] using h.2)
  have h1:=h.1
  cases x <;> cases y <;> simp_all
theorem fK (m:List Bool):(mT m).size=m.length:=by rw[mT,eQ,uU]
theorem key_mT {n:Nat} (h:n<=400):KeyK 129 9 (fun m:List Bool=>m.length=n) (fun m=>.string (mT m)) where
 key:=hO
 und:=lG
 of:=fun a ha=>by rw[Go.WideMaps.keyOf_string_mk kN (by rw[fK,ha];unfold maxLen;omega)];rfl
 inj:=fun a b ha hb e=>qCO (qCM (qDE a) (qDE b) (by simpa [mT] using e))
def cval (c:ClaV):List Value:=[.string (mT c.m),.int .i64 c.yes,.int .i64 c.no]
def vY (l:List ClaV):List Value:=l.flatMap cval
theorem mR (l:List ClaV) (c:ClaV):vY (l ++ [c])=vY l ++ cval c:=by simp[vY]
theorem rK (c:ClaV) (l:List ClaV):vY (c :: l)=.string (mT c.m) :: .int .i64 c.yes :: .int .i64 c.no :: vY l:=rfl
theorem rJ:∀ (l:List ClaV) (i:Nat) (h:i < l.length),(vY l)[i * 3]?=some (.string (mT l[i].m))/\(vY l)[i * 3+1]?=some (.int .i64 l[i].yes)/\(vY l)[i * 3+2]?=some (.int .i64 l[i].no)
 | [],i,h=>by simp at h
 | x :: l,0,_=>⟨rfl,rfl,rfl⟩
 | x :: l,i+1,h=>by
  have h1:=rJ l i (by simpa using h)
  rw[rK,show (i+1) * 3=i * 3+1+1+1 by omega,show i * 3+1+1+1+1=(i * 3+1)+1+1+1 by omega,show i * 3+1+1+1+2=(i * 3+2)+1+1+1 by omega]
  simpa using h1
theorem jN:∀ (l:List ClaV) (i:Nat) (y:Int),i < l.length->(vY l).set (i * 3+1) (.int .i64 y)=vY (l.set i ⟨(l.getD i default).m,y,(l.getD i default).no⟩)
 | [],i,y,h=>by simp at h
 | x :: l,0,y,_=>rfl
 | x :: l,i+1,y,h=>by
  have h1:=jN l i y (by simpa using h)
  rw[rK,show (i+1) * 3+1=(i * 3+1)+1+1+1 by omega]
  simp only[List.set_cons_succ,List.getD_cons_succ,rK]
  rw[h1]
theorem fZ:∀ (l:List ClaV) (i:Nat) (y:Int),i < l.length->(vY l).set (i * 3+2) (.int .i64 y)=vY (l.set i ⟨(l.getD i default).m,(l.getD i default).yes,y⟩)
 | [],i,y,h=>by simp at h
 | x :: l,0,y,_=>rfl
 | x :: l,i+1,y,h=>by
  have h1:=fZ l i y (by simpa using h)
  rw[rK,show (i+1) * 3+2=(i * 3+2)+1+1+1 by omega]
  simp only[List.set_cons_succ,List.getD_cons_succ,rK]
  rw[h1]
theorem fW:ElemN Try.prog 96 99 3 (.agg #[.string ⟨#[]⟩,.int .i64 0,.int .i64 0]) 32:=⟨by kernel_rfl,by kernel_rfl,by rfl,by decide⟩
structure ClsO (w:World) (g off:Nat) (l:List ClaV):Prop where
 lt:g < w.heap.size
 m:∀ i,i < l.length->w.cell? ⟨g,off+i * 3,none⟩=some (.string (mT (l.getD i default).m))
 y:∀ i,i < l.length->w.cell? ⟨g,off+i * 3+1,none⟩=some (.int .i64 (l.getD i default).yes)
 n:∀ i,i < l.length->w.cell? ⟨g,off+i * 3+2,none⟩=some (.int .i64 (l.getD i default).no)
theorem ClsO.of_block {w w':World} {g off:Nat} {l:List ClaV} (h:ClsO w g off l) (hb:w'.heap[g]?=w.heap[g]?) (hs:w.heap.size<=w'.heap.size):ClsO w' g off l :=
 ⟨Nat.lt_of_lt_of_le h.lt hs,fun i hi=>(World.cell?_of_block hb).trans (h.m i hi),fun i hi=>(World.cell?_of_block hb).trans (h.y i hi),fun i hi=>(World.cell?_of_block hb).trans (h.n i hi)⟩
def ClsX (X:Nat->Prop) (w:World) (v:Value) (l:List ClaV):Prop :=
 (∃ a cap,v=.slice a 0 cap/\l=[])\/∃ b off cap,v=.slice (some ⟨b,off,none⟩) l.length cap/\X b/\l.length<=cap/\cap<=maxLen/\ClsO w b off l
section
variable {X:Nat->Prop} {w w':World} {v:Value} {l:List ClaV}
theorem ClsX.kept (h:ClsX X w v l) (hk:wL X w w') (hs:w.heap.size<=w'.heap.size):ClsX X w' v l:=by
 rcases h with h|⟨b,off,cap,h1,h2,h3,h4,h5⟩
 ·exact .inl h
 ·exact .inr ⟨b,off,cap,h1,h2,h3,h4,h5.of_block (hk b h2) hs⟩
theorem ClsX.mono {X':Nat->Prop} (h:ClsX X w v l) (hX:∀ q,X q->X' q):ClsX X' w v l:=by
 rcases h with h|⟨b,off,cap,h1,h2,h3⟩
 ·exact .inl h
 ·exact .inr ⟨b,off,cap,h1,hX b h2,h3⟩
theorem ClsX.grow (h:ClsX X w v l) (hg:w.grownBy w' none):ClsX X w' v l:=by
 rcases h with h|⟨b,off,cap,h1,h2,h3,h4,h5⟩
 ·exact .inl h
 ·exact .inr ⟨b,off,cap,h1,h2,h3,h4,h5.of_block (hg.block _ h5.lt (by simp)) hg.size⟩
theorem ClsX.shape (h:ClsX X w v l):∃ a c,v=.slice a l.length c:=by
 rcases h with ⟨a,c,rfl,rfl⟩|⟨b,off,cap,rfl,_⟩
 ·exact⟨a,c,rfl⟩
 ·exact⟨_,_,rfl⟩
theorem ClsX.len_le (h:ClsX X w v l):l.length<=maxLen:=by
 rcases h with ⟨a,c,rfl,rfl⟩|⟨b,off,cap,rfl,h1,h2,h3,_⟩
 ·exact Nat.zero_le _
 ·omega
theorem ClsX.at_ (h:ClsX X w v l) (h0:0 < l.length):∃ b off cap,v=.slice (some ⟨b,off,none⟩) l.length cap/\X b/\l.length<=cap/\cap<=maxLen/\ClsO w b off l:=by
 rcases h with ⟨a,c,rfl,rfl⟩|h
 ·simp at h0
 ·exact h
end
theorem oX {X:Nat->Prop} {base:Nat} {w:World} {v:Value} {l:List ClaV} (h:w.ownsRow base 99 3 v l.length (vY l)) (hX:∀ k,v.ownBlock=some k->X k):ClsX X w v l:=by
 have h1:∀ g j,(⟨g,0,none⟩:Addr).add j=⟨g,j,none⟩:=fun g j=>by unfold Addr.add;split <;> simp_all
 rcases h.2 with ⟨rfl,h0⟩|⟨g,cap,cur,rfl,hb,hg,hnc,hcm,_⟩
 ·exact .inl ⟨none,0,by first|rfl|rw[h0],List.eq_nil_of_length_eq_zero h0⟩
 ·refine .inr ⟨g,0,cap,rfl,hX g rfl,hnc,hcm,zH hg,fun i hi=>?_,fun i hi=>?_,fun i hi=>?_⟩
  ·have c1:=h.cells (g:=g) rfl _ _ (rJ l i hi).1
   rw[h1]at c1
   rw[zF hi,Nat.zero_add];exact c1
  ·have c1:=h.cells (g:=g) rfl _ _ (rJ l i hi).2.1
   rw[h1]at c1
   rw[zF hi,Nat.zero_add];exact c1
  ·have c1:=h.cells (g:=g) rfl _ _ (rJ l i hi).2.2
   rw[h1]at c1
   rw[zF hi,Nat.zero_add];exact c1
def numC (l:List ClaV) (m:List Bool):Option Nat:=if m∈l.map ClaV.m then some ((l.map ClaV.m).idxOf m) else none
theorem numC_of_mem {l:List ClaV} {m:List Bool} (h:m∈l.map ClaV.m):numC l m=some ((l.map ClaV.m).idxOf m):=if_pos h
theorem numC_not {l:List ClaV} {m:List Bool} (h:m ∉ l.map ClaV.m):numC l m=none:=if_neg h
theorem numC_snoc {l:List ClaV} {c:ClaV} (h:c.m ∉ l.map ClaV.m):(fun q=>if q=c.m then some l.length else numC l q)=numC (l ++ [c]):=by
 funext q
 unfold numC
 rw[List.map_append,List.map_singleton]
 by_cases e:q=c.m
 ·subst e
  rw[if_pos rfl,if_pos (by simp),List.idxOf_append,if_neg h];simp
 ·rw[if_neg e]
  by_cases hq:q∈l.map ClaV.m
  ·rw[if_pos hq,if_pos (List.mem_append_left _ hq),List.idxOf_append,if_pos hq]
  ·rw[if_neg hq,if_neg (fun h=>by
    rcases List.mem_append.1 h with h|h
    ·exact hq h
    ·simp at h;exact e h)]
theorem aH {l:List ClaV} {n:Nat} {c:ClaV} (hn:n < l.length) (hm:c.m=(l.getD n default).m):numC (l.set n c)=numC l:=by
 have:(l.set n c).map ClaV.m=l.map ClaV.m:=by
  rw[List.map_set,hm,zF hn]
  refine List.ext_getElem (by simp) fun i h1 h2=>?_
  rw[List.getElem_set]
  split
  ·rename_i e;subst e;simp
  ·rfl
 unfold numC
 rw[this]
end Go.Proofs.Ytjfdomfendbhfaa
