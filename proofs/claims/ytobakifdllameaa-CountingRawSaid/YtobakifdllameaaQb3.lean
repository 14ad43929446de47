/- Part 3 of the proof. -/
import Derived.Test.YtobakifdllameaaQb2
import Derived.Maps.OwnSet
import Derived.Maps.OwnOps
import Derived.Deep.DeepCutAuto
import Derived.Deep.CutBlock
import Derived.Deep.RegionHeld3
import Derived.BigQuiet
set_option linter.unusedVariables false
set_option linter.unusedSimpArgs false
set_option maxRecDepth 100000
set_option maxHeartbeats 16000000
namespace Go.Proofs.Ytobakifdllameaa
theorem cls_le (p:List Nat):cls p<=p.length:=uW p
theorem iI (d:DfaV):Norm (oZ d):=mM _
def xI (d:DfaV)(k:Nat):Nat->List Nat
 | 0=>oZ d
 | m+1=>tF d (xI d k m) k
theorem xH (d:DfaV)(k:Nat):∀m,(xI d k m).length=d.final.length
 | 0=>pI d
 | m+1=>by rw[xI,xK,xH d k m]
theorem tL (d:DfaV)(k:Nat):∀m,Norm (xI d k m)
 | 0=>iI d
 | m+1=>lL (tL d k m) k
theorem aV (d:DfaV)(k m:Nat):∀c∈xI d k m,c<d.final.length:=by
 have:=pP (tL d k m)
 rwa [xH]at this
theorem kQ {p:List Nat}(h:0<p.length):0<cls p:=by
 have hm:p[0]∈yO p:=xV.2 (List.getElem_mem h);exact List.length_pos_of_mem hm
theorem oV {d:DfaV}{n k:Nat}(hd:VD d n k){p:List Nat}(hp:p.length=n)(hn:Norm p)(a9:tF d p k≠p):cls p<cls (tF d p k):=by
 have h0:∀c∈p,c<n:=by have:=pP hn;rwa [hp]at this
 obtain⟨h1,h2⟩:=aU (p:=p) (q:=tF d p k) (xK d p k) (fun i j hi hj h=>((rB hd hp h0 (by omega) (by omega) k (Nat.le_refl _)).1 h).1);refine Nat.lt_of_le_of_ne h1 fun e=>a9 ?_;refine jF (lL hn k) hn ⟨xK d p k,fun i j hi hj=>?_⟩;rw[xK]at hi hj;exact⟨fun h=>((rB hd hp h0 (by omega) (by omega) k (Nat.le_refl _)).1 h).1,fun h=>h2 e i j hi hj h⟩
def yI (d:DfaV)(k:Nat):List Nat:=xI d k d.final.length
theorem qCL {d:DfaV}{k m:Nat}(h:tF d (xI d k m) k=xI d k m):∀j,m<=j->xI d k j=xI d k m
 | 0,hj=>by rw[show m=0 by omega]
 | j+1,hj=>by
  by_cases e:m=j+1
  ·rw[e]
  ·rw[xI,qCL h j (by omega),h]
theorem pQ {d:DfaV}{k m:Nat}(hm:m<=d.final.length)(h:tF d (xI d k m) k=xI d k m):yI d k=xI d k m:=qCL h _ hm
theorem qFG {d:DfaV}{n k:Nat}(hd:VD d n k):∀m,(∃j,j<=m/\tF d (xI d k j) k=xI d k j)\/m<cls (xI d k m)
 | 0=>.inr (kQ (by rw[xH,hd.hn];exact hd.n1))
 | m+1=>by
  rcases qFG hd m with ⟨j,hj,h⟩|h
  ·exact .inl ⟨j,by omega,h⟩
  ·by_cases e:tF d (xI d k m) k=xI d k m
   ·exact .inl ⟨m,by omega,e⟩
   ·have:=oV hd (by rw[xH,hd.hn]) (tL d k m) e
    exact .inr (by rw[xI];omega)
theorem mW {d:DfaV}{n k:Nat}(hd:VD d n k):tF d (yI d k) k=yI d k:=by
 rcases qFG hd d.final.length with ⟨j,hj,h⟩|h
 ·rw[pQ hj h,h]
 have:=cls_le (xI d k d.final.length);rw[xH]at this;omega
theorem wU (d:DfaV)(k:Nat):(yI d k).length=d.final.length:=xH _ _ _
theorem uD (d:DfaV)(k:Nat):Norm (yI d k):=tL _ _ _
theorem qDS {p:List Nat}(h:Norm p):yO p=List.range (cls p):=by
 refine List.ext_getElem (by simp[cls]) fun i h1 h2=>?_;rw[List.getElem_range];have hm:=List.getElem_mem h1;obtain⟨q,hq,e⟩:=List.getElem_of_mem (xV.1 hm);have hh:(numb p)[q]'(by rw[yW];exact hq)=p[q]:=by simp only[show numb p=p from h]
 rw[pJ hq,e]at hh;have h3:=List.idxOf_lt_length_of_mem hm;have h4:=List.getElem_idxOf h3;have:=(List.getElem_inj (sO p)).1 h4;omega
theorem mB {p:List Nat}(h:Norm p)(k:Nat):yO (p.take k)=List.range (cls (p.take k)):=by
 have h1:=rG p k;rw[qDS h]at h1;obtain⟨r,hr⟩:=h1;refine List.ext_getElem (by simp[cls]) fun i h1 h2=>?_;rw[List.getElem_range];have:(yO (p.take k)++r)[i]'(by rw[List.length_append];omega)=i:=by simp only[hr,List.getElem_range]
 rwa [List.getElem_append_left h1]at this
theorem lP {p:List Nat}(h:Norm p){q:Nat}(hq:q<p.length):p.getD q 0<=cls (p.take q)/\(p.getD q 0=cls (p.take q)->cls (p.take (q+1))=cls (p.take q)+1)/\(p.getD q 0≠cls (p.take q)->cls (p.take (q+1))=cls (p.take q)):=by
 have h1:=mB h (q+1);have e:yO (p.take (q+1))=wK (yO (p.take q)) p[q]:=by rw[List.take_succ_eq_append_getElem hq,tY]
 have h0:=mB h q;rw[zN hq];by_cases hm:p[q]∈yO (p.take q)
 ·have h2:p[q]<cls (p.take q):=by rw[h0]at hm;exact List.mem_range.1 hm
  rw[uZ hm]at e;have:cls (p.take (q+1))=cls (p.take q):=by unfold cls;rw[e]
  exact⟨by omega,fun h=>by omega,fun _=>this⟩
 rw[vK hm]at e;have hc:cls (p.take (q+1))=cls (p.take q)+1:=by unfold cls;rw[e];simp
 have hl:p[q]=cls (p.take q):=by
  rw[h1,h0,hc,List.range_succ]at e;have:=List.append_cancel_left e;simpa using this.symm
 exact⟨by omega,fun _=>hc,fun h=>absurd hl h⟩
def tR (p:List Nat)(k:Nat):List Nat:=(List.range k).filter fun q=>p.getD q 0 == cls (p.take q)
theorem uO {p:List Nat}{k:Nat}(h:p.getD k 0=cls (p.take k)):tR p (k+1)=tR p k++[k]:=by
 rw[tR,List.range_succ,List.filter_append,List.filter_cons,if_pos (beq_iff_eq.2 h)];rfl
theorem uM {p:List Nat}{k:Nat}(h:p.getD k 0≠cls (p.take k)):tR p (k+1)=tR p k:=by
 rw[tR,List.range_succ,List.filter_append,List.filter_cons,if_neg (fun e=>h (beq_iff_eq.1 e)),List.filter_nil,List.append_nil];rfl
theorem vG {p:List Nat}(h:Norm p):∀k,k<=p.length->(tR p k).length=cls (p.take k)
 | 0,_=>by simp[tR,cls,yO]
 | k+1,hk=>by
  obtain⟨h0,h1,h2⟩:=lP h (show k<p.length by omega)
  have ih:=vG h k (by omega)
  by_cases e:p.getD k 0=cls (p.take k)
  ·rw[uO e,List.length_append,ih,h1 e];rfl
  ·rw[uM e,ih,h2 e]
theorem iF {p:List Nat}(h:Norm p):∀k,k<=p.length->∀c,c<cls (p.take k)->p.getD ((tR p k).getD c 0) 0=c/\(tR p k).getD c 0<k
 | 0,_,c,hc=>by simp[cls,yO]at hc
 | k+1,hk,c,hc=>by
  obtain⟨h0,h1,h2⟩:=lP h (show k<p.length by omega)
  have hl:=vG h k (by omega)
  by_cases e:p.getD k 0=cls (p.take k)
  ·rw[h1 e]at hc
   rw[uO e]
   by_cases hc':c<cls (p.take k)
   ·have ih:=iF h k (by omega) c hc'
    rw[show (tR p k++[k]).getD c 0=(tR p k).getD c 0 from by simp[List.getD,List.getElem?_append_left (show c<(tR p k).length by omega)]]
    exact⟨ih.1,by omega⟩
   ·have hc2:c=(tR p k).length:=by omega
    rw[show (tR p k++[k]).getD c 0=k from by simp[List.getD,hc2]]
    exact⟨by omega,by omega⟩
  ·rw[h2 e]at hc
   rw[uM e]
   have ih:=iF h k (by omega) c hc
   exact⟨ih.1,by omega⟩
def reps (p:List Nat):List Nat:=tR p p.length
def vY (p:List Nat)(r:List Int):List Int:=r.map fun s=>((p.getD s.toNat 0:Nat):Int)
def uI (d:DfaV)(p:List Nat):DfaV :=
 ⟨d.letters,((p.getD (st0 d) 0:Nat):Int),(reps p).map fun q=>d.final.getD q false,(reps p).map fun q=>vY p (d.next.getD q [])⟩
theorem xW {α β:Type}{l:List α}{f:α->β}{i:Nat}{x:α}{y:β}(h:i<l.length):(l.map f).getD i y=f (l.getD i x):=by
 rw[zN (by simpa using h),zN h];simp
theorem iJ {p:List Nat}{r:List Int}{a:Nat}(h:a<r.length):(vY p r).getD a 0=((p.getD (r.getD a 0).toNat 0:Nat):Int):=by
 rw[vY,xW (x:=0) h]
theorem qU {p:List Nat}(h:Norm p):(reps p).length=cls p:=by
 have:=vG h p.length (Nat.le_refl _)
 rwa [List.take_length]at this
theorem pH {p:List Nat}(h:Norm p){c:Nat}(hc:c<cls p):p.getD ((reps p).getD c 0) 0=c/\(reps p).getD c 0<p.length :=
 iF h p.length (Nat.le_refl _) c (by rwa [List.take_length])
theorem tX {p:List Nat}(h:Norm p){i:Nat}(hi:i<p.length):p.getD i 0<cls p:=by
 have:=qJK (l:=p);rw[h]at this;rw[zN hi];exact this _ (List.getElem_mem hi)
section
variable {d:DfaV} {n k:Nat} {p:List Nat}
theorem bX (hd:VD d n k)(hp:p.length=n)(hn:Norm p){c a:Nat}(hc:c<cls p)(ha:a<k):ent (uI d p).next c a=((p.getD (nx d ((reps p).getD c 0) a) 0:Nat):Int):=by
 have hr:=pH hn hc;unfold ent uI;rw[xW (x:=0) (by rw[qU hn];exact hc),iJ (by rw[hd.row _ (by omega)];exact ha)];rfl
theorem bV (hd:VD d n k)(hp:p.length=n)(hn:Norm p):VD (uI d p) (cls p) k where
 hk:=hd.hk
 k1:=hd.k1
 k6:=hd.k6
 hn:=by simp[uI,qU hn]
 n1:=kQ (by rw[hp];exact hd.n1)
 nbig:=Nat.le_trans (cls_le p) (by rw[hp];exact hd.nbig)
 nl:=by simp[uI,qU hn]
 s0:=by simp[uI]
 sn:=by
  have:=tX hn (i:=st0 d) (by rw[hp];exact mJ hd);simp only[uI];omega
 row:=fun c hc=>by
  simp only[uI];rw[xW (x:=0) (by rw[qU hn];exact hc)];have hr:=pH hn hc;rw[vY,List.length_map,hd.row _ (by omega)]
 lo:=fun c a hc ha=>by rw[bX hd hp hn hc ha];omega
 hi:=fun c a hc ha=>by
  rw[bX hd hp hn hc ha];have hr:=pH hn hc;have:=tX hn (i:=nx d ((reps p).getD c 0) a) (by rw[hp];exact qV hd (by omega) ha);omega
theorem qPW (hd:VD d n k)(hp:p.length=n)(hn:Norm p)(a9:tF d p k=p){q a:Nat}(hq:q<n)(ha:a<k):nx (uI d p) (p.getD q 0) a=p.getD (nx d q a) 0:=by
 have h0:∀c∈p,c<n:=by have:=pP hn;rwa [hp]at this
 have hc:=tX hn (i:=q) (by omega);have hr:=pH hn hc;have h1:=rB hd hp h0 (i:=(reps p).getD (p.getD q 0) 0) (j:=q) (by omega) hq k (Nat.le_refl _);rw[a9]at h1;have h2:=(h1.1 hr.1).2 a ha;show (ent (uI d p).next (p.getD q 0) a).toNat=_;rw[bX hd hp hn hc ha,h2];simp
end
def run (d:DfaV)(q:Nat)(w:List Nat):Nat:=w.foldl (nx d) q
def tP (k:Nat)(w:List Nat):Prop:=∀a∈w,a<k
theorem qIJ {d:DfaV}{n k:Nat}(hd:VD d n k):∀(w:List Nat) {q:Nat},q<n->tP k w->run d q w<n
 | [],q,hq,_=>hq
 | a::w,q,hq,hw=>qIJ hd w (qV hd hq (hw a (by simp))) (fun b hb=>hw b (by simp[hb]))
theorem qMA (d:DfaV)(q:Nat)(w:List Nat)(a:Nat):run d q (w++[a])=nx d (run d q w) a:=by simp[run]
theorem bW {d:DfaV}{n k:Nat}{p:List Nat}(hd:VD d n k)(hp:p.length=n)(hn:Norm p)(a9:tF d p k=p):∀(w:List Nat) {q:Nat},q<n->tP k w->run (uI d p) (p.getD q 0) w=p.getD (run d q w) 0
 | [],q,_,_=>rfl
 | a::w,q,hq,hw=>by
  have ha:=hw a (by simp)
  show run (uI d p) (nx (uI d p) (p.getD q 0) a) w=p.getD (run d (nx d q a) w) 0
  rw[qPW hd hp hn a9 hq ha]
  exact bW hd hp hn a9 w (qV hd hq ha) (fun b hb=>hw b (by simp[hb]))
def vN (d:DfaV)(l:List Nat)(i:Nat):Nat->List Nat
 | 0=>l
 | a+1=>wK (vN d l i a) (nx d (l.getD i 0) a)
def qG (d:DfaV)(k:Nat):Nat->Nat->List Nat->List Nat
 | 0,_,l=>l
 | f+1,i,l=>if i<l.length then qG d k f (i+1) (vN d l i k) else l
def yH (d:DfaV)(k:Nat):List Nat:=qG d k d.final.length 0 [st0 d]
theorem tM (d:DfaV)(l:List Nat)(i:Nat):∀a,l <+: vN d l i a
 | 0=>List.prefix_refl _
 | a+1=>(tM d l i a).trans (nV _ _)
theorem lE {d:DfaV}{l:List Nat}(h:l.Nodup)(i:Nat):∀a,(vN d l i a).Nodup
 | 0=>h
 | a+1=>gJ (lE h i a)
theorem sK {d:DfaV}{l:List Nat}{i:Nat}{y:Nat}:∀ {a},y∈vN d l i a↔y∈l\/∃b,b<a/\y=nx d (l.getD i 0) b
 | 0=>by simp[vN]
 | a+1=>by
  rw[vN,lT,sK,or_assoc]
  refine or_congr_right ⟨?_,?_⟩
  ·rintro (⟨b,hb,h⟩|h)
   ·exact⟨b,by omega,h⟩
   ·exact⟨a,by omega,h⟩
  ·rintro ⟨b,hb,h⟩
   rcases Nat.lt_succ_iff_lt_or_eq.1 hb with hb|rfl
   ·exact .inl ⟨b,hb,h⟩
   ·exact .inr h
structure AccI (d:DfaV)(n k i:Nat)(l:List Nat):Prop where
 nd:l.Nodup
 lt:∀q∈l,q<n
 hd:0<l.length/\l.getD 0 0=st0 d
 cl:∀j a,j<i->j<l.length->a<k->nx d (l.getD j 0) a∈l
 re:∀q∈l,∃w,tP k w/\run d (st0 d) w=q
theorem qY {l m:List Nat}(h:l <+: m){i:Nat}(hi:i<l.length):m.getD i 0=l.getD i 0:=by
 obtain⟨r,rfl⟩:=h;simp[List.getD,List.getElem?_append_left hi]
theorem AccI.row {d:DfaV}{n k i:Nat}{l:List Nat}(hd:VD d n k)(h:AccI d n k i l)(hi:i<l.length):AccI d n k (i+1) (vN d l i k):=by
 have hp:=tM d l i k;have h2:=hp.length_le;have h0:l.getD i 0∈l:=by rw[zN hi];exact List.getElem_mem _
 have h1:=h.lt _ h0;refine⟨lE h.nd i k,fun q hq=>?_,⟨by have:=h.hd.1;omega,by rw[qY hp h.hd.1];exact h.hd.2⟩,fun j a hj hjl ha=>?_,fun q hq=>?_⟩
 ·rcases sK.1 hq with hq|⟨b,hb,rfl⟩
  ·exact h.lt q hq
  exact qV hd h1 hb
 ·rw[qY hp (show j<l.length by omega)]
  rcases Nat.lt_succ_iff_lt_or_eq.1 hj with hj|rfl
  ·exact sK.2 (.inl (h.cl j a hj (by omega) ha))
  exact sK.2 (.inr ⟨a,ha,rfl⟩)
 rcases sK.1 hq with hq|⟨b,hb,rfl⟩
 ·exact h.re q hq
 obtain⟨w,hw,e⟩:=h.re _ h0;refine⟨w++[b],fun c hc=>?_,by rw[qMA,e]⟩;rcases List.mem_append.1 hc with hc|hc
 ·exact hw c hc
 rw[List.mem_singleton]at hc;subst hc;exact hb
theorem qK {l:List Nat}{n:Nat}(h:l.Nodup)(hl:∀q∈l,q<n):l.length<=n:=by
 have:=h.length_le_of_subset (fun q hq=>List.mem_range.2 (hl q hq));simpa using this
theorem AccI.start {d:DfaV}{n k:Nat}(hd:VD d n k):AccI d n k 0 [st0 d] :=
 ⟨by simp,fun q hq=>by rw[List.mem_singleton]at hq;subst hq;exact mJ hd,⟨by simp,by simp⟩,fun j a hj=>by omega,fun q hq=>by
  rw[List.mem_singleton]at hq;subst hq;exact⟨[],fun a ha=>by simp at ha,rfl⟩⟩
theorem qFM {d:DfaV}{n k:Nat}(hd:VD d n k):∀f i l,AccI d n k i l->n<=i+f->AccI d n k n (qG d k f i l)/\(qG d k f i l).length<=n
 | 0,i,l,h,hf=>by
  have hl:=qK h.nd h.lt
  exact⟨⟨h.nd,h.lt,h.hd,fun j a hj hjl ha=>h.cl j a (by omega) hjl ha,h.re⟩,hl⟩
 | f+1,i,l,h,hf=>by
  rw[qG]
  split
  ·rename_i hi
   exact qFM hd f (i+1) _ (h.row hd hi) (by omega)
  ·rename_i hi
   have hl:=qK h.nd h.lt
   exact⟨⟨h.nd,h.lt,h.hd,fun j a hj hjl ha=>h.cl j a (by omega) hjl ha,h.re⟩,hl⟩
theorem wG {d:DfaV}{n k:Nat}(hd:VD d n k):AccI d n k n (yH d k)/\(yH d k).length<=n:=qFM hd _ _ _ (AccI.start hd) (by rw[hd.hn];omega)
theorem eQ {d:DfaV}{k f i:Nat}{l:List Nat}(h:¬i<l.length):qG d k f i l=l:=by
 cases f with
 | zero=>rfl
 | succ f=>rw[qG,if_neg h]
def qF (l:List Nat)(q:Nat):Int:=if q∈l then (l.idxOf q:Int) else -1
def wV (l:List Nat)(r:List Int):List Int:=r.map fun s=>qF l s.toNat
def wO (d:DfaV)(k:Nat):DfaV:=⟨d.letters,0,(yH d k).map fun q=>d.final.getD q false,(yH d k).map fun q=>wV (yH d k) (d.next.getD q [])⟩
section
variable {d:DfaV} {n k:Nat}
theorem kY (hd:VD d n k){i a:Nat}(hi:i<(yH d k).length)(ha:a<k):ent (wO d k).next i a=(((yH d k).idxOf (nx d ((yH d k).getD i 0) a):Nat):Int):=by
 have hA:=(wG hd).1;have hq:=hA.lt _ (show (yH d k).getD i 0∈yH d k by rw[zN hi];exact List.getElem_mem _);have hn:=(wG hd).2;unfold ent wO;rw[xW (x:=0) hi,wV,xW (x:=0) (by rw[hd.row _ hq];exact ha),qF,if_pos]
 ·rfl
 exact hA.cl i a (by omega) hi ha
theorem kF (hd:VD d n k):VD (wO d k) (yH d k).length k where
 hk:=hd.hk
 k1:=hd.k1
 k6:=hd.k6
 hn:=by simp[wO]
 n1:=(wG hd).1.hd.1
 nbig:=Nat.le_trans (wG hd).2 hd.nbig
 nl:=by simp[wO]
 s0:=by simp[wO]
 sn:=by have:=(wG hd).1.hd.1;simp only[wO];omega
 row:=fun i hi=>by
  have hA:=(wG hd).1
  have hq:=hA.lt _ (show (yH d k).getD i 0∈yH d k by rw[zN hi];exact List.getElem_mem _)
  simp only[wO]
  rw[xW (x:=0) hi,wV,List.length_map,hd.row _ hq]
 lo:=fun i a hi ha=>by rw[kY hd hi ha];omega
 hi:=fun i a hi ha=>by
  have hn:=(wG hd).2
  rw[kY hd hi ha]
  have:=List.idxOf_lt_length_of_mem ((wG hd).1.cl i a (by omega) hi ha)
  omega
theorem qHS (hd:VD d n k){i a:Nat}(hi:i<(yH d k).length)(ha:a<k):nx (wO d k) i a=(yH d k).idxOf (nx d ((yH d k).getD i 0) a):=by
 show (ent (wO d k).next i a).toNat=_;rw[kY hd hi ha];simp
theorem qEM (hd:VD d n k):∀(w:List Nat) {i:Nat},i<(yH d k).length->tP k w->(yH d k).getD (run (wO d k) i w) 0=run d ((yH d k).getD i 0) w
 | [],i,_,_=>rfl
 | a::w,i,hi,hw=>by
  have ha:=hw a (by simp)
  have hn:=(wG hd).2
  have hm:=(wG hd).1.cl i a (by omega) hi ha
  have hlt:=List.idxOf_lt_length_of_mem hm
  have h:=qEM hd w (i:=nx (wO d k) i a) (by rw[qHS hd hi ha];exact hlt) (fun b hb=>hw b (by simp[hb]))
  show (yH d k).getD (run (wO d k) (nx (wO d k) i a) w) 0=run d (nx d ((yH d k).getD i 0) a) w
  rw[h,qHS hd hi ha,zN hlt,List.getElem_idxOf]
theorem jZ (hd:VD d n k){i:Nat}(hi:i<(yH d k).length):(wO d k).final.getD i false=d.final.getD ((yH d k).getD i 0) false:=by
 simp only[wO];rw[xW (x:=0) hi]
end
def minD (d:DfaV)(k:Nat):DfaV:=wO (uI d (yI d k)) k
def minN (d:DfaV)(k:Nat):Nat:=(yH (uI d (yI d k)) k).length
section
variable {d:DfaV} {n k:Nat}
theorem lM (hd:VD d n k):VD (uI d (yI d k)) (cls (yI d k)) k:=bV hd (by rw[wU,hd.hn]) (uD d k)
theorem iZ (hd:VD d n k):VD (minD d k) (minN d k) k:=kF (lM hd)
theorem qJU (hd:VD d n k):minN d k<=n:=Nat.le_trans (wG (lM hd)).2 (Nat.le_trans (cls_le _) (by rw[wU,hd.hn];exact Nat.le_refl _))
end
open Go.RowKit
def tO (B:Nat)(w:World)(v:Value)(d:DfaV):Prop:=∃fv nv,v=.agg #[.int .i64 d.letters,.int .i64 d.start,fv,nv]/\Row B w fv (bls d.final)/\Mat B w nv d.next
theorem tO.kept {B:Nat}{w w':World}{v:Value}{d:DfaV}{row:Option Nat}(h:tO B w v d)(hg:w.grownBy w' row)(hr:∀k,row=some k->B<=k):tO B w' v d:=by
 obtain⟨fv,nv,h1,h2,h3⟩:=h;exact⟨fv,nv,h1,h2.kept hg hr,h3.kept hg hr⟩
theorem tO.mono {B B':Nat}{w:World}{v:Value}{d:DfaV}(h:tO B w v d)(hB:B<=B'):tO B' w v d:=by
 obtain⟨fv,nv,h1,h2,h3⟩:=h;exact⟨fv,nv,h1,h2.mono hB,h3.mono hB⟩
theorem lZ {d:DfaV}(h:d.letters<1\/6<d.letters):uG d=1:=by rw[uG,if_pos h]
theorem dH {d:DfaV}(h:¬(d.letters<1\/6<d.letters))(h2:512<d.final.length):uG d=3:=by rw[uG,if_neg h,if_pos h2]
theorem iW {d:DfaV}(h:¬(d.letters<1\/6<d.letters))(h2:¬512<d.final.length)(h3:d.final.length=0\/d.next.length≠d.final.length\/d.start<0\/d.final.length<=d.start):uG d=4:=by rw[uG,if_neg h,if_neg h2,if_pos h3]
theorem qO {d:DfaV}(h:¬(d.letters<1\/6<d.letters))(h2:¬512<d.final.length)(h3:¬(d.final.length=0\/d.next.length≠d.final.length\/d.start<0\/d.final.length<=d.start)){q:Nat}(hq:q<d.next.length)(hb:rowD d.letters d.final.length (d.next.getD q [])=false):uG d=4:=by
 rw[uG,if_neg h,if_neg h2,if_neg h3,if_neg];intro ha;have:=List.all_eq_true.1 ha d.next[q] (List.getElem_mem hq);rw[zN hq,this]at hb;cases hb
theorem qAH {d:DfaV}(h:¬(d.letters<1\/6<d.letters))(h2:¬512<d.final.length)(h3:¬(d.final.length=0\/d.next.length≠d.final.length\/d.start<0\/d.final.length<=d.start))(ha:∀q,q<d.next.length->rowD d.letters d.final.length (d.next.getD q [])=true):uG d=0:=by
 rw[uG,if_neg h,if_neg h2,if_neg h3,if_pos];rw[List.all_eq_true];intro r hr;obtain⟨q,hq,rfl⟩:=List.getElem_of_mem hr;have:=ha q hq
 rwa [zN hq]at this
theorem qET {k:Int}{n:Nat}{r:List Int}(h:(r.length:Int)≠k):rowD k n r=false:=by simp[rowD,h]
theorem gV {k:Int}{n:Nat}{r:List Int}{y:Nat}(hy:y<r.length)(h:r.getD y 0<0\/n<=r.getD y 0):rowD k n r=false:=by
 rw[<-Bool.not_eq_true];intro hr;have:=(oU.1 hr).2 y hy;omega
def qSL (d:DfaV)(k:Nat):Prop:=∀x,x<k->rowD d.letters d.final.length (d.next.getD x [])=true
open Go.Maps
theorem rQ:Try.prog.underlying 100=some (.map 3 3):=by kernel_rfl
theorem tH:Try.prog.underlying 3=some (.int .i64):=by kernel_rfl
theorem gT (w:World):(zeroValue 3).run Try.prog w=.ok (.int .i64 0) w:=by kernel_rfl
def Mid (x:Int):Prop:=-4611686018427387904<x/\x<4611686018427387904
theorem cD {x:Int}(hx:Mid x):(Lit.int .i64 x).wf=true:=by
 have h1:IntKind.i64.min = -9223372036854775808:=rfl;have h2:IntKind.i64.max=9223372036854775807:=rfl;obtain⟨h3,h4⟩:=hx;simp[Lit.wf];omega
theorem qDK {x:Int}(hx:Mid x):keyOf Try.prog 3 (.int .i64 x)=some (.int .i64 x):=keyOf_int_mk (q:=.i64) (by kernel_rfl) (cD hx)
def rS (w:World)(b n:Nat)(l:List Int):Prop :=
 ∃D:DataW Unit,w.ownsMap Try.prog 3 (plainElem Try.prog 3) b n D/\size D=l.length /\
  ∀x:Int,Mid x->has D (.int .i64 x)=decide (x∈l)/\D.atKey (.int .i64 x) (.lit (.int .i64 0))=.lit (.int .i64 (if x∈l then ((l.idxOf x:Nat):Int) else 0))
theorem rS.made (w:World):rS (w.alloc (.map #[] 0)) w.heap.size 0 []:=by
 refine⟨.map [],World.ownsMap_made _ _ _ _,rfl,fun x _=>⟨by simp[has_eq],?_⟩⟩;rw[WideAt.atKey_none _ (by simp)];simp
theorem rS.kept {w w':World}{b n:Nat}{l:List Int}{row:Option Nat}(h:rS w b n l)(hg:w.grownBy w' row)(a9:row≠some b):rS w' b n l:=by
 obtain⟨D,h1,h2,h3⟩:=h;exact⟨D,h1.kept hg (fun e=>a9 e.symm),h2,h3⟩
theorem rS.mono {w:World}{b n n':Nat}{l:List Int}(h:rS w b n l)(hn:n<=n'):rS w b n' l:=by
 obtain⟨D,h1,h2,h3⟩:=h;exact⟨D,h1.mono hn,h2,h3⟩
theorem rS.lt {w:World}{b n:Nat}{l:List Int}(h:rS w b n l):b<w.heap.size:=by
 obtain⟨D,h1,_⟩:=h;exact h1.lt
theorem rS.lookup {w:World}{b n:Nat}{l:List Int}(h:rS w b n l){x:Int}(hx:Mid x):(Instr.lookup 100 (.map (some b)) (.int .i64 x) true).run Try.prog w=.ok (.tuple #[.int .i64 (if x∈l then ((l.idxOf x:Nat):Int) else 0),.bool (decide (x∈l))]) w:=by
 obtain⟨D,h1,h2,h3⟩:=h;obtain⟨v,ps,h0,hv⟩:=h1.look_ok aO rQ (gT w) (plainElem_int tH (by decide)) (qDK hx);obtain⟨c,rfl,hc,_⟩:=plainElem_int_inv tH hv;obtain⟨e1,e2⟩:=h3 x hx;have e3:=congrArg Prod.fst hc;simp only[e2]at e3;rw[h0,e1]
 have e4:(if x∈l then ((l.idxOf x:Nat):Int) else 0)=c:=by
  simp only[Lit.int.injEq,DataW.lit.injEq,true_and]at e3;exact e3
 rw[e4]
theorem rS.len {w:World}{b n:Nat}{l:List Int}(h:rS w b n l):(Builtin.len_ #[100] 3 #[.map (some b)]).run Try.prog w=.ok (.int .i64 (l.length:Nat)) w:=by
 obtain⟨D,h1,h2,h3⟩:=h;have h0:=h1.len rQ 3;rw[h2]at h0;exact h0
theorem lH {w:World}{ops:Array Oper}{a9:List Oper}{o:Oper}{a:Act}{Q:Exit->Act->World->Prop}(hg:o.guard=none)(m x v:Operand)(a7:o.op=Op.mapUpdate 100 m x v)(b n:Nat)(l:List Int)(z:Int)(hm:a.eval m=.map (some b))(hx:a.eval x=.int .i64 z)(hv:a.eval v=.int .i64 (l.length:Nat))(h:rS w b n l)(hn:n<maxLen)(hz:Mid z)(a8:z ∉ l)(a6:l.length<4611686018427387904)(hK:∀w',rS w' b (n+1) (l++[z])->w.grownBy w' (some b)->wpList Try.prog ops Q a9 (a.put o.dst undef) w'):wpList Try.prog ops Q (o::a9) a w:=by
 obtain⟨D,h1,h2,h3⟩:=h;obtain⟨w',h0,h4,h7⟩:=h1.update aO rQ hn (qDK hz) (plainElem_int tH (cD (x:=((l.length:Nat):Int)) ⟨by omega,by omega⟩));have h6:WideAt.IsKeyLit (.int .i64 z):=by simp[WideAt.IsKeyLit]
 refine wpList_plain hg fun K' hK'=>?_;unfold Oper.wp;simp[execOp,a7,hm,hx,hv,h0,Result.andThen];refine hK' _ _ (hK w' ⟨_,h4,?_,fun y hy=>?_⟩ h7)
 ·rw[size_put (h1.tidy aO),(h3 z hz).1,decide_eq_false a8,h2];simp
 by_cases e:y=z
 ·subst e
  refine⟨by rw[has_put_same h1.isMap h6];simp,?_⟩;rw[atKey_put_same h1.isMap h6,if_pos (by simp),List.idxOf_append,if_neg a8];simp
 have h5:(Lit.int .i64 y)≠Lit.int .i64 z:=by intro h;injection h with _ h;exact e h
 obtain⟨e1,e2⟩:=h3 y hy;refine⟨by rw[has_put_other h5,e1];simp[e],?_⟩;rw[atKey_put_other h5,e2];by_cases hyl:y∈l
 ·rw[if_pos hyl,if_pos (by simp[hyl]),List.idxOf_append,if_pos hyl]
 rw[if_neg hyl,if_neg (by simp[hyl,e])]
def wT (l:List Nat)(k:Nat):List Nat:=l.take k++List.replicate (l.length-k) 0
theorem uU (l:List Nat):wT l 0=List.replicate l.length 0:=by simp[wT]
theorem tK (l:List Nat):wT l l.length=l:=by simp[wT]
theorem yV {l:List Nat}{k:Nat}(h:k<=l.length):(wT l k).length=l.length:=by simp[wT];omega
theorem tJ {l:List Nat}{k:Nat}(h:k<l.length):(wT l k).set k (l.getD k 0)=wT l (k+1):=by
 have hl:(l.take k).length=k:=by simp;omega
 unfold wT;rw[List.set_append_right _ _ (by omega),hl,Nat.sub_self,zZ (d:=0) h,show l.length-k=(l.length-(k+1))+1 by omega,List.replicate_succ,List.set_cons_zero,List.append_assoc];rfl
def qEJ (w:World)(p:List Nat)(e:Ending)(w':World):Prop :=
 ∃g,e=.returned (.slice (some ⟨g,0,none⟩) p.length p.length)/\w.heap.size<=g/\Arr w' g 3 (nats p)/\w.grownBy w' none
theorem qJJ {l:List Int}{k:Nat}(hk:k<l.length):(numb l).getD k 0=if l[k]∈yO (l.take k) then (yO (l.take k)).idxOf l[k] else (yO (l.take k)).length:=by
 rw[zN (by rw[yW];exact hk),pJ hk,<-qBH hk,List.take_succ_eq_append_getElem hk,tY];by_cases h:l[k]∈yO (l.take k)
 ·rw[uZ h,if_pos h]
 rw[vK h,if_neg h,List.idxOf_append,if_neg h];simp
theorem dW (B:Nat)(w:World)(v:Value)(l:List Int)(hB:B<=w.heap.size)(h:Row B w v (ints l))(a9:∀x∈l,Mid x)(a4:l.length<=4194304):Calls Try.prog 79 #[v] w (qEJ w (numb l)):=by
 have c4:=@run_makeMap Try.prog;obtain⟨va,vc,rfl⟩:=h.shape;rw[zK]at h⊢;have H:=Kh h;have HM:=Kh a9;clear h a9;obtain⟨w1,h4⟩:=Nm (w.alloc (.map #[] 0));have b0:w.grownBy w1 none:=by rw[h4];exact Ga w _ none
 have c3:w1.heap.size=w.heap.size+1:=by rw[h4,zU]
 have b7:Hid (rS w1 w.heap.size 0 []):=Kh (by rw[h4];exact rS.made w);have b8:=Kh b0;have b5:=Kh h4;clear b0 h4;go_enter Try.func79,Try.ntmps79;go_upto_region 2 with fail;rw[<-b5.out];go_wp2_with (first|(at_make;refine qC rfl _ _ _ rfl yJ rfl .i64 .i64 _ _ l.length rfl rfl rfl rfl ?b1 ?b2 ?_)|fail)
 case b1=>omega
 case b2=>unfold maxLen;omega
 intro w2 h0 H6 H3;have a0:=Kh h0;have H9:=Kh H6;have c2:=H6.size;clear h0 H6;obtain⟨g,hg⟩:=Nm (w.heap.size+1);rw[<-hg]at a0⊢;have c8:w.heap.size<g:=by omega
 have c7:g<w2.heap.size:=by omega
 clear hg H3;go_wp2
 go_loopg [5,6,7,8,15] l.length (fun gh a5 a6 a7 a8 i wr=>∃k:Nat,gh+k=l.length/\i=.int .i64 k/\Arr wr g 3 (nats (wT (numb l) k))/\rS wr w.heap.size k (yO (l.take k))/\w.grownBy wr none)
 case atStart=>exact⟨0,rfl,rfl,by rw[uU,yW,yM];exact a0.out,by simpa [yO] using b7.out.kept H9.out (by simp),zH b8.out H9.out⟩
 clear a0 H9;obtain⟨k,hg,rfl,h0,h5,h9⟩:=hrel;obtain⟨HG,HA,h8,H8⟩:=K4 hg h0 h5 h9;have c0:=h9.size;have a2:(numb l).length=l.length:=yW l;clear hg h5;by_cases hk:k<l.length
 ·have c6:(k:Int)<l.length:=by omega
  obtain⟨ib,io,ic,e,_,_,_,a1⟩:=(H.out.kept h9 (by simp)).some_ (by rw[zK];omega);simp only[Value.slice.injEq]at e;obtain⟨rfl,-,-⟩:=e;have ck:=a1.int k hk;have H2:Mid (l.getD k 0):=(by rw[zN hk];exact HM.out _ (List.getElem_mem hk));have h2:=qJJ hk;rw[<-zN (d:=0) hk]at h2;have h7:yO (l.take (k+1))=wK (yO (l.take k)) (l.getD k 0):=by rw[List.take_succ_eq_append_getElem hk,tY,zN hk]
  obtain⟨x,hx⟩:=Nm (l.getD k 0);rw[<-hx]at ck H2 h2 h7;have h6:=uW (l.take k);rw[List.length_take]at h6;have H4:=h8.out.lookup H2;have h1:=tJ (l:=numb l) (k:=k) (by omega);have c9:=frozen_of_row wr g k;have cgk:=h0.nat k (by rw[yV (by omega)];omega);have d0:(nats (wT (numb l) k)).length=l.length:=by rw[zR,yV (by omega)];omega
  have fgk:=h0.frozen k;clear a1 hx h9 h0;by_cases hin:x∈yO (l.take k)
  ·rw[if_pos hin,decide_eq_true hin]at H4
   rw[if_pos hin]at h2;have H1:Hid (yO (l.take (k+1))=yO (l.take k)):=Kh (by rw[h7,uZ hin]);obtain⟨c,hc⟩:=Nm ((yO (l.take k)).idxOf x);rw[<-hc]at H4 h2;rw[h2]at h1;have HS:=Kh h1;clear h2 h1 hc h7 hin;go_wp2;go_roundg (l.length-(k+1))
   case measure=>have:=HG.out;omega
   refine⟨k+1,by omega,by go_num,?_,?_,?_⟩
   ·rw[<-HS.out];exact HA.out.nat_set k (by rw[yV (by omega)];omega) c
   ·rw[H1.out]
    exact(h8.out.kept (zF wr ⟨g,k,none⟩ _) (by simp;omega)).mono (by omega)
   exact zC H8.out (zF wr ⟨g,k,none⟩ _) (fun q e=>by have:=Oj e;simp at this;omega)
  rw[if_neg hin,decide_eq_false hin]at H4;rw[if_neg hin]at h2;have H1:Hid (yO (l.take (k+1))=yO (l.take k)++[x]):=Kh (by rw[h7,vK hin]);have b3:=Kh hin;have b6:=Kh H2;rw[h2]at h1;have HS:=Kh h1;clear h2 h1 h7 hin cgk fgk;obtain⟨L,hL⟩:=Nm (yO (l.take k));rw[<-hL]at h8 H1 b3 HS h6;have c5:=h8.out.len;clear hL;go_wp2_with (first|(at_mapUpdate;refine lH rfl _ _ _ rfl w.heap.size k L x rfl rfl rfl h8.out (by unfold maxLen;omega) b6.out b3.out (by omega) ?_;intro w5 h3 H5;(have H0:=HA.out.kept H5 (by simp;omega));(have H7:=Kh h3);(have b4:=Kh H5);(have b9:=Kh H0);(have fg5:=H0.frozen k);(have cg5:=H0.nat k (by rw[yV (by omega)];omega));clear h3 H5 H0)|fail);go_roundg (l.length-(k+1))
  case measure=>have:=HG.out;omega
  have c1:=b4.out.size;refine⟨k+1,by omega,by go_num,?_,?_,?_⟩
  ·rw[<-HS.out];exact b9.out.nat_set k (by rw[yV (by omega)];omega) _
  ·rw[H1.out]
   exact H7.out.kept (zF w5 ⟨g,k,none⟩ _) (by simp;omega)
  exact zC (zC H8.out b4.out (fun q e=>by have:=Oj e;omega)) (zF w5 ⟨g,k,none⟩ _) (fun q e=>by have:=Oj e;simp at this;omega)
 have a3:k=l.length:=by have:=HG.out;omega
 have HE:Hid (wT (numb l) k=numb l):=Kh (by rw[a3,<-a2];exact tK _);clear a3 h0;go_wp2;go_ret;refine⟨g,by rw[a2];rfl,by omega,?_,H8.out⟩;rw[<-HE.out];exact HA.out
end Go.Proofs.Ytobakifdllameaa
namespace Go.Proofs.Ytobakifdllameaa
open Go.RowKit
def eO (p q:List Nat):List Nat:=List.zipWith (fun a b=>a*(p.length+1)+b) p q
theorem mX {p q:List Nat}(h:q.length=p.length):(eO p q).length=p.length:=by simp[eO,h]
theorem qHG {p q:List Nat}:nats (eO p q)=ints (mY p q):=by
 rw[sH];congr 1;simp only[eO,mY,List.map_zipWith];congr 1
theorem qKW {p q:List Nat}(h:q.length=p.length){k:Nat}(hk:k<p.length):(eO p q).getD k 0=p.getD k 0*(p.length+1)+q.getD k 0:=by
 rw[zN (by rw[mX h];exact hk),zN hk,zN (by omega)];simp[eO]
theorem qKX {p q:List Nat}(hp:∀c∈p,c<4194305)(hq:∀c∈q,c<4194305)(hl:p.length<=4194304):∀x∈mY p q,Mid x:=by
 intro x hx;obtain⟨i,hi,rfl⟩:=List.getElem_of_mem hx;simp only[mY,List.getElem_zipWith,qBD];have h1:=hp _ (List.getElem_mem (l:=p) (n:=i) (by simp[mY]at hi;omega));have h2:=hq _ (List.getElem_mem (l:=q) (n:=i) (by simp[mY]at hi;omega))
 generalize p[i]'(by simp[mY]at hi;omega)=a at h1⊢
 generalize q[i]'(by simp[mY]at hi;omega)=b at h2⊢
 have:a*(p.length+1)<=4194304*4194305:=Nat.mul_le_mul (by omega) (by omega);have e:(a:Int)*((p.length:Int)+1)+b=((a*(p.length+1)+b:Nat):Int):=by push_cast;rfl
 rw[e];constructor<;>omega
theorem qHO {a m X b:Nat}(hX:X=a*(m+1))(a9:X<=17592190238720)(hb:b<4194305):wrap64 (wrap64 ((a:Int)*((m:Int)+1))+(b:Int))=((X+b:Nat):Int):=by
 have h0:(a:Int)*((m:Int)+1)=(X:Int):=by rw[hX];push_cast;rfl
 clear hX;rw[h0];have h9:wrap64 (X:Int)=(X:Int):=IntWalk.wrap64_in _ (by omega);rw[h9,<-Int.natCast_add];exact IntWalk.wrap64_in _ (by omega)
theorem qOJ (B C:Nat)(w:World)(va vb:Value)(p q:List Nat)(hB:B<=w.heap.size)(hC:C<=w.heap.size)(ha:Row B w va (nats p))(hb:Row C w vb (nats q))(hl:q.length=p.length)(h0:0<p.length)(hp:∀c∈p,c<4194305)(hq:∀c∈q,c<4194305)(a9:p.length<=4194304):Calls Try.prog 80 #[va,vb] w (qEJ w (gQ p q)):=by
 obtain⟨pb,po,pc,rfl,c0,H1,H0,H9⟩:=ha.some_ (by rw[zR];exact h0);obtain⟨qb,qo,qc,rfl,b8,h5,h9,H8⟩:=hb.some_ (by rw[zR];omega);rw[zR]at H1 h5⊢;rw[zR,hl];rw[hl]at h5;have b3:pc<=9223372036854775807:=by unfold maxLen at H0;omega
 have b0:qc<=9223372036854775807:=by unfold maxLen at h9;omega
 obtain⟨RA,RB,HL,HP,HQ⟩:=K5 H9 H8 hl hp hq;have H4:=Kh (qKX hp hq a9);clear H9 H8 hl hp hq ha hb;go_enter Try.func80,Try.ntmps80;go_wp2_with (first|(at_make;refine qC rfl _ _ _ rfl yJ rfl .i64 .i64 _ _ p.length rfl rfl rfl rfl ?b1 ?b2 ?_)|fail)
 case b1=>omega
 case b2=>unfold maxLen;omega
 intro w2 h2 a2 H2;have H7:=Kh h2;have a7:=Kh a2;clear h2 a2;obtain⟨g,hg⟩:=Nm w.heap.size;have H6:=Kh hg;rw[<-hg]at H7 H2 hB hC⊢;clear hg;go_wp2
 go_loopg [6,12] p.length (fun gh a6 i wr=>∃k:Nat,gh+k=p.length/\i=.int .i64 k/\Arr wr g 3 (nats (wT (eO p q) k))/\w.grownBy wr none)
 case atStart=>exact⟨0,rfl,rfl,by rw[uU,mX HL.out,yM];exact H7.out,a7.out⟩
 clear H7 a7;obtain⟨k,hg,rfl,h2,h4⟩:=hrel;obtain⟨HG,HA,H5⟩:=K3 hg h2 h4;have H3:(eO p q).length=p.length:=mX HL.out;clear hg;by_cases hk:k<p.length
 ·have c1:(k:Int)<p.length:=by omega
  have ca:=(RA.out.kept h4 (by simp)).nat k hk;have cb:=(RB.out.kept h4 (by simp)).nat k (by rw[HL.out];exact hk);have h3:=tJ (l:=eO p q) (k:=k) (by omega);rw[qKW HL.out hk]at h3;have a8:=sM (i:=k) HP.out (by omega);have a0:=sM (i:=k) HQ.out (by omega);have cgk:=h2.nat k (by rw[yV (by omega)];omega);have fgk:=h2.frozen k;obtain⟨a,ha⟩:=Nm (p.getD k 0);obtain⟨b,hb⟩:=Nm (q.getD k 0);rw[<-ha]at ca h3 a8;rw[<-hb]at cb h3 a0;obtain⟨X,hX⟩:=Nm (a*(p.length+1))
  have b4:X<=17592190238720:=by
   have h8:a*(p.length+1)<=4194304*4194305:=Nat.mul_le_mul (by omega) (by omega);omega
  rw[<-hX]at h3;have hw:=qHO hX b4 a0;have HW:=Kh hw;have HS:=Kh h3;have ca':wr.drew.cell? ⟨pb,po+k,none⟩=some (.int .i64 (a:Int)):=ca;have cb':wr.drew.cell? ⟨qb,qo+k,none⟩=some (.int .i64 (b:Int)):=cb;have b9:pb≠g:=(by omega);have b7:qb≠g:=by omega
  have a5:Hid (∀u,((wr.setCell ⟨g,k,none⟩ u).drew.cell? ⟨pb,po+k,none⟩=some (.int .i64 (a:Int)))):=Kh (fun u=>by
   show (wr.setCell ⟨g,k,none⟩ u).cell? ⟨pb,po+k,none⟩=_
   rw[World.cell?_of_block ((zF wr ⟨g,k,none⟩ u).block pb (by have:=h4.size;have:=H6.out;omega) (by simp;omega))];exact ca)
  have a4:Hid (∀u,((wr.setCell ⟨g,k,none⟩ u).drew.cell? ⟨qb,qo+k,none⟩=some (.int .i64 (b:Int)))):=Kh (fun u=>by
   show (wr.setCell ⟨g,k,none⟩ u).cell? ⟨qb,qo+k,none⟩=_
   rw[World.cell?_of_block ((zF wr ⟨g,k,none⟩ u).block qb (by have:=h4.size;have:=H6.out;omega) (by simp;omega))];exact cb)
  clear ha hb h3 h4 h2 hX hw;go_upto_region 5 with fail
  go_region_held3 (fun w'=>w'.cell? ⟨pb,po+k,none⟩=some (.int .i64 (a:Int))/\w'.cell? ⟨qb,qo+k,none⟩=some (.int .i64 (b:Int))) (first|exact⟨ca',cb'⟩|exact⟨a5.out _,a4.out _⟩|go_keep|fail) (fail)
  all_goals
   clear ca ca' cb cb' a5 a4 cgk fgk;go_wp2;go_roundg (p.length-(k+1))
   case measure=>have:=HG.out;omega
   refine⟨k+1,by omega,by go_num,?_,?_⟩
   ·rw[<-HS.out]
    have h1:=HA.out.nat_set k (by rw[yV (by omega)];omega) (X+b);rw[HW.out];exact h1.of_heap rfl
   exact vJ (zC H5.out (zF wr ⟨g,k,none⟩ _) (fun q e=>by have h7:g=q:=Oj e;have:=H6.out;omega)) rfl rfl rfl rfl
 have a1:k=p.length:=by have:=HG.out;omega
 have HE:Hid (wT (eO p q) k=eO p q):=Kh (by rw[a1,<-H3];exact tK _);clear a1 h2;go_wp2_with fail;rw[HE.out]at HA
 have HN:=Kh (dW (g+1) wr (.slice (some ⟨g,0,none⟩) p.length p.length) (mY p q) HA.out.lt (by
  rw[<-qHG]
  exact .inr ⟨g,0,p.length,by rw[zR,H3],by omega,by rw[zR,H3];exact Nat.le_refl _,by unfold maxLen;omega,HA.out.row⟩) H4.out (by rw[qE HL.out];exact a9))
 go_wp2_with fail;refine HN.out.mono ?_;rintro e w5 ⟨g5,rfl,c2,a3,h6⟩;have c3:numb (mY p q)=gQ p q:=rfl;have b6:=Kh a3;have b5:=Kh h6;clear a3 h6;go_wp2;go_ret;refine⟨g5,rfl,?_,b6.out,zH H5.out b5.out⟩;have:=H5.out.size;omega
theorem kD {xs:List Int}{k:Nat}(h:k<xs.length):xs.take (k+1)=xs.take k++[xs.getD k 0]:=by
 rw[List.take_add_one];simp[List.getD,h]
theorem lK (B C:Nat)(w:World)(va vb:Value)(xs ys:List Int)(ha:Row B w va (ints xs))(hb:Row C w vb (ints ys)):Calls Try.prog 40 #[va,vb] w fun e w'=>e=.returned (.bool (decide (xs=ys)))/\∃m,w'=w.drewN m:=by
 have h2:=ha.len_le;rw[zK]at h2;unfold maxLen at h2;have h1:=hb.len_le;rw[zK]at h1;unfold maxLen at h1;obtain⟨aa,ac,rfl⟩:=ha.shape;obtain⟨ba,bc,rfl⟩:=hb.shape;rw[zK]at ha hb⊢;rw[zK];by_cases hl:xs.length=ys.length
 ·by_cases h0:xs.length=0
  ·have hx:xs=[]:=List.eq_nil_of_length_eq_zero h0
   have hy:ys=[]:=List.eq_nil_of_length_eq_zero (by omega);subst hx;subst hy;clear ha hb;go_enter Try.func40,Try.ntmps40;go_wp2
   go_loopg [13] 0 (fun g i wr=>i=.int .i64 0/\wr=w)
   case atStart=>exact⟨rfl,rfl⟩
   obtain⟨rfl,rfl⟩:=hrel;go_wp2;go_ret;exact⟨yT rfl,0,rfl⟩
  obtain⟨ab,ao,ac',e,_,_,_,h4⟩:=ha.some_ (by rw[zK];omega);simp only[Value.slice.injEq]at e;obtain⟨rfl,-,-⟩:=e;obtain⟨bb,bo,bc',e,_,_,_,h3⟩:=hb.some_ (by rw[zK];omega);simp only[Value.slice.injEq]at e;obtain⟨rfl,-,-⟩:=e;obtain⟨RA,RB,HL⟩:=K3 h4 h3 hl;clear ha hb h4 h3;rw[<-hl];clear hl;go_enter Try.func40,Try.ntmps40;go_wp2
  go_loopg [13] xs.length (fun g i wr=>∃k:Nat,g+k=xs.length/\i=.int .i64 k/\xs.take k=ys.take k/\∃m,wr=w.drewN m)
  case atStart=>exact⟨0,rfl,rfl,rfl,0,rfl⟩
  obtain⟨k,hg,rfl,h5,m,rfl⟩:=hrel;have HG:=Kh hg;have OK:=Kh h5;clear hg h5;by_cases hk:k<xs.length
  ·have h7:(k:Int)<xs.length:=by omega
   have ca:=RA.out.int k hk;have cb:=RB.out.int k (by have:=HL.out;omega);obtain⟨z,hz⟩:=Nm (xs.getD k 0);obtain⟨u,hu⟩:=Nm (ys.getD k 0);rw[<-hz]at ca;rw[<-hu]at cb;have HZ:=Kh hz;have HU:=Kh hu;clear hz hu;by_cases hzu:z=u
   ·have HN:Hid (xs.take (k+1)=ys.take (k+1)):=Kh (by rw[kD hk,kD (by have:=HL.out;omega),OK.out,<-HZ.out,<-HU.out,hzu])
    subst hzu;go_wp2
    go_quiet (fail)
    go_wp2;go_roundg (xs.length-(k+1))
    case measure=>have:=HG.out;omega
    exact⟨k+1,by omega,by go_num,HN.out,_,rfl⟩
   have e1:(z != u)=true:=by rw[bne_iff_ne];exact hzu
   have HN:Hid (decide (xs=ys)=false):=Kh (by rw[decide_eq_false_iff_not];rintro rfl;exact hzu (by rw[HZ.out,HU.out]));go_wp2
   go_quiet (fail)
   go_wp2;go_ret;exact⟨yT HN.out.symm,_,by rw[World.drewN_drewN]⟩
  have HY:Hid (decide (xs=ys)=true):=by
   have h6:k=xs.length:=by have:=HG.out;omega
   have:=OK.out;rw[List.take_of_length_le (by omega),List.take_of_length_le (by have:=HL.out;omega)]at this;exact Kh (by rw[decide_eq_true_eq];exact this)
  go_wp2;go_ret;exact⟨yT HY.out.symm,m,rfl⟩
 have e1:((xs.length:Int) != (ys.length:Int))=true:=by rw[bne_iff_ne];omega
 have HN:Hid (decide (xs=ys)=false):=Kh (by rw[decide_eq_false_iff_not];rintro rfl;exact hl rfl);clear ha hb;go_enter Try.func40,Try.ntmps40;go_wp2;go_ret;exact⟨yT HN.out.symm,0,rfl⟩
theorem qOH {l m:List Nat}:((l.map fun(x:Nat)=>(x:Int)) == (m.map fun(x:Nat)=>(x:Int)))=decide (l=m):=by
 rw[Bool.eq_iff_iff,beq_iff_eq,decide_eq_true_eq];constructor
 ·intro h
  have:=congrArg (List.map Int.toNat) h;simpa [List.map_map,Function.comp_def] using this
 rintro rfl;rfl
theorem qFH {l m:List Nat}:decide ((l.map fun(x:Nat)=>(x:Int))=m.map fun(x:Nat)=>(x:Int))=decide (l=m):=by
 rw[<-qOH (l:=l) (m:=m),Bool.eq_iff_iff,decide_eq_true_eq,beq_iff_eq]
structure DAt (B:Nat)(w:World)(d:DfaV)(n k fb fo fc b off cap:Nat)(RB RO RC:Nat->Nat):Prop where
 ok:VD d n k
 flt:fb<B
 frow:vM w fb fo (bls d.final)
 fcap:n<=fc/\fc<=maxLen
 blt:b<B
 bltw:b<w.heap.size
 cap:n<=cap/\cap<=maxLen
 hd:∀q,q<n->w.cell? ⟨b,off+q,none⟩=some (.slice (some ⟨RB q,RO q,none⟩) k (RC q))
 el:∀q a,q<n->a<k->w.cell? ⟨RB q,RO q+a,none⟩=some (.int .i64 ((nx d q a:Nat):Int))
 rlt:∀q,q<n->RB q<B/\RB q<w.heap.size
 rcap:∀q,q<n->k<=RC q/\RC q<=maxLen
theorem DAt.kept {B:Nat}{w w':World}{d:DfaV}{n k fb fo fc b off cap:Nat}{RB RO RC:Nat->Nat}{row:Option Nat}(h:DAt B w d n k fb fo fc b off cap RB RO RC)(hg:w.grownBy w' row)(hr:∀k,row=some k->B<=k):DAt B w' d n k fb fo fc b off cap RB RO RC where
 ok:=h.ok
 flt:=h.flt
 frow:=h.frow.kept hg (fun e=>by have:=hr _ e;have:=h.flt;omega)
 fcap:=h.fcap
 blt:=h.blt
 bltw:=Nat.lt_of_lt_of_le h.bltw hg.size
 cap:=h.cap
 hd:=fun q hq=>(World.cell?_of_block (hg.block b h.bltw (fun e=>by have:=hr b e.symm;have:=h.blt;omega))).trans (h.hd q hq)
 el:=fun q a hq ha=>(World.cell?_of_block (hg.block (RB q) (h.rlt q hq).2 (fun e=>by have:=hr _ e.symm;have:=(h.rlt q hq).1;omega))).trans (h.el q a hq ha)
 rlt:=fun q hq=>⟨(h.rlt q hq).1,Nat.lt_of_lt_of_le (h.rlt q hq).2 hg.size⟩
 rcap:=h.rcap
theorem DAt.fin {B:Nat}{w:World}{d:DfaV}{n k fb fo fc b off cap:Nat}{RB RO RC:Nat->Nat}(h:DAt B w d n k fb fo fc b off cap RB RO RC){q:Nat}(hq:q<n):w.cell? ⟨fb,fo+q,none⟩=some (.bool (d.final.getD q false)):=by
 have hl:=h.ok.hn;have:=vM.map h.frow q (by omega);rw[this,zN (by omega)]
def dAgg (k st fb fo fc b off cap n:Nat):Value:=.agg #[.int .i64 (k:Int),.int .i64 (st:Int),.slice (some ⟨fb,fo,none⟩) n fc,.slice (some ⟨b,off,none⟩) n cap]
theorem tO.at {B:Nat}{w:World}{v:Value}{d:DfaV}{n k:Nat}(h:tO B w v d)(hd:VD d n k):∃fb fo fc b off cap RB RO RC,v=dAgg k (st0 d) fb fo fc b off cap n/\DAt B w d n k fb fo fc b off cap RB RO RC:=by
 obtain⟨fv,nv,rfl,hf,hn⟩:=h;obtain⟨fb,fo,fc,rfl,h1,h2,h3,h4⟩:=hf.some_ (by rw[zX,hd.hn];exact hd.n1);obtain⟨b,off,cap,A,C,rfl,k1,k2,k3⟩:=hn.some_ (by rw[hd.nl];exact hd.n1)
 have hr:∀q,∃rb ro,q<n->A q=some ⟨rb,ro,none⟩/\rb<B/\k<=C q/\C q<=maxLen/\vM w rb ro (ints (d.next.getD q [])):=by
  intro q;by_cases hq:q<n
  ·have hl:=hd.row q hq
   obtain⟨rb,ro,c,e,h4,h5,h6,h7⟩:=(k3.row q (by rw[hd.nl];exact hq)).some_ (by rw[zK,hl];exact hd.k1);simp only[Value.slice.injEq]at e;rw[zK,hl]at h5;exact⟨rb,ro,fun _=>⟨e.1,h4,by rw[e.2.2];exact h5,by rw[e.2.2];exact h6,h7⟩⟩
  exact⟨0,0,fun h=>absurd h hq⟩
 obtain⟨RB,h8⟩:=Classical.axiomOfChoice hr;obtain⟨RO,h0⟩:=Classical.axiomOfChoice h8;rw[zX,hd.hn]at h2;rw[hd.nl]at k1;refine⟨fb,fo,fc,b,off,cap,RB,RO,C,?_,hd,h1,h4,⟨h2,h3⟩,k3.lt,k3.ltw,⟨k1,k2⟩,fun q hq=>?_,fun q a hq ha=>?_,fun q hq=>?_,fun q hq=>?_⟩
 ·rw[dAgg,bO hd,hd.hk,zX,hd.hn,hd.nl]
 ·rw[k3.hd q (by rw[hd.nl];exact hq),(h0 q hq).1,hd.row q hq]
 ·rw[(h0 q hq).2.2.2.2.int a (by rw[hd.row q hq];exact ha),qJI hd hq ha]
  rfl
 ·have:=h0 q hq
  exact⟨this.2.1,this.2.2.2.2.1⟩
 have:=h0 q hq;exact⟨this.2.2.1,this.2.2.2.1⟩
theorem zL {w:World}{p:Nat}{x0 x1 x2 x3:Value}{e:Nat}(h:w.heap[p]?=some (.cells #[x0,x1,x2,x3] e (0,0))):w.cell? ⟨p,0,none⟩=some x0/\w.cell? ⟨p,1,none⟩=some x1/\w.cell? ⟨p,2,none⟩=some x2/\w.cell? ⟨p,3,none⟩=some x3:=by
 have c0:=zG h 0;have c1:=zG h 1;have c2:=zG h 2;have c3:=zG h 3;simp only[List.getElem_toArray,List.getElem_cons_zero,List.getElem_cons_succ]at c0 c1 c2 c3;exact⟨c0,c1,c2,c3⟩
theorem jB {w:World}{g n:Nat}{l:List Nat}(h:vM w g 0 (nats l))(hl:l.length=n)(hn:n<=9223372036854775807):Row (g+1) w (.slice (some ⟨g,0,none⟩) n n) (nats l) :=
 .inr ⟨g,0,n,by rw[zR,hl],by omega,by rw[zR,hl];exact Nat.le_refl _,by unfold maxLen;omega,h⟩
theorem qHA {d:DfaV}{p:List Nat}{a q:Nat}(hq:q<p.length):(rJ d p a).take (q+1)=(rJ d p a).take q++[p.getD (nx d q a) 0]:=by
 rw[zZ (d:=0) (by rw[xS];exact hq),oH hq]
theorem qOB {d:DfaV}{p:List Nat}{n a:Nat}(h:∀c∈p,c<n)(hn:0<n):∀c∈rJ d p a,c<n:=by
 intro c hc;obtain⟨q,hq,rfl⟩:=List.mem_map.1 hc;exact sM h hn
def finN (d:DfaV):List Nat:=d.final.map fun b=>if b then 1 else 0
theorem qKJ (d:DfaV):nats (finN d)=ints (d.final.map finB):=by
 rw[sH];congr 1;simp only[finN,List.map_map];congr 1;funext b;cases b<;>rfl
theorem eH (d:DfaV):(finN d).length=d.final.length:=by simp[finN]
theorem qNP {d:DfaV}{q:Nat}(hq:q<d.final.length):(finN d).getD q 0=if d.final.getD q false then 1 else 0:=by
 rw[finN,xW (x:=false) hq]
theorem qNQ (d:DfaV):∀x∈d.final.map finB,Mid x:=by
 intro x hx;obtain⟨b,_,rfl⟩:=List.mem_map.1 hx;cases b<;>constructor<;>simp[finB]
theorem qDT {l:List Nat}{k:Nat}(h:k<l.length)(h0:l.getD k 0=0):wT l (k+1)=wT l k:=by
 unfold wT;rw[zZ (d:=0) h,h0,show l.length-k=(l.length-(k+1))+1 by omega,List.replicate_succ,List.append_assoc];rfl
def qLE (w:World)(l:List Nat)(e:Ending)(w':World):Prop :=
 ∃g,e=.returned (.slice (some ⟨g,0,none⟩) l.length l.length)/\w.heap.size<=g/\vM w' g 0 (nats l)/\w.grownBy w' none
theorem qMB {d:DfaV}{p:List Nat}(hp:Norm p)(m:Nat):∀c∈tF d p m,c<p.length:=by
 have:=pP (lL (d:=d) hp m)
 rwa [xK]at this
theorem qDX (B:Nat)(w:World)(v:Value)(d:DfaV)(n k:Nat)(hB:B<=w.heap.size)(h:tO B w v d)(hd:VD d n k):Calls Try.prog 59 #[v] w (qLE w (yI d k)):=by
 obtain⟨fb,fo,fc,b,off,cap,RB,RO,RC,rfl,a0⟩:=h.at hd;have hn:=hd.hn;have k0:=hd.n1;have d8:=hd.nbig;have k4:=hd.k6;have k5:=hd.k1;have k8:=a0.fcap.1;have a5:=a0.fcap.2;have k9:=a0.cap.1;have a7:=a0.cap.2;have g4:fc<=9223372036854775807:=by unfold maxLen at a5;omega
 have g2:cap<=9223372036854775807:=by unfold maxLen at a7;omega
 obtain⟨wA,a8⟩:=Nm (w.alloc (.cells #[.int .i64 (k:Int),.int .i64 (st0 d:Int),.slice (some ⟨fb,fo,none⟩) n fc,.slice (some ⟨b,off,none⟩) n cap] 37));have h9:wA.heap[w.heap.size]?=some (.cells #[.int .i64 (k:Int),.int .i64 (st0 d:Int),.slice (some ⟨fb,fo,none⟩) n fc,.slice (some ⟨b,off,none⟩) n cap] 37 (0,0)):=by rw[a8];exact heap_alloc_new w _
 have b9:w.grownBy wA none:=by rw[a8];exact Ga w _ none
 have f8:wA.heap.size=w.heap.size+1:=by rw[a8,zU]
 obtain⟨c0,c1,c2,c3⟩:=zL h9;obtain⟨P,hP⟩:=Nm w.heap.size;have f2:=Kh hP;rw[<-hP]at h9 c0 c1 c2 c3 f8 hB;obtain⟨c9,j1,i5⟩:=K3 h9 b9 a8;have f7:=Kh (a0.kept b9 (by simp));have HN:=Kh hn;have HD:=Kh hd;unfold dAgg;clear h9 b9 a8 a0 hn hd h a5 a7;go_enter Try.func59,Try.ntmps59;go_upto_region 1 with fail;rw[<-i5.out,<-f2.out];clear hP;go_wp2_with (first|(at_make;refine qC rfl _ _ _ rfl yJ rfl .i64 .i64 _ _ n rfl rfl rfl rfl ?b1 ?b2 ?_)|fail)
 case b1=>omega
 case b2=>unfold maxLen;omega
 intro w2 h0 e4 g8;have d4:=Kh h0;have f5:=Kh e4;clear h0 e4;obtain⟨g,hg⟩:=Nm (P+1);have l2:=Kh hg;rw[<-hg]at d4⊢;have e2:P<g:=by omega
 clear hg;go_wp2
 go_loopg [4,15] n (fun gh a6 i wr=>∃q:Nat,gh+q=n/\i=.int .i64 q/\Arr wr g 3 (nats (wT (finN d) q))/\wA.grownBy wr none)
 case atStart=>exact⟨0,rfl,rfl,by rw[uU,eH,HN.out,yM];exact d4.out,f5.out⟩
 clear d4 f5;obtain⟨q,hg,rfl,h0,h3⟩:=hrel;obtain⟨HG,HA,H1⟩:=K3 hg h0 h3;have e6:(finN d).length=n:=by rw[eH,HN.out]
 have j6:=h3.size;obtain⟨d0,d1,d2,d3⟩:=zL (zB c9.out h3);clear hg c0 c1 c2 c3;by_cases hq:q<n
 ·have g0:(q:Int)<n:=by omega
  have cf:=(f7.out.kept h3 (by simp)).fin hq;have cgk:=h0.nat q (by rw[yV (by omega)];omega);have fgk:=h0.frozen q;have e5:=qNP (d:=d) (q:=q) (by rw[HN.out];exact hq);have b8:=Kh e5;clear e5 h0 h3;cases hb:d.final.getD q false with
  | false =>
   rw[hb]at cf b8;go_wp2;go_roundg (n-(q+1))
   case measure=>have:=HG.out;omega
   exact⟨q+1,by omega,by go_num,by rw[qDT (by omega) b8.out];exact HA.out,H1.out⟩
  | true =>
   rw[hb]at cf b8;have HS:Hid ((wT (finN d) q).set q 1=wT (finN d) (q+1)):=Kh (by have:=tJ (l:=finN d) (k:=q) (by omega);rw[b8.out]at this;exact this);go_wp2;go_roundg (n-(q+1))
   case measure=>have:=HG.out;omega
   refine⟨q+1,by omega,by go_num,?_,zC H1.out (zF wr ⟨g,q,none⟩ _) (fun q e=>by have h7:g=q:=Oj e;omega)⟩;rw[<-HS.out];exact HA.out.nat_set q (by rw[yV (by omega)];omega) 1
 have H5:q=n:=by have:=HG.out;omega
 have HE:Hid (wT (finN d) q=finN d):=Kh (by rw[H5,<-e6];exact tK _);rw[HE.out]at HA;have j9:Hid (q=n):=Kh H5
 have a9:=Kh (dW (g+1) wr (.slice (some ⟨g,0,none⟩) n n) (d.final.map finB) HA.out.lt (by
  rw[<-qKJ]
  exact jB HA.out.row e6 (by omega)) (qNQ d) (by rw[List.length_map,HN.out];omega))
 clear H5 h0 h3 d0 d1 d2 d3;go_wp2_with fail;refine a9.out.mono ?_;rintro e w3 ⟨g3,rfl,i4,c6,a3⟩;have d6:numb (d.final.map finB)=oZ d:=rfl;rw[d6]at c6⊢;have H2:(oZ d).length=n:=by rw[pI,HN.out]
 rw[H2];have f0:=Kh c6.row;have f4:=Kh (zH H1.out a3);have a4:P<g3:=(by omega);clear c6 a3 a9 d6 H2 i4;go_wp2
 go_loopg [3] n (fun gh v3 wr=>∃(m g:Nat),gh+m=n/\m<cls (xI d k m)/\v3=.slice (some ⟨g,0,none⟩) n n/\P<g/\vM wr g 0 (nats (xI d k m))/\wA.grownBy wr none)
 case atStart=>exact⟨0,g3,rfl,kQ (by rw[xH,HN.out];omega),rfl,a4,f0.out,f4.out⟩
 clear f0 f4 a4 HA H1 HG;obtain⟨m,g,hg,d9,rfl,e2,b5,h3⟩:=hrel;have HG:=Kh hg;have i9:=Kh d9;have H2:=xH d k m;rw[HN.out]at H2;have b6:=tL d k m;obtain⟨p,hp⟩:=Nm (xI d k m);have HP:=Kh hp;rw[<-hp]at H2 b6 b5;have H6:=pP b6;rw[H2]at H6;obtain⟨wo,rfl⟩:=Nm (wr:World);obtain⟨b7,H1,f1,h5,c7⟩:=K5 b5 h3 b6 H2 H6;have i3:=b5.1;clear hg d9 hp b5 h3 b6 H2 H6;go_wp2
 go_loopg [5,6] k (fun gh v5 i wr=>∃(a g5:Nat),gh+a=k/\i=.int .i64 a/\v5=.slice (some ⟨g5,0,none⟩) n n/\P<g5/\vM wr g5 0 (nats (tF d p a))/\wo.grownBy wr none)
 case atStart=>exact⟨0,g,rfl,rfl,rfl,e2,b7.out,zT _ _⟩
 obtain⟨a,g5,hg,rfl,rfl,c4,H4,h8⟩:=hrel;have b3:=Kh hg;obtain⟨wq,rfl⟩:=Nm (wr:World);have H0:=Kh H4;have h4:=Kh h8;have e1:=H4.1;have j8:=h8.size;obtain⟨d0,d1,d2,d3⟩:=zL (zB c9.out (zH H1.out h8));clear hg H4 h8;by_cases ha:a<k
 ·have l0:(a:Int)<k:=by omega
  go_wp2
  go_loopg [7,38] n (fun gh ov i wr=>∃(q:Nat) (sa:Option Addr) (sc:Nat),gh+q=n/\i=.int .i64 q/\ov=.slice sa q sc/\wr.ownsRow wq.heap.size 3 1 (.slice sa q sc) q (nats ((rJ d p a).take q))/\wq.grownBy wr none)
  case atStart=>exact⟨0,none,0,rfl,rfl,rfl,by simpa [nats] using World.ownsRow_nil _ _ _ _,zT _ _⟩
  obtain⟨q,sa,sc,hg,rfl,rfl,a1,h3⟩:=hrel;obtain⟨f3,h6,H9⟩:=K3 hg a1 h3;clear hg a1 d0 d1 d2 d3;by_cases hq:q<n
  ·have g0:(q:Int)<n:=by omega
   have H7:=zH (zH H1.out h4.out) h3;obtain⟨d0,d1,d2,d3⟩:=zL (zB c9.out H7);have hA:=f7.out.kept H7 (by simp);have ch:=hA.hd q hq;have ce:=hA.el q a hq ha;have d5:=hA.rcap q hq;have d7:=qV HD.out hq ha;have cp:=(b7.out.kept (zH h4.out h3) (by simp)).nat (nx d q a) (by rw[h5.out];exact d7);rw[Nat.zero_add]at cp;have c8:Hid ((rJ d p a).take (q+1)=(rJ d p a).take q++[p.getD (nx d q a) 0]):=Kh (qHA (by rw[h5.out];exact hq));obtain⟨s,hs⟩:=Nm (nx d q a);rw[<-hs]at ce d7 cp c8;obtain⟨c,hc⟩:=Nm (p.getD s 0);rw[<-hc]at cp c8;have i2:=h3.size;have f9:=d5.1;have g1:(s:Int)<n:=(by omega);clear H7 hA hs hc h3 d5;go_wp2_with (first|(at_builtin;refine app1 rfl _ _ _ rfl yJ wq.heap.size _ q (nats ((rJ d p a).take q)) rfl h6.out _ rfl rfl ?c1 ?c2 ?c3 ?_)|fail)
   case c1=>unfold maxLen;omega
   case c2=>omega
   case c3=>exact i2
   intro sa' sc' w6 H3 e3 g6;have i8:=Kh H3;have j3:=Kh e3;clear H3 e3;go_wp2;go_roundg (n-(q+1))
   case measure=>have:=f3.out;omega
   refine⟨q+1,sa',sc',by omega,by go_num,rfl,?_,zC H9.out j3.out (fun q e=>(h6.out.lt q e).1)⟩;rw[c8.out,qB];exact i8.out
  have H5:q=n:=by have:=f3.out;omega
  have e7:(rJ d p a).length=n:=by rw[xS,h5.out]
  have i6:Hid ((rJ d p a).take q=rJ d p a):=Kh (by rw[H5,<-e7];exact List.take_length);have l1:=Kh H5;rw[i6.out]at h6;obtain⟨kb,rfl,i1,i0,h0⟩:=xD h6.out (by omega);have k3:=(h6.out.lt kb rfl).1;have b4:=xK d p a
  have f6:=Kh (qOJ (g5+1) wr.heap.size wr (.slice (some ⟨g5,0,none⟩) n n) (.slice (some ⟨kb,0,none⟩) q sc) (tF d p a) (rJ d p a) (by have:=h3.size;omega) (Nat.le_refl _)
   (jB (H0.out.kept h3 (by simp)) (by rw[b4,h5.out]) (by omega)) (Row.of_owns h6.out) (by rw[e7,b4,h5.out]) (by rw[b4,h5.out];omega)
   (fun c hc=>by have:=qMB f1.out a c hc;rw[h5.out]at this;omega) (fun c hc=>by have:=qOB c7.out (by omega) c hc;omega) (by rw[b4,h5.out];omega))
  clear H5 h0;go_wp2_with fail;refine f6.out.mono ?_;rintro e w7 ⟨g7,rfl,k7,c5,a2⟩;have e8:gQ (tF d p a) (rJ d p a)=tF d p (a+1):=rfl;rw[e8]at c5⊢;have e0:(tF d p (a+1)).length=n:=by rw[xK,h5.out]
  rw[e0];have i7:=Kh c5.row;have j2:=Kh (zH (zH h4.out H9.out) a2);have j7:=H9.out.size;clear c5 a2 f6 e8 e0;go_wp2;go_roundg (k-(a+1))
  case measure=>have:=b3.out;omega
  exact⟨a+1,g7,by omega,by go_num,rfl,by omega,i7.out,j2.out⟩
 have e9:a=k:=by have:=b3.out;omega
 have j5:Hid (tF d p a=tF d p k):=Kh (by rw[e9]);rw[j5.out]at H0;have g9:(tF d p k).length=n:=by rw[xK,h5.out]
 have H8:=lK (g5+1) (g+1) wq (.slice (some ⟨g5,0,none⟩) n n) (.slice (some ⟨g,0,none⟩) n n) ((tF d p k).map fun(x:Nat)=>(x:Int)) (p.map fun(x:Nat)=>(x:Int))
  (by rw[<-sH];exact jB H0.out g9 (by omega)) (by rw[<-sH];exact jB (b7.out.kept h4.out (by simp)) h5.out (by omega))
 rw[qFH]at H8;have H8:=Kh H8;clear e9;by_cases he:tF d p k=p
 ·rw[decide_eq_true he]at H8
  have j4:Hid (yI d k=p):=Kh (by
   have h1:=HG.out;rw[HP.out];rw[HP.out]at he
   exact pQ (by rw[HN.out];omega) he)
  clear he;go_wp2_with fail;refine H8.out.mono ?_;rintro e w8 ⟨rfl,m8,rfl⟩;go_wp2;go_ret;rw[qLE,j4.out];refine⟨g,by rw[h5.out];rfl,by have:=f2.out;omega,(b7.out.kept h4.out (by simp)).kept (zS _ _ none) (by simp),?_⟩;exact zH (zH j1.out (zH H1.out h4.out)) (zS _ _ _)
 rw[decide_eq_false he]at H8
 have b0:Hid (m+1<cls (xI d k (m+1))):=Kh (by
  have h1:=oV HD.out h5.out f1.out he;have h2:=i9.out;rw[<-HP.out]at h2;show m+1<cls (tF d (xI d k m) k);rw[<-HP.out]
  omega)
 have j0:Hid (xI d k (m+1)=tF d p k):=Kh (by rw[HP.out];rfl)
 have k2:m+1<n:=by
  have h1:=b0.out;have h2:=cls_le (xI d k (m+1));rw[xH,HN.out]at h2;omega
 clear he;go_wp2_with fail;refine H8.out.mono ?_;rintro e w8 ⟨rfl,m8,rfl⟩;go_wp2;go_roundg (n-(m+1))
 case measure=>have:=HG.out;omega
 exact⟨m+1,g5,by omega,b0.out,rfl,c4,by rw[j0.out];exact H0.out.kept (zS _ _ none) (by simp),zH (zH H1.out h4.out) (zS _ _ _)⟩
end Go.Proofs.Ytobakifdllameaa
