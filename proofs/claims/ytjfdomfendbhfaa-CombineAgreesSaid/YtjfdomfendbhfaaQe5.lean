/- Part 5 of the proof: MinPlain. -/
import Derived.Test.YtjfdomfendbhfaaQe4
set_option linter.unusedVariables false
set_option linter.unusedSimpArgs false
namespace Go.Proofs.Ytjfdomfendbhfaa
theorem cls_le (p:List Nat):cls p<=p.length:=vJ p
theorem mH (d:DfaV):Norm (qP d):=qR _
def yG (d:DfaV) (k:Nat):Nat->List Nat
 | 0=>qP d
 | m+1=>sD d (yG d k m) k
theorem yK (d:DfaV) (k:Nat):∀ m,(yG d k m).length=d.final.length
 | 0=>qO d
 | m+1=>by rw[yG,yX,yK d k m]
theorem vO (d:DfaV) (k:Nat):∀ m,Norm (yG d k m)
 | 0=>mH d
 | m+1=>mF (vO d k m) k
theorem eC (d:DfaV) (k m:Nat):∀ c∈yG d k m,c < d.final.length:=by
 have:=oO (vO d k m)
 rwa [yK]at this
theorem mS {p:List Nat} (h:0 < p.length):0 < cls p:=by
 have hm:p[0]∈zV p:=xL.2 (List.getElem_mem h)
 exact List.length_pos_of_mem hm
theorem oK {d:DfaV} {n k:Nat} (hd:VD d n k) {p:List Nat} (hp:p.length=n) (hn:Norm p) (hne:sD d p k≠p):cls p < cls (sD d p k):=by
 have h0:∀ c∈p,c < n:=by have:=oO hn;rwa [hp]at this
 obtain⟨h1,h2⟩:=eB (p:=p) (q:=sD d p k) (yX d p k) (fun i j hi hj h=>((vS hd hp h0 (by omega) (by omega) k (Nat.le_refl _)).1 h).1)
 refine Nat.lt_of_le_of_ne h1 fun e=>hne ?_
 refine nN (mF hn k) hn ⟨yX d p k,fun i j hi hj=>?_⟩
 rw[yX]at hi hj
 exact⟨fun h=>((vS hd hp h0 (by omega) (by omega) k (Nat.le_refl _)).1 h).1,fun h=>h2 e i j hi hj h⟩
def zR (d:DfaV) (k:Nat):List Nat:=yG d k d.final.length
theorem cP {d:DfaV} {k m:Nat} (h:sD d (yG d k m) k=yG d k m):∀ j,m<=j->yG d k j=yG d k m
 | 0,hj=>by rw[show m=0 by omega]
 | j+1,hj=>by
  by_cases e:m=j+1
  ·rw[e]
  ·rw[yG,cP h j (by omega),h]
theorem oB {d:DfaV} {k m:Nat} (hm:m<=d.final.length) (h:sD d (yG d k m) k=yG d k m):zR d k=yG d k m:=cP h _ hm
theorem qAA {d:DfaV} {n k:Nat} (hd:VD d n k):∀ m,(∃ j,j<=m/\sD d (yG d k j) k=yG d k j)\/m < cls (yG d k m)
 | 0=>.inr (mS (by rw[yK,hd.hn];exact hd.n1))
 | m+1=>by
  rcases qAA hd m with ⟨j,hj,h⟩|h
  ·exact .inl ⟨j,by omega,h⟩
  ·by_cases e:sD d (yG d k m) k=yG d k m
   ·exact .inl ⟨m,by omega,e⟩
   ·have:=oK hd (by rw[yK,hd.hn]) (vO d k m) e
    exact .inr (by rw[yG];omega)
theorem pB {d:DfaV} {n k:Nat} (hd:VD d n k):sD d (zR d k) k=zR d k:=by
 rcases qAA hd d.final.length with ⟨j,hj,h⟩|h
 ·rw[oB hj h,h]
 ·have:=cls_le (yG d k d.final.length)
  rw[yK]at this
  omega
theorem xP (d:DfaV) (k:Nat):(zR d k).length=d.final.length:=yK _ _ _
theorem wH (d:DfaV) (k:Nat):Norm (zR d k):=vO _ _ _
theorem firsts_norm {p:List Nat} (h:Norm p):zV p=List.range (cls p):=by
 refine List.ext_getElem (by simp[cls]) fun i h1 h2=>?_
 rw[List.getElem_range]
 have hm:=List.getElem_mem h1
 obtain⟨q,hq,e⟩:=List.getElem_of_mem (xL.1 hm)
 have hh:(numb p)[q]'(by rw[yA];exact hq)=p[q]:=by simp only[show numb p=p from h]
 rw[rS hq,e]at hh
 have h3:=List.idxOf_lt_length_of_mem hm
 have h4:=List.getElem_idxOf h3
 have:=(List.getElem_inj (uY p)).1 h4
 omega
theorem qE {p:List Nat} (h:Norm p) (k:Nat):zV (p.take k)=List.range (cls (p.take k)):=by
 have h1:=vX p k
 rw[firsts_norm h]at h1
 obtain⟨r,hr⟩:=h1
 refine List.ext_getElem (by simp[cls]) fun i h1 h2=>?_
 rw[List.getElem_range]
 have:(zV (p.take k) ++ r)[i]'(by rw[List.length_append];omega)=i:=by simp only[hr,List.getElem_range]
 rwa [List.getElem_append_left h1]at this
theorem nM {p:List Nat} (h:Norm p) {q:Nat} (hq:q < p.length):p.getD q 0<=cls (p.take q)/\(p.getD q 0=cls (p.take q)->cls (p.take (q+1))=cls (p.take q)+1)/\(p.getD q 0≠cls (p.take q)->cls (p.take (q+1))=cls (p.take q)):=by
 have h1:=qE h (q+1)
 have e:zV (p.take (q+1))=xA (zV (p.take q)) p[q]:=by rw[List.take_succ_eq_append_getElem hq,tY]
 have h0:=qE h q
 rw[zF hq]
 by_cases hm:p[q]∈zV (p.take q)
 ·have h2:p[q] < cls (p.take q):=by rw[h0]at hm;exact List.mem_range.1 hm
  rw[uG hm]at e
  have:cls (p.take (q+1))=cls (p.take q):=by unfold cls;rw[e]
  exact⟨by omega,fun h=>by omega,fun _=>this⟩
 ·rw[wT hm]at e
  have hc:cls (p.take (q+1))=cls (p.take q)+1:=by unfold cls;rw[e];simp
  have hl:p[q]=cls (p.take q):=by
   rw[h1,h0,hc,List.range_succ]at e
   have:=List.append_cancel_left e
   simpa using this.symm
  exact⟨by omega,fun _=>hc,fun h=>absurd hl h⟩
def vN (p:List Nat) (k:Nat):List Nat:=(List.range k).filter fun q=>p.getD q 0 == cls (p.take q)
theorem xZ {p:List Nat} {k:Nat} (h:p.getD k 0=cls (p.take k)):vN p (k+1)=vN p k ++ [k]:=by
 rw[vN,List.range_succ,List.filter_append,List.filter_cons,if_pos (beq_iff_eq.2 h)];rfl
theorem xY {p:List Nat} {k:Nat} (h:p.getD k 0≠cls (p.take k)):vN p (k+1)=vN p k:=by
 rw[vN,List.range_succ,List.filter_append,List.filter_cons,if_neg (fun e=>h (beq_iff_eq.1 e)),List.filter_nil,List.append_nil];rfl
theorem wF {p:List Nat} (h:Norm p):∀ k,k<=p.length->(vN p k).length=cls (p.take k)
 | 0,_=>by simp[vN,cls,zV]
 | k+1,hk=>by
  obtain⟨h0,h1,h2⟩:=nM h (show k < p.length by omega)
  have ih:=wF h k (by omega)
  by_cases e:p.getD k 0=cls (p.take k)
  ·rw[xZ e,List.length_append,ih,h1 e];rfl
  ·rw[xY e,ih,h2 e]
theorem mE {p:List Nat} (h:Norm p):∀ k,k<=p.length->∀ c,c < cls (p.take k)->p.getD ((vN p k).getD c 0) 0=c/\(vN p k).getD c 0 < k
 | 0,_,c,hc=>by simp[cls,zV]at hc
 | k+1,hk,c,hc=>by
  obtain⟨h0,h1,h2⟩:=nM h (show k < p.length by omega)
  have hl:=wF h k (by omega)
  by_cases e:p.getD k 0=cls (p.take k)
  ·rw[h1 e]at hc
   rw[xZ e]
   by_cases hc':c < cls (p.take k)
   ·have ih:=mE h k (by omega) c hc'
    rw[show (vN p k ++ [k]).getD c 0=(vN p k).getD c 0 from by simp[List.getD,List.getElem?_append_left (show c < (vN p k).length by omega)]]
    exact⟨ih.1,by omega⟩
   ·have hc2:c=(vN p k).length:=by omega
    rw[show (vN p k ++ [k]).getD c 0=k from by simp[List.getD,hc2]]
    exact⟨by omega,by omega⟩
  ·rw[h2 e]at hc
   rw[xY e]
   have ih:=mE h k (by omega) c hc
   exact⟨ih.1,by omega⟩
def reps (p:List Nat):List Nat:=vN p p.length
def vG (p:List Nat) (r:List Int):List Int:=r.map fun s=>((p.getD s.toNat 0:Nat):Int)
def wC (d:DfaV) (p:List Nat):DfaV :=
 ⟨d.letters,((p.getD (st0 d) 0:Nat):Int),(reps p).map fun q=>d.final.getD q false,(reps p).map fun q=>vG p (d.next.getD q [])⟩
theorem uX {α β:Type} {l:List α} {f:α->β} {i:Nat} {x:α} {y:β} (h:i < l.length):(l.map f).getD i y=f (l.getD i x):=by
 rw[zF (by simpa using h),zF h];simp
theorem mI {p:List Nat} {r:List Int} {a:Nat} (h:a < r.length):(vG p r).getD a 0=((p.getD (r.getD a 0).toNat 0:Nat):Int):=by
 rw[vG,uX (x:=0) h]
theorem tU {p:List Nat} (h:Norm p):(reps p).length=cls p:=by
 have:=wF h p.length (Nat.le_refl _)
 rwa [List.take_length]at this
theorem sH {p:List Nat} (h:Norm p) {c:Nat} (hc:c < cls p):p.getD ((reps p).getD c 0) 0=c/\(reps p).getD c 0 < p.length :=
 mE h p.length (Nat.le_refl _) c (by rwa [List.take_length])
theorem vL {p:List Nat} (h:Norm p) {i:Nat} (hi:i < p.length):p.getD i 0 < cls p:=by
 have:=qAY (l:=p)
 rw[h]at this
 rw[zF hi]
 exact this _ (List.getElem_mem hi)
section
variable {d:DfaV} {n k:Nat} {p:List Nat}
theorem fB (hd:VD d n k) (hp:p.length=n) (hn:Norm p) {c a:Nat} (hc:c < cls p) (ha:a < k):ent (wC d p).next c a=((p.getD (nx d ((reps p).getD c 0) a) 0:Nat):Int):=by
 have hr:=sH hn hc
 unfold ent wC
 rw[uX (x:=0) (by rw[tU hn];exact hc),mI (by rw[hd.row _ (by omega)];exact ha)]
 rfl
theorem bC (hd:VD d n k) (hp:p.length=n) (hn:Norm p):VD (wC d p) (cls p) k where
 hk:=hd.hk
 k1:=hd.k1
 k6:=hd.k6
 hn:=by simp[wC,tU hn]
 n1:=mS (by rw[hp];exact hd.n1)
 nbig:=Nat.le_trans (cls_le p) (by rw[hp];exact hd.nbig)
 nl:=by simp[wC,tU hn]
 s0:=by simp[wC]
 sn:=by
  have:=vL hn (i:=st0 d) (by rw[hp];exact rB hd)
  simp only[wC]
  omega
 row:=fun c hc=>by
  simp only[wC]
  rw[uX (x:=0) (by rw[tU hn];exact hc)]
  have hr:=sH hn hc
  rw[vG,List.length_map,hd.row _ (by omega)]
 lo:=fun c a hc ha=>by rw[fB hd hp hn hc ha];omega
 hi:=fun c a hc ha=>by
  rw[fB hd hp hn hc ha]
  have hr:=sH hn hc
  have:=vL hn (i:=nx d ((reps p).getD c 0) a) (by rw[hp];exact qF hd (by omega) ha)
  omega
theorem quot_nx (hd:VD d n k) (hp:p.length=n) (hn:Norm p) (hst:sD d p k=p) {q a:Nat} (hq:q < n) (ha:a < k):nx (wC d p) (p.getD q 0) a=p.getD (nx d q a) 0:=by
 have h0:∀ c∈p,c < n:=by have:=oO hn;rwa [hp]at this
 have hc:=vL hn (i:=q) (by omega)
 have hr:=sH hn hc
 have h1:=vS hd hp h0 (i:=(reps p).getD (p.getD q 0) 0) (j:=q) (by omega) hq k (Nat.le_refl _)
 rw[hst]at h1
 have h2:=(h1.1 hr.1).2 a ha
 show (ent (wC d p).next (p.getD q 0) a).toNat=_
 rw[fB hd hp hn hc ha,h2]
 simp
end
def run (d:DfaV) (q:Nat) (w:List Nat):Nat:=w.foldl (nx d) q
def zX (k:Nat) (w:List Nat):Prop:=∀ a∈w,a < k
theorem iM {d:DfaV} {n k:Nat} (hd:VD d n k):∀ (w:List Nat) {q:Nat},q < n->zX k w->run d q w < n
 | [],q,hq,_=>hq
 | a :: w,q,hq,hw=>iM hd w (qF hd hq (hw a (by simp))) (fun b hb=>hw b (by simp[hb]))
theorem gW (d:DfaV) (q:Nat) (w:List Nat) (a:Nat):run d q (w ++ [a])=nx d (run d q w) a:=by simp[run]
theorem run_append (d:DfaV) (q:Nat) (u v:List Nat):run d q (u ++ v)=run d (run d q u) v:=by simp[run]
theorem fA {d:DfaV} {n k:Nat} {p:List Nat} (hd:VD d n k) (hp:p.length=n) (hn:Norm p) (hst:sD d p k=p):∀ (w:List Nat) {q:Nat},q < n->zX k w->run (wC d p) (p.getD q 0) w=p.getD (run d q w) 0
 | [],q,_,_=>rfl
 | a :: w,q,hq,hw=>by
  have ha:=hw a (by simp)
  show run (wC d p) (nx (wC d p) (p.getD q 0) a) w=p.getD (run d (nx d q a) w) 0
  rw[quot_nx hd hp hn hst hq ha]
  exact fA hd hp hn hst w (qF hd hq ha) (fun b hb=>hw b (by simp[hb]))
def wY (d:DfaV) (l:List Nat) (i:Nat):Nat->List Nat
 | 0=>l
 | a+1=>xA (wY d l i a) (nx d (l.getD i 0) a)
def sZ (d:DfaV) (k:Nat):Nat->Nat->List Nat->List Nat
 | 0,_,l=>l
 | f+1,i,l=>if i < l.length then sZ d k f (i+1) (wY d l i k) else l
def zT (d:DfaV) (k:Nat):List Nat:=sZ d k d.final.length 0 [st0 d]
theorem uA (d:DfaV) (l:List Nat) (i:Nat):∀ a,l <+: wY d l i a
 | 0=>List.prefix_refl _
 | a+1=>(uA d l i a).trans (qC _ _)
theorem lQ {d:DfaV} {l:List Nat} (h:l.Nodup) (i:Nat):∀ a,(wY d l i a).Nodup
 | 0=>h
 | a+1=>lO (lQ h i a)
theorem uD {d:DfaV} {l:List Nat} {i:Nat} {y:Nat}:∀ {a},y∈wY d l i a ↔ y∈l\/∃ b,b < a/\y=nx d (l.getD i 0) b
 | 0=>by simp[wY]
 | a+1=>by
  rw[wY,pP,uD,or_assoc]
  refine or_congr_right ⟨?_,?_⟩
  ·rintro (⟨b,hb,h⟩|h)
   ·exact⟨b,by omega,h⟩
   ·exact⟨a,by omega,h⟩
  ·rintro ⟨b,hb,h⟩
   rcases Nat.lt_succ_iff_lt_or_eq.1 hb with hb|rfl
   ·exact .inl ⟨b,hb,h⟩
   ·exact .inr h
structure AccI (d:DfaV) (n k i:Nat) (l:List Nat):Prop where
 nd:l.Nodup
 lt:∀ q∈l,q < n
 hd:0 < l.length/\l.getD 0 0=st0 d
 cl:∀ j a,j < i->j < l.length->a < k->nx d (l.getD j 0) a∈l
 re:∀ q∈l,∃ w,zX k w/\run d (st0 d) w=q
theorem rZ {l m:List Nat} (h:l <+: m) {i:Nat} (hi:i < l.length):m.getD i 0=l.getD i 0:=by
 obtain⟨r,rfl⟩:=h
 simp[List.getD,List.getElem?_append_left hi]
theorem AccI.row {d:DfaV} {n k i:Nat} {l:List Nat} (hd:VD d n k) (h:AccI d n k i l) (hi:i < l.length):AccI d n k (i+1) (wY d l i k):=by
 have hp:=uA d l i k
 have h2:=hp.length_le
 have h0:l.getD i 0∈l:=by rw[zF hi];exact List.getElem_mem _
 have h1:=h.lt _ h0
 refine⟨lQ h.nd i k,fun q hq=>?_,⟨by have:=h.hd.1;omega,by rw[rZ hp h.hd.1];exact h.hd.2⟩,fun j a hj hjl ha=>?_,fun q hq=>?_⟩
 ·rcases uD.1 hq with hq|⟨b,hb,rfl⟩
  ·exact h.lt q hq
  ·exact qF hd h1 hb
 ·rw[rZ hp (show j < l.length by omega)]
  rcases Nat.lt_succ_iff_lt_or_eq.1 hj with hj|rfl
  ·exact uD.2 (.inl (h.cl j a hj (by omega) ha))
  ·exact uD.2 (.inr ⟨a,ha,rfl⟩)
 ·rcases uD.1 hq with hq|⟨b,hb,rfl⟩
  ·exact h.re q hq
  ·obtain⟨w,hw,e⟩:=h.re _ h0
   refine⟨w ++ [b],fun c hc=>?_,by rw[gW,e]⟩
   rcases List.mem_append.1 hc with hc|hc
   ·exact hw c hc
   ·rw[List.mem_singleton]at hc;subst hc;exact hb
theorem lX {l:List Nat} {n:Nat} (h:l.Nodup) (hl:∀ q∈l,q < n):l.length<=n:=by
 have:=h.length_le_of_subset (fun q hq=>List.mem_range.2 (hl q hq))
 simpa using this
theorem AccI.start {d : DfaV} {n k : Nat} (hd : VD d n k) : AccI d n k 0 [st0 d] :=
 ⟨by simp, fun q hq => by rw [List.mem_singleton] at hq; subst hq; exact rB hd, ⟨by simp, by simp⟩, fun j a hj => by omega, fun q hq => by
  rw [List.mem_singleton] at hq; subst hq; exact ⟨[], fun a ha => by simp at ha, rfl⟩⟩
theorem qAE {d:DfaV} {n k:Nat} (hd:VD d n k):∀ f i l,AccI d n k i l->n<=i+f->AccI d n k n (sZ d k f i l)/\(sZ d k f i l).length<=n
 | 0,i,l,h,hf=>by
  have hl:=lX h.nd h.lt
  exact⟨⟨h.nd,h.lt,h.hd,fun j a hj hjl ha=>h.cl j a (by omega) hjl ha,h.re⟩,hl⟩
 | f+1,i,l,h,hf=>by
  rw[sZ]
  split
  ·rename_i hi
   exact qAE hd f (i+1) _ (h.row hd hi) (by omega)
  ·rename_i hi
   have hl:=lX h.nd h.lt
   exact⟨⟨h.nd,h.lt,h.hd,fun j a hj hjl ha=>h.cl j a (by omega) hjl ha,h.re⟩,hl⟩
theorem yV {d:DfaV} {n k:Nat} (hd:VD d n k):AccI d n k n (zT d k)/\(zT d k).length<=n:=qAE hd _ _ _ (AccI.start hd) (by rw[hd.hn];omega)
theorem cW {d:DfaV} {k f i:Nat} {l:List Nat} (h:¬ i < l.length):sZ d k f i l=l:=by
 cases f with
 | zero=>rfl
 | succ f=>rw[sZ,if_neg h]
def rP (l:List Nat) (q:Nat):Int:=if q∈l then (l.idxOf q:Int) else -1
def tS (l:List Nat) (r:List Int):List Int:=r.map fun s=>rP l s.toNat
def xK (d:DfaV) (k:Nat):DfaV:=⟨d.letters,0,(zT d k).map fun q=>d.final.getD q false,(zT d k).map fun q=>tS (zT d k) (d.next.getD q [])⟩
section
variable {d:DfaV} {n k:Nat}
theorem nH (hd:VD d n k) {i a:Nat} (hi:i < (zT d k).length) (ha:a < k):ent (xK d k).next i a=(((zT d k).idxOf (nx d ((zT d k).getD i 0) a):Nat):Int):=by
 have hA:=(yV hd).1
 have hq:=hA.lt _ (show (zT d k).getD i 0∈zT d k by rw[zF hi];exact List.getElem_mem _)
 have hn:=(yV hd).2
 unfold ent xK
 rw[uX (x:=0) hi,tS,uX (x:=0) (by rw[hd.row _ hq];exact ha),rP,if_pos]
 ·rfl
 ·exact hA.cl i a (by omega) hi ha
theorem oG (hd:VD d n k):VD (xK d k) (zT d k).length k where
 hk:=hd.hk
 k1:=hd.k1
 k6:=hd.k6
 hn:=by simp[xK]
 n1:=(yV hd).1.hd.1
 nbig:=Nat.le_trans (yV hd).2 hd.nbig
 nl:=by simp[xK]
 s0:=by simp[xK]
 sn:=by have:=(yV hd).1.hd.1;simp only[xK];omega
 row:=fun i hi=>by
  have hA:=(yV hd).1
  have hq:=hA.lt _ (show (zT d k).getD i 0∈zT d k by rw[zF hi];exact List.getElem_mem _)
  simp only[xK]
  rw[uX (x:=0) hi,tS,List.length_map,hd.row _ hq]
 lo:=fun i a hi ha=>by rw[nH hd hi ha];omega
 hi:=fun i a hi ha=>by
  have hn:=(yV hd).2
  rw[nH hd hi ha]
  have:=List.idxOf_lt_length_of_mem ((yV hd).1.cl i a (by omega) hi ha)
  omega
theorem qAK (hd:VD d n k) {i a:Nat} (hi:i < (zT d k).length) (ha:a < k):nx (xK d k) i a=(zT d k).idxOf (nx d ((zT d k).getD i 0) a):=by
 show (ent (xK d k).next i a).toNat=_
 rw[nH hd hi ha];simp
theorem bP (hd:VD d n k):∀ (w:List Nat) {i:Nat},i < (zT d k).length->zX k w->(zT d k).getD (run (xK d k) i w) 0=run d ((zT d k).getD i 0) w
 | [],i,_,_=>rfl
 | a :: w,i,hi,hw=>by
  have ha:=hw a (by simp)
  have hn:=(yV hd).2
  have hm:=(yV hd).1.cl i a (by omega) hi ha
  have hlt:=List.idxOf_lt_length_of_mem hm
  have h:=bP hd w (i:=nx (xK d k) i a) (by rw[qAK hd hi ha];exact hlt) (fun b hb=>hw b (by simp[hb]))
  show (zT d k).getD (run (xK d k) (nx (xK d k) i a) w) 0=run d (nx d ((zT d k).getD i 0) a) w
  rw[h,qAK hd hi ha,zF hlt,List.getElem_idxOf]
theorem mD (hd:VD d n k) {i:Nat} (hi:i < (zT d k).length):(xK d k).final.getD i false=d.final.getD ((zT d k).getD i 0) false:=by
 simp only[xK];rw[uX (x:=0) hi]
end
def minD (d:DfaV) (k:Nat):DfaV:=xK (wC d (zR d k)) k
def minN (d:DfaV) (k:Nat):Nat:=(zT (wC d (zR d k)) k).length
section
variable {d:DfaV} {n k:Nat}
theorem rO (hd:VD d n k):VD (wC d (zR d k)) (cls (zR d k)) k:=bC hd (by rw[xP,hd.hn]) (wH d k)
theorem pY (hd:VD d n k):VD (minD d k) (minN d k) k:=oG (rO hd)
theorem qBD (hd:VD d n k):minN d k<=n:=Nat.le_trans (yV (rO hd)).2 (Nat.le_trans (cls_le _) (by rw[xP,hd.hn];exact Nat.le_refl _))
end
end Go.Proofs.Ytjfdomfendbhfaa
