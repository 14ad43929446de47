/- Part 15 of the proof: MinPlain, Dfa. -/
import Derived.Test.YtdjhoadoiknaoaaDoorZC14
set_option linter.unusedVariables false
set_option linter.unusedSimpArgs false
namespace Go.Proofs.YtdjhoadoiknaoaaDoor
theorem iS (p:List Nat):cls p≤p.length:=rG p
theorem part0_norm (d:DfaV):Norm (part0 d):=numb_norm _
def clsIt (d:DfaV) (k:Nat):Nat→List Nat
 | 0=>part0 d
 | m+1=>refTo d (clsIt d k m) k
theorem sZ (d:DfaV) (k:Nat):∀ m,(clsIt d k m).length=d.final.length
 | 0=>part0_length d
 | m+1=>by rw [clsIt,xI,sZ d k m]
theorem lF (d:DfaV) (k:Nat):∀ m,Norm (clsIt d k m)
 | 0=>part0_norm d
 | m+1=>mU (lF d k m) k
theorem cls_pos {p:List Nat} (h:0 < p.length):0 < cls p:=by
 have hm:p[0]∈yN p:=wO.2 (List.getElem_mem h)
 exact List.length_pos_of_mem hm
theorem refine_grow {d:DfaV} {n k:Nat} (hd:VD d n k) {p:List Nat} (hp:p.length=n) (hn:Norm p) (hne:refTo d p k≠p):cls p < cls (refTo d p k):=by
 have hlt:∀ c∈p,c < n:=by have:=jH hn;rwa [hp] at this
 obtain ⟨h1,h2⟩:=cls_mono (p:=p) (q:=refTo d p k) (xI d p k) (fun i j hi hj h=>((kE hd hp hlt (by omega) (by omega) k (Nat.le_refl _)).1 h).1)
 refine Nat.lt_of_le_of_ne h1 fun e=>hne ?_
 refine norm_ext (mU hn k) hn ⟨xI d p k,fun i j hi hj=>?_⟩
 rw [xI] at hi hj
 exact ⟨fun h=>((kE hd hp hlt (by omega) (by omega) k (Nat.le_refl _)).1 h).1,fun h=>h2 e i j hi hj h⟩
def tQ (d:DfaV) (k:Nat):List Nat:=clsIt d k d.final.length
theorem clsIt_fix {d:DfaV} {k m:Nat} (h:refTo d (clsIt d k m) k=clsIt d k m):∀ j,m≤j→clsIt d k j=clsIt d k m
 | 0,hj=>by rw [show m=0 by omega]
 | j+1,hj=>by
  by_cases e:m=j+1
  ·rw [e]
  ·rw [clsIt,clsIt_fix h j (by omega),h]
theorem classes_of_fix {d:DfaV} {k m:Nat} (hm:m≤d.final.length) (h:refTo d (clsIt d k m) k=clsIt d k m):tQ d k=clsIt d k m:=clsIt_fix h _ hm
theorem qI (d:DfaV) (k:Nat):(tQ d k).length=d.final.length:=sZ _ _ _
theorem classesD_norm (d:DfaV) (k:Nat):Norm (tQ d k):=lF _ _ _
theorem firsts_norm {p:List Nat} (h:Norm p):yN p=List.range (cls p):=by
 refine List.ext_getElem (by simp [cls]) fun i h1 h2=>?_
 rw [List.getElem_range]
 have hm:=List.getElem_mem h1
 obtain ⟨q,hq,e⟩:=List.getElem_of_mem (wO.1 hm)
 have hh:(numb p)[q]'(by rw [xQ];exact hq)=p[q]:=by simp only [show numb p=p from h]
 rw [nK hq,e] at hh
 have h3:=List.idxOf_lt_length_of_mem hm
 have h4:=List.getElem_idxOf h3
 have:=(List.getElem_inj (qQ p)).1 h4
 omega
theorem firsts_norm_take {p:List Nat} (h:Norm p) (k:Nat):yN (p.take k)=List.range (cls (p.take k)):=by
 have h1:=firsts_take_prefix p k
 rw [firsts_norm h] at h1
 obtain ⟨r,hr⟩:=h1
 refine List.ext_getElem (by simp [cls]) fun i h1 h2=>?_
 rw [List.getElem_range]
 have:(yN (p.take k) ++ r)[i]'(by rw [List.length_append];omega)=i:=by simp only [hr,List.getElem_range]
 rwa [List.getElem_append_left h1] at this
theorem jG {p:List Nat} (h:Norm p) {q:Nat} (hq:q < p.length):p.getD q 0≤cls (p.take q)∧(p.getD q 0=cls (p.take q)→cls (p.take (q+1))=cls (p.take q)+1)∧(p.getD q 0≠cls (p.take q)→cls (p.take (q+1))=cls (p.take q)):=by
 have h1:=firsts_norm_take h (q+1)
 have e:yN (p.take (q+1))=uT (yN (p.take q)) p[q]:=by rw [List.take_succ_eq_append_getElem hq,qF]
 have h0:=firsts_norm_take h q
 rw [zV hq]
 by_cases hm:p[q]∈yN (p.take q)
 ·have hlt:p[q] < cls (p.take q):=by rw [h0] at hm;exact List.mem_range.1 hm
  rw [rS hm] at e
  have:cls (p.take (q+1))=cls (p.take q):=by unfold cls;rw [e]
  exact ⟨by omega,fun h=>by omega,fun _=>this⟩
 ·rw [rT hm] at e
  have hc:cls (p.take (q+1))=cls (p.take q)+1:=by unfold cls;rw [e];simp
  have hl:p[q]=cls (p.take q):=by
   rw [h1,h0,hc,List.range_succ] at e
   have:=List.append_cancel_left e
   simpa using this.symm
  exact ⟨by omega,fun _=>hc,fun h=>absurd hl h⟩
def tO (p:List Nat) (k:Nat):List Nat:=(List.range k).filter fun q=>p.getD q 0 == cls (p.take q)
theorem tM {p:List Nat} {k:Nat} (h:p.getD k 0=cls (p.take k)):tO p (k+1)=tO p k ++ [k]:=by
 rw [tO,List.range_succ,List.filter_append,List.filter_cons,if_pos (beq_iff_eq.2 h)];rfl
theorem tL {p:List Nat} {k:Nat} (h:p.getD k 0≠cls (p.take k)):tO p (k+1)=tO p k:=by
 rw [tO,List.range_succ,List.filter_append,List.filter_cons,if_neg (fun e=>h (beq_iff_eq.1 e)),List.filter_nil,List.append_nil];rfl
theorem tN {p:List Nat} (h:Norm p):∀ k,k≤p.length→(tO p k).length=cls (p.take k)
 | 0,_=>by simp [tO,cls,yN]
 | k+1,hk=>by
  obtain ⟨h0,h1,h2⟩:=jG h (show k < p.length by omega)
  have ih:=tN h k (by omega)
  by_cases e:p.getD k 0=cls (p.take k)
  ·rw [tM e,List.length_append,ih,h1 e];rfl
  ·rw [tL e,ih,h2 e]
theorem mT {p:List Nat} (h:Norm p):∀ k,k≤p.length→∀ c,c < cls (p.take k)→p.getD ((tO p k).getD c 0) 0=c∧(tO p k).getD c 0 < k
 | 0,_,c,hc=>by simp [cls,yN] at hc
 | k+1,hk,c,hc=>by
  obtain ⟨h0,h1,h2⟩:=jG h (show k < p.length by omega)
  have hl:=tN h k (by omega)
  by_cases e:p.getD k 0=cls (p.take k)
  ·rw [h1 e] at hc
   rw [tM e]
   by_cases hc':c < cls (p.take k)
   ·have ih:=mT h k (by omega) c hc'
    rw [show (tO p k ++ [k]).getD c 0=(tO p k).getD c 0 from by simp [List.getD,List.getElem?_append_left (show c < (tO p k).length by omega)]]
    exact ⟨ih.1,by omega⟩
   ·have hc2:c=(tO p k).length:=by omega
    rw [show (tO p k ++ [k]).getD c 0=k from by simp [List.getD,hc2]]
    exact ⟨by omega,by omega⟩
  ·rw [h2 e] at hc
   rw [tL e]
   have ih:=mT h k (by omega) c hc
   exact ⟨ih.1,by omega⟩
def reps (p:List Nat):List Nat:=tO p p.length
def tP (p:List Nat) (r:List Int):List Int:=r.map fun s=>((p.getD s.toNat 0:Nat):Int)
def quotD (d:DfaV) (p:List Nat):DfaV :=
 ⟨d.letters,((p.getD (st0 d) 0:Nat):Int),(reps p).map fun q=>d.final.getD q false,(reps p).map fun q=>tP p (d.next.getD q [])⟩
theorem vC {α β:Type} {l:List α} {f:α→β} {i:Nat} {x:α} {y:β} (h:i < l.length):(l.map f).getD i y=f (l.getD i x):=by
 rw [zV (by simpa using h),zV h];simp
theorem mapRow_get {p:List Nat} {r:List Int} {a:Nat} (h:a < r.length):(tP p r).getD a 0=((p.getD (r.getD a 0).toNat 0:Nat):Int):=by
 rw [tP,vC (x:=0) h]
theorem pL {p:List Nat} (h:Norm p):(reps p).length=cls p:=by
 have:=tN h p.length (Nat.le_refl _)
 rwa [List.take_length] at this
theorem jD {p:List Nat} (h:Norm p) {c:Nat} (hc:c < cls p):p.getD ((reps p).getD c 0) 0=c∧(reps p).getD c 0 < p.length :=
 mT h p.length (Nat.le_refl _) c (by rwa [List.take_length])
theorem norm_lt_cls {p:List Nat} (h:Norm p) {i:Nat} (hi:i < p.length):p.getD i 0 < cls p:=by
 have:=numb_lt (l:=p)
 rw [h] at this
 rw [zV hi]
 exact this _ (List.getElem_mem hi)
section
variable {d:DfaV} {n k:Nat} {p:List Nat}
theorem quot_ent (hd:VD d n k) (hp:p.length=n) (hn:Norm p) {c a:Nat} (hc:c < cls p) (ha:a < k):ent (quotD d p).next c a=((p.getD (nx d ((reps p).getD c 0) a) 0:Nat):Int):=by
 have hr:=jD hn hc
 unfold ent quotD
 rw [vC (x:=0) (by rw [pL hn];exact hc),mapRow_get (by rw [hd.row _ (by omega)];exact ha)]
 rfl
theorem quot_vd (hd:VD d n k) (hp:p.length=n) (hn:Norm p):VD (quotD d p) (cls p) k where
 hk:=hd.hk
 k1:=hd.k1
 k6:=hd.k6
 hn:=by simp [quotD,pL hn]
 n1:=cls_pos (by rw [hp];exact hd.n1)
 n512:=Nat.le_trans (iS p) (by rw [hp];exact hd.n512)
 nl:=by simp [quotD,pL hn]
 s0:=by simp [quotD]
 sn:=by
  have:=norm_lt_cls hn (i:=st0 d) (by rw [hp];exact iQ hd)
  simp only [quotD]
  omega
 row:=fun c hc=>by
  simp only [quotD]
  rw [vC (x:=0) (by rw [pL hn];exact hc)]
  have hr:=jD hn hc
  rw [tP,List.length_map,hd.row _ (by omega)]
 lo:=fun c a hc ha=>by rw [quot_ent hd hp hn hc ha];omega
 hi:=fun c a hc ha=>by
  rw [quot_ent hd hp hn hc ha]
  have hr:=jD hn hc
  have:=norm_lt_cls hn (i:=nx d ((reps p).getD c 0) a) (by rw [hp];exact nx_lt hd (by omega) ha)
  omega
end
def run (d:DfaV) (q:Nat) (w:List Nat):Nat:=w.foldl (nx d) q
def wordOk (k:Nat) (w:List Nat):Prop:=∀ a∈w,a < k
theorem run_snoc (d:DfaV) (q:Nat) (w:List Nat) (a:Nat):run d q (w ++ [a])=nx d (run d q w) a:=by simp [run]
def qJ (d:DfaV) (l:List Nat) (i:Nat):Nat→List Nat
 | 0=>l
 | a+1=>uT (qJ d l i a) (nx d (l.getD i 0) a)
def accGo (d:DfaV) (k:Nat):Nat→Nat→List Nat→List Nat
 | 0,_,l=>l
 | f+1,i,l=>if i < l.length then accGo d k f (i+1) (qJ d l i k) else l
def wW (d:DfaV) (k:Nat):List Nat:=accGo d k d.final.length 0 [st0 d]
theorem pR (d:DfaV) (l:List Nat) (i:Nat):∀ a,l <+: qJ d l i a
 | 0=>List.prefix_refl _
 | a+1=>(pR d l i a).trans (addNew_prefix _ _)
theorem oQ {d:DfaV} {l:List Nat} (h:l.Nodup) (i:Nat):∀ a,(qJ d l i a).Nodup
 | 0=>h
 | a+1=>addNew_nodup (oQ h i a)
theorem rP {d:DfaV} {l:List Nat} {i:Nat} {y:Nat}:∀ {a},y∈qJ d l i a ↔ y∈l∨∃ b,b < a∧y=nx d (l.getD i 0) b
 | 0=>by simp [qJ]
 | a+1=>by
  rw [qJ,mem_addNew,rP,or_assoc]
  refine or_congr_right ⟨?_,?_⟩
  ·rintro (⟨b,hb,h⟩|h)
   ·exact ⟨b,by omega,h⟩
   ·exact ⟨a,by omega,h⟩
  ·rintro ⟨b,hb,h⟩
   rcases Nat.lt_succ_iff_lt_or_eq.1 hb with hb|rfl
   ·exact .inl ⟨b,hb,h⟩
   ·exact .inr h
structure AccI (d:DfaV) (n k i:Nat) (l:List Nat):Prop where
 nd:l.Nodup
 lt:∀ q∈l,q < n
 hd:0 < l.length∧l.getD 0 0=st0 d
 cl:∀ j a,j < i→j < l.length→a < k→nx d (l.getD j 0) a∈l
 re:∀ q∈l,∃ w,wordOk k w∧run d (st0 d) w=q
theorem nZ {l m:List Nat} (h:l <+: m) {i:Nat} (hi:i < l.length):m.getD i 0=l.getD i 0:=by
 obtain ⟨r,rfl⟩:=h
 simp [List.getD,List.getElem?_append_left hi]
theorem AccI.row {d:DfaV} {n k i:Nat} {l:List Nat} (hd:VD d n k) (h:AccI d n k i l) (hi:i < l.length):AccI d n k (i+1) (qJ d l i k):=by
 have hp:=pR d l i k
 have hle:=hp.length_le
 have hil:l.getD i 0∈l:=by rw [zV hi];exact List.getElem_mem _
 have hin:=h.lt _ hil
 refine ⟨oQ h.nd i k,fun q hq=>?_,⟨by have:=h.hd.1;omega,by rw [nZ hp h.hd.1];exact h.hd.2⟩,fun j a hj hjl ha=>?_,fun q hq=>?_⟩
 ·rcases rP.1 hq with hq|⟨b,hb,rfl⟩
  ·exact h.lt q hq
  ·exact nx_lt hd hin hb
 ·rw [nZ hp (show j < l.length by omega)]
  rcases Nat.lt_succ_iff_lt_or_eq.1 hj with hj|rfl
  ·exact rP.2 (.inl (h.cl j a hj (by omega) ha))
  ·exact rP.2 (.inr ⟨a,ha,rfl⟩)
 ·rcases rP.1 hq with hq|⟨b,hb,rfl⟩
  ·exact h.re q hq
  ·obtain ⟨w,hw,e⟩:=h.re _ hil
   refine ⟨w ++ [b],fun c hc=>?_,by rw [run_snoc,e]⟩
   rcases List.mem_append.1 hc with hc|hc
   ·exact hw c hc
   ·rw [List.mem_singleton] at hc;subst hc;exact hb
theorem qN {l:List Nat} {n:Nat} (h:l.Nodup) (hl:∀ q∈l,q < n):l.length≤n:=by
 have:=h.length_le_of_subset (fun q hq=>List.mem_range.2 (hl q hq))
 simpa using this
theorem AccI.start {d : DfaV} {n k : Nat} (hd : VD d n k) : AccI d n k 0 [st0 d] :=
 ⟨by simp, fun q hq => by rw [List.mem_singleton] at hq; subst hq; exact iQ hd, ⟨by simp, by simp⟩, fun j a hj => by omega, fun q hq => by
  rw [List.mem_singleton] at hq; subst hq; exact ⟨[], fun a ha => by simp at ha, rfl⟩⟩
theorem accGo_ok {d:DfaV} {n k:Nat} (hd:VD d n k):∀ f i l,AccI d n k i l→n≤i+f→AccI d n k n (accGo d k f i l)∧(accGo d k f i l).length≤n
 | 0,i,l,h,hf=>by
  have hl:=qN h.nd h.lt
  exact ⟨⟨h.nd,h.lt,h.hd,fun j a hj hjl ha=>h.cl j a (by omega) hjl ha,h.re⟩,hl⟩
 | f+1,i,l,h,hf=>by
  rw [accGo]
  split
  ·rename_i hi
   exact accGo_ok hd f (i+1) _ (h.row hd hi) (by omega)
  ·rename_i hi
   have hl:=qN h.nd h.lt
   exact ⟨⟨h.nd,h.lt,h.hd,fun j a hj hjl ha=>h.cl j a (by omega) hjl ha,h.re⟩,hl⟩
theorem uU {d:DfaV} {n k:Nat} (hd:VD d n k):AccI d n k n (wW d k)∧(wW d k).length≤n:=accGo_ok hd _ _ _ (AccI.start hd) (by rw [hd.hn];omega)
theorem accGo_end {d:DfaV} {k f i:Nat} {l:List Nat} (h:¬ i < l.length):accGo d k f i l=l:=by
 cases f with
 | zero=>rfl
 | succ f=>rw [accGo,if_neg h]
def pM (l:List Nat) (q:Nat):Int:=if q∈l then (l.idxOf q:Int) else -1
def vK (l:List Nat) (r:List Int):List Int:=r.map fun s=>pM l s.toNat
def trimD (d:DfaV) (k:Nat):DfaV:=⟨d.letters,0,(wW d k).map fun q=>d.final.getD q false,(wW d k).map fun q=>vK (wW d k) (d.next.getD q [])⟩
section
variable {d:DfaV} {n k:Nat}
theorem trim_ent (hd:VD d n k) {i a:Nat} (hi:i < (wW d k).length) (ha:a < k):ent (trimD d k).next i a=(((wW d k).idxOf (nx d ((wW d k).getD i 0) a):Nat):Int):=by
 have hA:=(uU hd).1
 have hq:=hA.lt _ (show (wW d k).getD i 0∈wW d k by rw [zV hi];exact List.getElem_mem _)
 have hn:=(uU hd).2
 unfold ent trimD
 rw [vC (x:=0) hi,vK,vC (x:=0) (by rw [hd.row _ hq];exact ha),pM,if_pos]
 ·rfl
 ·exact hA.cl i a (by omega) hi ha
theorem trim_vd (hd:VD d n k):VD (trimD d k) (wW d k).length k where
 hk:=hd.hk
 k1:=hd.k1
 k6:=hd.k6
 hn:=by simp [trimD]
 n1:=(uU hd).1.hd.1
 n512:=Nat.le_trans (uU hd).2 hd.n512
 nl:=by simp [trimD]
 s0:=by simp [trimD]
 sn:=by have:=(uU hd).1.hd.1;simp only [trimD];omega
 row:=fun i hi=>by
  have hA:=(uU hd).1
  have hq:=hA.lt _ (show (wW d k).getD i 0∈wW d k by rw [zV hi];exact List.getElem_mem _)
  simp only [trimD]
  rw [vC (x:=0) hi,vK,List.length_map,hd.row _ hq]
 lo:=fun i a hi ha=>by rw [trim_ent hd hi ha];omega
 hi:=fun i a hi ha=>by
  have hn:=(uU hd).2
  rw [trim_ent hd hi ha]
  have:=List.idxOf_lt_length_of_mem ((uU hd).1.cl i a (by omega) hi ha)
  omega
end
def minD (d:DfaV) (k:Nat):DfaV:=trimD (quotD d (tQ d k)) k
def minN (d:DfaV) (k:Nat):Nat:=(wW (quotD d (tQ d k)) k).length
section
variable {d:DfaV} {n k:Nat}
theorem quotC_vd (hd:VD d n k):VD (quotD d (tQ d k)) (cls (tQ d k)) k:=quot_vd hd (by rw [qI,hd.hn]) (classesD_norm d k)
theorem min_vd (hd:VD d n k):VD (minD d k) (minN d k) k:=trim_vd (quotC_vd hd)
theorem minN_le (hd:VD d n k):minN d k≤n:=Nat.le_trans (uU (quotC_vd hd)).2 (Nat.le_trans (iS _) (by rw [qI,hd.hn];exact Nat.le_refl _))
end
end Go.Proofs.YtdjhoadoiknaoaaDoor
namespace Go.Proofs.YtdjhoadoiknaoaaDoor
open Go.RowKit
def DfaOk (B:Nat) (w:World) (v:Value) (d:DfaV):Prop:=∃ fv nv,v=.agg #[.int .i64 d.letters,.int .i64 d.start,fv,nv]∧Row B w fv (bls d.final)∧Mat B w nv d.next
theorem DfaOk.kept {B:Nat} {w w':World} {v:Value} {d:DfaV} {row:Option Nat} (h:DfaOk B w v d) (hg:w.grownBy w' row) (hr:∀ k,row=some k→B≤k):DfaOk B w' v d:=by
 obtain ⟨fv,nv,h1,h2,h3⟩:=h
 exact ⟨fv,nv,h1,h2.kept hg hr,h3.kept hg hr⟩
theorem DfaOk.mono {B B':Nat} {w:World} {v:Value} {d:DfaV} (h:DfaOk B w v d) (hB:B≤B'):DfaOk B' w v d:=by
 obtain ⟨fv,nv,h1,h2,h3⟩:=h
 exact ⟨fv,nv,h1,h2.mono hB,h3.mono hB⟩
theorem validD_letters {d:DfaV} (h:d.letters < 1∨6 < d.letters):tH d=1:=by rw [tH,if_pos h]
theorem validD_big {d:DfaV} (h:¬ (d.letters < 1∨6 < d.letters)) (h2:512 < d.final.length):tH d=3:=by rw [tH,if_neg h,if_pos h2]
theorem validD_shape {d:DfaV} (h:¬ (d.letters < 1∨6 < d.letters)) (h2:¬ 512 < d.final.length) (h3:d.final.length=0∨d.next.length≠d.final.length∨d.start < 0∨d.final.length≤d.start):tH d=4:=by rw [tH,if_neg h,if_neg h2,if_pos h3]
theorem mQ {d:DfaV} (h:¬ (d.letters < 1∨6 < d.letters)) (h2:¬ 512 < d.final.length) (h3:¬ (d.final.length=0∨d.next.length≠d.final.length∨d.start < 0∨d.final.length≤d.start)) {q:Nat} (hq:q < d.next.length) (hb:rowD d.letters d.final.length (d.next.getD q [])=false):tH d=4:=by
 rw [tH,if_neg h,if_neg h2,if_neg h3,if_neg]
 intro ha
 have:=List.all_eq_true.1 ha d.next[q] (List.getElem_mem hq)
 rw [zV hq,this] at hb;cases hb
theorem validD_ok {d:DfaV} (h:¬ (d.letters < 1∨6 < d.letters)) (h2:¬ 512 < d.final.length) (h3:¬ (d.final.length=0∨d.next.length≠d.final.length∨d.start < 0∨d.final.length≤d.start)) (ha:∀ q,q < d.next.length→rowD d.letters d.final.length (d.next.getD q [])=true):tH d=0:=by
 rw [tH,if_neg h,if_neg h2,if_neg h3,if_pos]
 rw [List.all_eq_true]
 intro r hr
 obtain ⟨q,hq,rfl⟩:=List.getElem_of_mem hr
 have:=ha q hq
 rwa [zV hq] at this
theorem rowD_len {k:Int} {n:Nat} {r:List Int} (h:(r.length:Int)≠k):rowD k n r=false:=by simp [rowD,h]
theorem rowD_bad {k:Int} {n:Nat} {r:List Int} {y:Nat} (hy:y < r.length) (h:r.getD y 0 < 0∨n≤r.getD y 0):rowD k n r=false:=by
 rw [← Bool.not_eq_true]
 intro hr
 have:=(nH.1 hr).2 y hy
 omega
def DRows (d:DfaV) (k:Nat):Prop:=∀ x,x < k→rowD d.letters d.final.length (d.next.getD x [])=true
set_option maxHeartbeats 800000 in
theorem validate7_any (B:Nat) (w:World) (v:Value) (d:DfaV) (hB:B≤w.heap.size) (h:DfaOk B w v d) :
  Calls Tryd.prog 44 #[v] w fun e w'=>e=.returned (.int .i64 (tH d))∧w.grownBy w' none:=by
 obtain ⟨fv,nv,rfl,hf,hn⟩:=h
 have hfl:=hf.len_le
 rw [wP] at hfl
 unfold maxLen at hfl
 have hnl:=hn.len_le
 unfold maxLen at hnl
 obtain ⟨fa,fc,rfl⟩:=hf.shape
 rw [wP] at hf ⊢
 obtain ⟨na,nc,rfl⟩:=hn.shape
 have HN:=Kh hn
 obtain ⟨n,hnn⟩:∃ n,n=d.final.length:=⟨_,rfl⟩
 obtain ⟨m,hmm⟩:∃ m,m=d.next.length:=⟨_,rfl⟩
 obtain ⟨L,hL⟩:∃ L,L=d.letters:=⟨_,rfl⟩
 obtain ⟨S,hS⟩:∃ S,S=d.start:=⟨_,rfl⟩
 rw [← hnn] at hfl ⊢
 rw [← hmm] at hnl HN ⊢
 rw [← hL,← hS]
 have HNN:=Kh hnn;have HMM:=Kh hmm;have HLL:=Kh hL;have HSS:=Kh hS
 clear hf hn hnn hmm hL hS
 obtain ⟨wA,hWA⟩:∃ wA,wA=w.alloc (.cells #[.int .i64 L,.int .i64 S,.slice fa n fc,.slice na m nc] 28):=⟨_,rfl⟩
 have hbox:wA.heap[w.heap.size]?=some (.cells #[.int .i64 L,.int .i64 S,.slice fa n fc,.slice na m nc] 28 (0,0)):=by rw [hWA];exact heap_alloc_new w _
 have hgA:w.grownBy wA none:=by rw [hWA];exact Ga w _ none
 have c0:=zI hbox 0 (by simp)
 have c1:=zI hbox 1 (by simp)
 have c2:=zI hbox 2 (by simp)
 have c3:=zI hbox 3 (by simp)
 simp only [List.getElem_toArray,List.getElem_cons_zero,List.getElem_cons_succ] at c0 c1 c2 c3
 have HGA:=Kh hgA;have HWA:=Kh hWA
 clear hbox hgA hWA
 by_cases hl:L < 1∨6 < L
 ·have HE:=Kh (validD_letters (d:=d) (by rw [← HLL.out];exact hl))
  have hm1:decide (1≤L∧L≤6)=false:=decide_eq_false (by omega)
  go_enter Tryd.func44,Tryd.ntmps44
  go_wp2_with fail
  rw [← HWA.out]
  refine (yX wA L).mono ?_
  rintro e w1 ⟨rfl,rfl⟩
  rw [hm1]
  go_wp2
  go_ret
  exact ⟨yD HE.out.symm,HGA.out⟩
 ·have hl1:1≤L:=by omega
  have hl6:L≤6:=by omega
  have HLT:Hid (¬ (d.letters < 1∨6 < d.letters)):=Kh (by rw [← HLL.out];exact hl)
  have hm1:decide (1≤L∧L≤6)=true:=decide_eq_true (by omega)
  clear hl
  by_cases h5:512 < n
  ·have HE:=Kh (validD_big HLT.out (by rw [← HNN.out];exact h5))
   go_enter Tryd.func44,Tryd.ntmps44
   go_wp2_with fail
   rw [← HWA.out]
   refine (yX wA L).mono ?_
   rintro e w1 ⟨rfl,rfl⟩
   rw [hm1]
   go_wp2
   go_ret
   exact ⟨yD HE.out.symm,HGA.out⟩
  ·have H5:Hid (¬ 512 < d.final.length):=Kh (by rw [← HNN.out];exact h5)
   by_cases hsh:n=0∨m≠n∨S < 0∨n≤S
   ·have HE:=Kh (validD_shape HLT.out H5.out (by rw [← HNN.out,← HMM.out,← HSS.out];exact hsh))
    by_cases h0:n=0
    ·have e0:((n:Int) == 0)=true:=by rw [beq_iff_eq];omega
     clear hsh h0
     go_enter Tryd.func44,Tryd.ntmps44
     go_wp2_with fail
     rw [← HWA.out]
     refine (yX wA L).mono ?_
     rintro e w1 ⟨rfl,rfl⟩
     rw [hm1]
     go_wp2
     go_ret
     exact ⟨yD HE.out.symm,HGA.out⟩
    ·have e0:((n:Int) == 0)=false:=by rw [beq_eq_false_iff_ne];omega
     by_cases hmn:m=n
     ·have e1:((m:Int) != n)=false:=by rw [hmn];simp
      have HMN:=Kh hmn
      by_cases hs:S < 0
      ·clear hsh hmn
       go_enter Tryd.func44,Tryd.ntmps44
       go_wp2_with fail
       rw [← HWA.out]
       refine (yX wA L).mono ?_
       rintro e w1 ⟨rfl,rfl⟩
       rw [hm1]
       go_wp2
       go_ret
       exact ⟨yD HE.out.symm,HGA.out⟩
      ·have hs2:(n:Int)≤S:=by omega
       clear hsh hmn
       go_enter Tryd.func44,Tryd.ntmps44
       go_wp2_with fail
       rw [← HWA.out]
       refine (yX wA L).mono ?_
       rintro e w1 ⟨rfl,rfl⟩
       rw [hm1]
       go_wp2
       go_ret
       exact ⟨yD HE.out.symm,HGA.out⟩
     ·have e1:((m:Int) != n)=true:=by rw [bne_iff_ne];omega
      clear hsh
      go_enter Tryd.func44,Tryd.ntmps44
      go_wp2_with fail
      rw [← HWA.out]
      refine (yX wA L).mono ?_
      rintro e w1 ⟨rfl,rfl⟩
      rw [hm1]
      go_wp2
      go_ret
      exact ⟨yD HE.out.symm,HGA.out⟩
   ·have HSH:Hid (¬ (d.final.length=0∨d.next.length≠d.final.length∨d.start < 0∨d.final.length≤d.start)):=Kh (by rw [← HNN.out,← HMM.out,← HSS.out];exact hsh)
    have h0:0 < n:=by omega
    have e0:((n:Int) == 0)=false:=by rw [beq_eq_false_iff_ne];omega
    have hmn:m=n:=by omega
    have e1:((m:Int) != n)=false:=by rw [hmn];simp
    have hs1:0≤S:=by omega
    have hs2:S < n:=by omega
    have hm0:0 < m:=by omega
    have hN2:Mat B wA (.slice na m nc) d.next:=HN.out.kept HGA.out (by simp)
    obtain ⟨b,off,cap,A,C,e,hc1,hc2,hma⟩:=hN2.some_ (by rw [← HMM.out];exact hm0)
    simp only [Value.slice.injEq] at e
    obtain ⟨rfl,-,rfl⟩:=e
    rw [← HMM.out] at hc1
    have hmx:nc≤9223372036854775807:=by unfold maxLen at hc2;omega
    have HM:=Kh hma
    have HMN:=Kh hmn
    clear hsh hmn hN2 hma
    go_enter Tryd.func44,Tryd.ntmps44
    go_wp2_with fail
    rw [← HWA.out]
    refine (yX wA L).mono ?_
    rintro e w1 ⟨rfl,rfl⟩
    rw [hm1]
    go_wp2
    go_loopg [40] m (fun g i wr=>∃ k:Nat,g+k=m∧i=.int .i64 k∧DRows d k∧wA=wr)
    case atStart=>exact ⟨0,rfl,rfl,fun x hx=>absurd hx (by omega),rfl⟩
    case round =>
     obtain ⟨k,hg,rfl,hok,rfl⟩:=hrel
     have OK:=Kh hok;have HG:=Kh hg
     clear hok hg
     by_cases hk:k < m
     ·have hkl:k < d.next.length:=by rw [← HMM.out];exact hk
      have hcx:=HM.out.hd k hkl
      have hrow:=HM.out.row k hkl
      have hrl:=hrow.len_le
      rw [zM] at hrl
      unfold maxLen at hrl
      obtain ⟨r,hr⟩:∃ r,r=d.next.getD k []:=⟨_,rfl⟩
      rw [← hr] at hcx hrow hrl
      have HR:=Kh hr;have HKL:=Kh hkl
      clear hr hkl
      by_cases hlr:(r.length:Int)=L
      ·have HLR:=Kh hlr
       have hl':((r.length:Int) != L)=false:=by rw [hlr];simp
       obtain ⟨rb,ro,rc,e,hb,h1,h2,hra⟩:=hrow.some_ (by rw [zM];omega)
       simp only [Value.slice.injEq] at e
       obtain ⟨eA,-,rfl⟩:=e
       rw [eA] at hcx
       rw [zM] at h1
       have HA:=Kh eA;have RA:=Kh hra
       clear eA hra hlr hrow
       go_wp2
       go_loopg [51] r.length (fun g j wr'=>∃ y:Nat,g+y=r.length∧j=.int .i64 y∧jW n r y∧wA=wr')
       case atStart=>exact ⟨0,rfl,rfl,fun x hx=>absurd hx (by omega),rfl⟩
       case round =>
        obtain ⟨y,hg,rfl,hok,rfl⟩:=hrel
        have OKY:=Kh hok;have HG2:=Kh hg
        clear hok hg
        by_cases hy:y < r.length
        ·have hcy:=RA.out.int y hy
         obtain ⟨z,hz⟩:∃ z,z=r.getD y 0:=⟨_,rfl⟩
         rw [← hz] at hcy
         have HZ:=Kh hz
         clear hz
         by_cases hb1:z < 0
         ·have HE:=Kh (mQ HLT.out H5.out HSH.out HKL.out (by rw [← HR.out];exact rowD_bad (y:=y) hy (by rw [← HZ.out];exact .inl hb1)))
          go_wp2
          go_ret
          exact ⟨yD HE.out.symm,HGA.out⟩
         ·by_cases hb2:(n:Int)≤z
          ·have HE:=Kh (mQ HLT.out H5.out HSH.out HKL.out (by rw [← HR.out];exact rowD_bad (y:=y) hy (by rw [← HZ.out,← HNN.out];exact .inr hb2)))
           go_wp2
           go_ret
           exact ⟨yD HE.out.symm,HGA.out⟩
          ·go_wp2
           go_roundg (r.length - (y+1))
           case measure=>have:=HG2.out;omega
           case rel =>
            refine ⟨y+1,by omega,by go_num,fun x hx=>?_,rfl⟩
            rcases Nat.lt_succ_iff_lt_or_eq.1 hx with hx|rfl
            ·exact OKY.out x hx
            ·rw [← HZ.out];omega
        ·go_wp2
         go_roundg (m - (k+1))
         case measure=>have:=HG.out;omega
         case rel =>
          refine ⟨k+1,by omega,by go_num,fun x hx=>?_,rfl⟩
          rcases Nat.lt_succ_iff_lt_or_eq.1 hx with hx|rfl
          ·exact OK.out x hx
          ·rw [← HR.out,nH,← HNN.out,← HLL.out]
           exact ⟨HLR.out,fun z hz=>OKY.out z (by omega)⟩
      ·have hl':((r.length:Int) != L)=true:=by rw [bne_iff_ne];exact hlr
       have HE:=Kh (mQ HLT.out H5.out HSH.out HKL.out (by rw [← HR.out];exact rowD_len (by rw [← HLL.out];exact hlr)))
       clear hlr
       go_wp2
       go_ret
       exact ⟨yD HE.out.symm,HGA.out⟩
     ·have HE:=Kh (validD_ok HLT.out H5.out HSH.out (fun q hq=>OK.out q (by have:=HMM.out;omega)))
      go_wp2
      go_ret
      exact ⟨yD HE.out.symm,HGA.out⟩
end Go.Proofs.YtdjhoadoiknaoaaDoor
