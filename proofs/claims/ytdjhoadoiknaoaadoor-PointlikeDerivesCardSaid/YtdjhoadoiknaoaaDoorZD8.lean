/- Part 8 of the proof: DfaPlain, MinPlain, Dfa, MapNo, Both, Closure, Advance. -/
import Derived.Test.YtdjhoadoiknaoaaDoorZD7
import Derived.Maps.OwnSet
import Derived.Maps.OwnOps
set_option linter.unusedVariables false
set_option linter.unusedSimpArgs false
namespace Go.Proofs.YtdjhoadoiknaoaaDoor
structure DfaV where
 letters:Int
 start:Int
 final:List Bool
 next:List (List Int)
def rowD (letters:Int) (n:Nat) (r:List Int):Bool:=decide ((r.length:Int)=letters) && r.all fun x=>decide (0≤x∧x < n)
def sB (d:DfaV):Int :=
 if d.letters < 1∨6 < d.letters then 1 else if 512 < d.final.length then 3
 else if d.final.length=0∨d.next.length≠d.final.length∨d.start < 0∨d.final.length≤d.start then 4
 else if d.next.all (rowD d.letters d.final.length) then 0 else 4
structure VD (d:DfaV) (n k:Nat):Prop where
 hk:d.letters=k
 k1:1≤k
 k6:k≤6
 hn:d.final.length=n
 n1:1≤n
 n512:n≤512
 nl:d.next.length=n
 s0:0≤d.start
 sn:d.start < n
 row:∀ q,q < n→(d.next.getD q []).length=k
 lo:∀ q a,q < n→a < k→0≤ent d.next q a
 hi:∀ q a,q < n→a < k→ent d.next q a < n
theorem lP {k:Int} {n:Nat} {r:List Int}:rowD k n r=true ↔ (r.length:Int)=k∧∀ y,y < r.length→0≤r.getD y 0∧r.getD y 0 < n:=by
 simp only [rowD,Bool.and_eq_true,decide_eq_true_eq,List.all_eq_true]
 refine and_congr_right fun _=>⟨fun h y hy=>?_,fun h x hx=>?_⟩
 ·have:=h (r[y]) (List.getElem_mem hy)
  rwa [← zY (d:=0) hy] at this
 ·obtain ⟨y,hy,rfl⟩:=List.getElem_of_mem hx
  have:=h y hy
  rwa [zY hy] at this
theorem vd_of {d:DfaV} (h:sB d=0):VD d d.final.length d.letters.toNat:=by
 unfold sB at h
 split at h
 ·omega
 rename_i h1
 split at h
 ·omega
 rename_i h2
 split at h
 ·omega
 rename_i h3
 split at h
 ·rename_i h4
  rw [List.all_eq_true] at h4
  have hr:∀ q,q < d.next.length→rowD d.letters d.final.length (d.next.getD q [])=true:=fun q hq=>by
   rw [zY hq];exact h4 _ (List.getElem_mem hq)
  have hnl:d.next.length=d.final.length:=by
   apply Classical.byContradiction;intro hh;exact h3 (.inr (.inl hh))
  refine ⟨by omega,by omega,by omega,rfl,by omega,by omega,hnl,by omega,by omega,fun q hq=>?_,fun q a hq ha=>?_,fun q a hq ha=>?_⟩
  ·have:=(lP.1 (hr q (by omega))).1;omega
  ·obtain ⟨e,h⟩:=lP.1 (hr q (by omega))
   exact (h a (by omega)).1
  ·obtain ⟨e,h⟩:=lP.1 (hr q (by omega))
   exact (h a (by omega)).2
 ·omega
theorem bT {d:DfaV} {n k:Nat} (h:VD d n k):sB d=0:=by
 unfold sB
 rw [if_neg (by have:=h.hk;have:=h.k1;have:=h.k6;omega),if_neg (by have:=h.hn;have:=h.n512;omega),
  if_neg (by have:=h.hn;have:=h.n1;have:=h.nl;have:=h.s0;have:=h.sn;omega),if_pos]
 rw [List.all_eq_true]
 intro r hr
 obtain ⟨q,hq,rfl⟩:=List.getElem_of_mem hr
 have hq':q < n:=by have:=h.nl;omega
 rw [lP]
 have hl:=h.row q hq'
 rw [zY hq] at hl
 refine ⟨by rw [hl,h.hk],fun y hy=>?_⟩
 have h1:=h.lo q y hq' (by omega)
 have h2:=h.hi q y hq' (by omega)
 unfold ent at h1 h2
 rw [zY hq] at h1 h2
 rw [h.hn]
 exact ⟨h1,h2⟩
def nx (d:DfaV) (q a:Nat):Nat:=entN d.next q a
theorem qCV {d:DfaV} {n k:Nat} (h:VD d n k) {q a:Nat} (hq:q < n) (ha:a < k):(nx d q a:Int)=ent d.next q a:=Int.toNat_of_nonneg (h.lo q a hq ha)
theorem aH {d:DfaV} {n k:Nat} (h:VD d n k) {q a:Nat} (hq:q < n) (ha:a < k):nx d q a < n:=by
 have h1:=qCV h hq ha
 have h2:=h.hi q a hq ha
 omega
def st0 (d:DfaV):Nat:=d.start.toNat
theorem qBA {d:DfaV} {n k:Nat} (h:VD d n k):(st0 d:Int)=d.start:=Int.toNat_of_nonneg h.s0
theorem qAZ {d:DfaV} {n k:Nat} (h:VD d n k):st0 d < n:=by have:=qBA h;have:=h.sn;omega
def finB (b:Bool):Int:=if b then 1 else 0
def qCF (d:DfaV):List Nat:=numb (d.final.map finB)
def mX (d:DfaV) (p:List Nat) (a:Nat):List Nat:=(List.range p.length).map fun q=>p.getD (nx d q a) 0
def aD (m:Nat) (a b:Nat):Int:=(a:Int) * (m+1)+b
def kC (p q:List Nat):List Int:=List.zipWith (aD p.length) p q
def bK (p q:List Nat):List Nat:=numb (kC p q)
def sZ (d:DfaV) (p:List Nat):Nat→List Nat
 | 0=>p
 | k+1=>bK (sZ d p k) (mX d p k)
theorem hJ (d:DfaV):(qCF d).length=d.final.length:=by simp [qCF,xW]
theorem rV (d:DfaV) (p:List Nat) (a:Nat):(mX d p a).length=p.length:=by simp [mX]
theorem pZ {p q:List Nat} (h:q.length=p.length):(kC p q).length=p.length:=by simp [kC,h]
theorem both8_length {p q:List Nat} (h:q.length=p.length):(bK p q).length=p.length:=by rw [bK,xW,pZ h]
theorem xO (d:DfaV) (p:List Nat):∀ k,(sZ d p k).length=p.length
 | 0=>rfl
 | k+1=>by rw [sZ,both8_length (by rw [rV,xO d p k]),xO d p k]
theorem cZ {p:List Nat} (h:Norm p):∀ c∈p,c < p.length:=by
 intro c hc
 have h1:=qCW (l:=p)
 rw [h] at h1
 have:=h1 c hc
 have:=qD p
 omega
theorem pairNo_inj {m a b a' b':Nat} (hb:b≤m) (hb':b'≤m):aD m a b=aD m a' b' ↔ a=a'∧b=b':=by
 unfold aD
 constructor
 ·intro h
  have h':a * (m+1)+b=a' * (m+1)+b':=by exact_mod_cast h
  have e1:(a * (m+1)+b) / (m+1)=a:=by rw [Nat.mul_comm,Nat.mul_add_div (by omega),Nat.div_eq_of_lt (by omega)];omega
  have e2:(a' * (m+1)+b') / (m+1)=a':=by rw [Nat.mul_comm,Nat.mul_add_div (by omega),Nat.div_eq_of_lt (by omega)];omega
  have ha:a=a':=by rw [← e1,← e2,h']
  subst ha
  exact ⟨rfl,by omega⟩
 ·rintro ⟨rfl,rfl⟩;rfl
theorem both8_iff {p q:List Nat} (h:q.length=p.length) (hq:∀ c∈q,c < p.length) {i j:Nat} (hi:i < p.length) (hj:j < p.length) :
  (bK p q).getD i 0=(bK p q).getD j 0 ↔ p.getD i 0=p.getD j 0∧q.getD i 0=q.getD j 0:=by
 have hi':i < (kC p q).length:=by rw [pZ h];exact hi
 have hj':j < (kC p q).length:=by rw [pZ h];exact hj
 rw [bK,fX hi' hj']
 simp only [kC,List.getElem_zipWith]
 rw [pairNo_inj (Nat.le_of_lt (hq _ (List.getElem_mem _))) (Nat.le_of_lt (hq _ (List.getElem_mem _))),zY hi,zY hj,zY (show i < q.length by omega),zY (show j < q.length by omega)]
theorem eR {d:DfaV} {p:List Nat} {a i:Nat} (hi:i < p.length):(mX d p a).getD i 0=p.getD (nx d i a) 0:=by
 rw [zY (by rw [rV];exact hi)];simp [mX]
theorem lT {p:List Nat} {n i:Nat} (h:∀ c∈p,c < n) (hn:0 < n):p.getD i 0 < n:=by
 by_cases hi:i < p.length
 ·rw [zY hi];exact h _ (List.getElem_mem hi)
 ·rw [List.getD,List.getElem?_eq_none (by omega)];exact hn
theorem fQ {d:DfaV} {n k:Nat} (hd:VD d n k) {p:List Nat} (hp:p.length=n) (hlt:∀ c∈p,c < n) {i j:Nat} (hi:i < n) (hj:j < n) :
  ∀ m,m≤k→((sZ d p m).getD i 0=(sZ d p m).getD j 0 ↔ p.getD i 0=p.getD j 0∧∀ a,a < m→p.getD (nx d i a) 0=p.getD (nx d j a) 0)
 | 0,_=>by simp [sZ]
 | m+1,hm=>by
  rw [sZ,both8_iff (by rw [rV,xO]) (fun c hc=>?_) (by rw [xO];omega) (by rw [xO];omega),fQ hd hp hlt hi hj m (by omega),eR (by omega),eR (by omega)]
  ·constructor
   ·rintro ⟨⟨h1,h2⟩,h3⟩
    refine ⟨h1,fun a ha=>?_⟩
    rcases Nat.lt_succ_iff_lt_or_eq.1 ha with ha|rfl
    ·exact h2 a ha
    ·exact h3
   ·rintro ⟨h1,h2⟩
    exact ⟨⟨h1,fun a ha=>h2 a (by omega)⟩,h2 m (by omega)⟩
  ·rw [xO,hp]
   obtain ⟨q,hq,rfl⟩:=List.mem_map.1 hc
   exact lT hlt hd.n1
theorem iF {d:DfaV} {p:List Nat} (hp:Norm p):∀ m,Norm (sZ d p m)
 | 0=>hp
 | m+1=>aI _
def cls (p:List Nat):Nat:=(yV p).length
theorem cls_mono {p q:List Nat} (hl:q.length=p.length) (h:∀ i j,i < p.length→j < p.length→q.getD i 0=q.getD j 0→p.getD i 0=p.getD j 0) :
  cls p≤cls q∧(cls p=cls q→∀ i j,i < p.length→j < p.length→p.getD i 0=p.getD j 0→q.getD i 0=q.getD j 0):=by
 -- the classes of q are mapped onto those of p
 let f:Nat→Nat:=fun c=>p.getD (q.idxOf c) 0
 have hf:∀ i,i < p.length→f (q.getD i 0)=p.getD i 0:=by
  intro i hi
  have hi':i < q.length:=by omega
  have hm:q.getD i 0∈q:=by rw [zY hi'];exact List.getElem_mem _
  have hlt:=List.idxOf_lt_length_of_mem hm
  refine h _ i (by omega) hi ?_
  rw [zY hlt,List.getElem_idxOf]
 have hsub:∀ c∈yV p,c∈(yV q).map f:=by
  intro c hc
  obtain ⟨i,hi,rfl⟩:=List.getElem_of_mem (vG.1 hc)
  rw [List.mem_map]
  refine ⟨q.getD i 0,vG.2 (by rw [zY (by omega)];exact List.getElem_mem _),?_⟩
  rw [hf i hi,zY hi]
 have hle:(yV p).length≤((yV q).map f).length:=(pW p).length_le_of_subset hsub
 rw [List.length_map] at hle
 refine ⟨hle,fun e i j hi hj hp=>?_⟩
 have hinj:∀ x∈yV q,∀ y∈yV q,f x=f y→x=y:=by
  intro x hx y hy hxy
  apply Classical.byContradiction
  intro hne
  have hsub2:∀ c∈yV p,c∈((yV q).erase x).map f:=by
   intro c hc
   obtain ⟨z,hz,rfl⟩:=List.mem_map.1 (hsub c hc)
   by_cases e:z=x
   ·subst e
    exact List.mem_map.2 ⟨y,(List.mem_erase_of_ne (Ne.symm hne)).2 hy,hxy.symm⟩
   ·exact List.mem_map.2 ⟨z,(List.mem_erase_of_ne e).2 hz,rfl⟩
  have h1:=(pW p).length_le_of_subset hsub2
  rw [List.length_map,List.length_erase_of_mem hx] at h1
  have h2:=List.length_pos_of_mem hx
  unfold cls at e
  omega
 have mem:∀ i,i < p.length→q.getD i 0∈yV q:=fun i hi=>vG.2 (by rw [zY (by omega)];exact List.getElem_mem _)
 exact hinj _ (mem i hi) _ (mem j hj) (by rw [hf i hi,hf j hj,hp])
end Go.Proofs.YtdjhoadoiknaoaaDoor
namespace Go.Proofs.YtdjhoadoiknaoaaDoor
theorem qBX (p:List Nat):cls p≤p.length:=qD p
theorem part0_norm (d:DfaV):Norm (qCF d):=aI _
def oS (d:DfaV) (k:Nat):Nat→List Nat
 | 0=>qCF d
 | m+1=>sZ d (oS d k m) k
theorem rW (d:DfaV) (k:Nat):∀ m,(oS d k m).length=d.final.length
 | 0=>hJ d
 | m+1=>by rw [oS,xO,rW d k m]
theorem iS (d:DfaV) (k:Nat):∀ m,Norm (oS d k m)
 | 0=>part0_norm d
 | m+1=>iF (iS d k m) k
theorem qDG {p:List Nat} (h:0 < p.length):0 < cls p:=by
 have hm:p[0]∈yV p:=vG.2 (List.getElem_mem h)
 exact List.length_pos_of_mem hm
theorem refine_grow {d:DfaV} {n k:Nat} (hd:VD d n k) {p:List Nat} (hp:p.length=n) (hn:Norm p) (hne:sZ d p k≠p):cls p < cls (sZ d p k):=by
 have hlt:∀ c∈p,c < n:=by have:=cZ hn;rwa [hp] at this
 obtain ⟨h1,h2⟩:=cls_mono (p:=p) (q:=sZ d p k) (xO d p k) (fun i j hi hj h=>((fQ hd hp hlt (by omega) (by omega) k (Nat.le_refl _)).1 h).1)
 refine Nat.lt_of_le_of_ne h1 fun e=>hne ?_
 refine norm_ext (iF hn k) hn ⟨xO d p k,fun i j hi hj=>?_⟩
 rw [xO] at hi hj
 exact ⟨fun h=>((fQ hd hp hlt (by omega) (by omega) k (Nat.le_refl _)).1 h).1,fun h=>h2 e i j hi hj h⟩
def sO (d:DfaV) (k:Nat):List Nat:=oS d k d.final.length
theorem qAA {d:DfaV} {k m:Nat} (h:sZ d (oS d k m) k=oS d k m):∀ j,m≤j→oS d k j=oS d k m
 | 0,hj=>by rw [show m=0 by omega]
 | j+1,hj=>by
  by_cases e:m=j+1
  ·rw [e]
  ·rw [oS,qAA h j (by omega),h]
theorem classes_of_fix {d:DfaV} {k m:Nat} (hm:m≤d.final.length) (h:sZ d (oS d k m) k=oS d k m):sO d k=oS d k m:=qAA h _ hm
theorem pJ (d:DfaV) (k:Nat):(sO d k).length=d.final.length:=rW _ _ _
theorem jU (d:DfaV) (k:Nat):Norm (sO d k):=iS _ _ _
theorem firsts_norm {p:List Nat} (h:Norm p):yV p=List.range (cls p):=by
 refine List.ext_getElem (by simp [cls]) fun i h1 h2=>?_
 rw [List.getElem_range]
 have hm:=List.getElem_mem h1
 obtain ⟨q,hq,e⟩:=List.getElem_of_mem (vG.1 hm)
 have hh:(numb p)[q]'(by rw [xW];exact hq)=p[q]:=by simp only [show numb p=p from h]
 rw [lS hq,e] at hh
 have h3:=List.idxOf_lt_length_of_mem hm
 have h4:=List.getElem_idxOf h3
 have:=(List.getElem_inj (pW p)).1 h4
 omega
theorem mF {p:List Nat} (h:Norm p) (k:Nat):yV (p.take k)=List.range (cls (p.take k)):=by
 have h1:=pV p k
 rw [firsts_norm h] at h1
 obtain ⟨r,hr⟩:=h1
 refine List.ext_getElem (by simp [cls]) fun i h1 h2=>?_
 rw [List.getElem_range]
 have:(yV (p.take k) ++ r)[i]'(by rw [List.length_append];omega)=i:=by simp only [hr,List.getElem_range]
 rwa [List.getElem_append_left h1] at this
theorem cY {p:List Nat} (h:Norm p) {q:Nat} (hq:q < p.length):p.getD q 0≤cls (p.take q)∧(p.getD q 0=cls (p.take q)→cls (p.take (q+1))=cls (p.take q)+1)∧(p.getD q 0≠cls (p.take q)→cls (p.take (q+1))=cls (p.take q)):=by
 have h1:=mF h (q+1)
 have e:yV (p.take (q+1))=tL (yV (p.take q)) p[q]:=by rw [List.take_succ_eq_append_getElem hq,pF]
 have h0:=mF h q
 rw [zY hq]
 by_cases hm:p[q]∈yV (p.take q)
 ·have hlt:p[q] < cls (p.take q):=by rw [h0] at hm;exact List.mem_range.1 hm
  rw [qO hm] at e
  have:cls (p.take (q+1))=cls (p.take q):=by unfold cls;rw [e]
  exact ⟨by omega,fun h=>by omega,fun _=>this⟩
 ·rw [qP hm] at e
  have hc:cls (p.take (q+1))=cls (p.take q)+1:=by unfold cls;rw [e];simp
  have hl:p[q]=cls (p.take q):=by
   rw [h1,h0,hc,List.range_succ] at e
   have:=List.append_cancel_left e
   simpa using this.symm
  exact ⟨by omega,fun _=>hc,fun h=>absurd hl h⟩
def sM (p:List Nat) (k:Nat):List Nat:=(List.range k).filter fun q=>p.getD q 0 == cls (p.take q)
theorem sJ {p:List Nat} {k:Nat} (h:p.getD k 0=cls (p.take k)):sM p (k+1)=sM p k ++ [k]:=by
 rw [sM,List.range_succ,List.filter_append,List.filter_cons,if_pos (beq_iff_eq.2 h)];rfl
theorem sH {p:List Nat} {k:Nat} (h:p.getD k 0≠cls (p.take k)):sM p (k+1)=sM p k:=by
 rw [sM,List.range_succ,List.filter_append,List.filter_cons,if_neg (fun e=>h (beq_iff_eq.1 e)),List.filter_nil,List.append_nil];rfl
theorem sK {p:List Nat} (h:Norm p):∀ k,k≤p.length→(sM p k).length=cls (p.take k)
 | 0,_=>by simp [sM,cls,yV]
 | k+1,hk=>by
  obtain ⟨h0,h1,h2⟩:=cY h (show k < p.length by omega)
  have ih:=sK h k (by omega)
  by_cases e:p.getD k 0=cls (p.take k)
  ·rw [sJ e,List.length_append,ih,h1 e];rfl
  ·rw [sH e,ih,h2 e]
theorem iE {p:List Nat} (h:Norm p):∀ k,k≤p.length→∀ c,c < cls (p.take k)→p.getD ((sM p k).getD c 0) 0=c∧(sM p k).getD c 0 < k
 | 0,_,c,hc=>by simp [cls,yV] at hc
 | k+1,hk,c,hc=>by
  obtain ⟨h0,h1,h2⟩:=cY h (show k < p.length by omega)
  have hl:=sK h k (by omega)
  by_cases e:p.getD k 0=cls (p.take k)
  ·rw [h1 e] at hc
   rw [sJ e]
   by_cases hc':c < cls (p.take k)
   ·have ih:=iE h k (by omega) c hc'
    rw [show (sM p k ++ [k]).getD c 0=(sM p k).getD c 0 from by simp [List.getD,List.getElem?_append_left (show c < (sM p k).length by omega)]]
    exact ⟨ih.1,by omega⟩
   ·have hc2:c=(sM p k).length:=by omega
    rw [show (sM p k ++ [k]).getD c 0=k from by simp [List.getD,hc2]]
    exact ⟨by omega,by omega⟩
  ·rw [h2 e] at hc
   rw [sH e]
   have ih:=iE h k (by omega) c hc
   exact ⟨ih.1,by omega⟩
def reps (p:List Nat):List Nat:=sM p p.length
def sN (p:List Nat) (r:List Int):List Int:=r.map fun s=>((p.getD s.toNat 0:Nat):Int)
def kJ (d:DfaV) (p:List Nat):DfaV :=
 ⟨d.letters,((p.getD (st0 d) 0:Nat):Int),(reps p).map fun q=>d.final.getD q false,(reps p).map fun q=>sN p (d.next.getD q [])⟩
theorem uF {α β:Type} {l:List α} {f:α→β} {i:Nat} {x:α} {y:β} (h:i < l.length):(l.map f).getD i y=f (l.getD i x):=by
 rw [zY (by simpa using h),zY h];simp
theorem dV {p:List Nat} {r:List Int} {a:Nat} (h:a < r.length):(sN p r).getD a 0=((p.getD (r.getD a 0).toNat 0:Nat):Int):=by
 rw [sN,uF (x:=0) h]
theorem nH {p:List Nat} (h:Norm p):(reps p).length=cls p:=by
 have:=sK h p.length (Nat.le_refl _)
 rwa [List.take_length] at this
theorem cQ {p:List Nat} (h:Norm p) {c:Nat} (hc:c < cls p):p.getD ((reps p).getD c 0) 0=c∧(reps p).getD c 0 < p.length :=
 iE h p.length (Nat.le_refl _) c (by rwa [List.take_length])
theorem fY {p:List Nat} (h:Norm p) {i:Nat} (hi:i < p.length):p.getD i 0 < cls p:=by
 have:=qCW (l:=p)
 rw [h] at this
 rw [zY hi]
 exact this _ (List.getElem_mem hi)
section
variable {d:DfaV} {n k:Nat} {p:List Nat}
theorem qBG (hd:VD d n k) (hp:p.length=n) (hn:Norm p) {c a:Nat} (hc:c < cls p) (ha:a < k):ent (kJ d p).next c a=((p.getD (nx d ((reps p).getD c 0) a) 0:Nat):Int):=by
 have hr:=cQ hn hc
 unfold ent kJ
 rw [uF (x:=0) (by rw [nH hn];exact hc),dV (by rw [hd.row _ (by omega)];exact ha)]
 rfl
theorem qCS (hd:VD d n k) (hp:p.length=n) (hn:Norm p):VD (kJ d p) (cls p) k where
 hk:=hd.hk
 k1:=hd.k1
 k6:=hd.k6
 hn:=by simp [kJ,nH hn]
 n1:=qDG (by rw [hp];exact hd.n1)
 n512:=Nat.le_trans (qBX p) (by rw [hp];exact hd.n512)
 nl:=by simp [kJ,nH hn]
 s0:=by simp [kJ]
 sn:=by
  have:=fY hn (i:=st0 d) (by rw [hp];exact qAZ hd)
  simp only [kJ]
  omega
 row:=fun c hc=>by
  simp only [kJ]
  rw [uF (x:=0) (by rw [nH hn];exact hc)]
  have hr:=cQ hn hc
  rw [sN,List.length_map,hd.row _ (by omega)]
 lo:=fun c a hc ha=>by rw [qBG hd hp hn hc ha];omega
 hi:=fun c a hc ha=>by
  rw [qBG hd hp hn hc ha]
  have hr:=cQ hn hc
  have:=fY hn (i:=nx d ((reps p).getD c 0) a) (by rw [hp];exact aH hd (by omega) ha)
  omega
end
def run (d:DfaV) (q:Nat) (w:List Nat):Nat:=w.foldl (nx d) q
def wordOk (k:Nat) (w:List Nat):Prop:=∀ a∈w,a < k
theorem run_snoc (d:DfaV) (q:Nat) (w:List Nat) (a:Nat):run d q (w ++ [a])=nx d (run d q w) a:=by simp [run]
def pK (d:DfaV) (l:List Nat) (i:Nat):Nat→List Nat
 | 0=>l
 | a+1=>tL (pK d l i a) (nx d (l.getD i 0) a)
def eX (d:DfaV) (k:Nat):Nat→Nat→List Nat→List Nat
 | 0,_,l=>l
 | f+1,i,l=>if i < l.length then eX d k f (i+1) (pK d l i k) else l
def vZ (d:DfaV) (k:Nat):List Nat:=eX d k d.final.length 0 [st0 d]
theorem nY (d:DfaV) (l:List Nat) (i:Nat):∀ a,l <+: pK d l i a
 | 0=>List.prefix_refl _
 | a+1=>(nY d l i a).trans (jV _ _)
theorem lE {d:DfaV} {l:List Nat} (h:l.Nodup) (i:Nat):∀ a,(pK d l i a).Nodup
 | 0=>h
 | a+1=>gF (lE h i a)
theorem qM {d:DfaV} {l:List Nat} {i:Nat} {y:Nat}:∀ {a},y∈pK d l i a ↔ y∈l∨∃ b,b < a∧y=nx d (l.getD i 0) b
 | 0=>by simp [pK]
 | a+1=>by
  rw [pK,dU,qM,or_assoc]
  refine or_congr_right ⟨?_,?_⟩
  ·rintro (⟨b,hb,h⟩|h)
   ·exact ⟨b,by omega,h⟩
   ·exact ⟨a,by omega,h⟩
  ·rintro ⟨b,hb,h⟩
   rcases Nat.lt_succ_iff_lt_or_eq.1 hb with hb|rfl
   ·exact .inl ⟨b,hb,h⟩
   ·exact .inr h
structure AccI (d:DfaV) (n k i:Nat) (l:List Nat):Prop where
 nd:l.Nodup
 lt:∀ q∈l,q < n
 hd:0 < l.length∧l.getD 0 0=st0 d
 cl:∀ j a,j < i→j < l.length→a < k→nx d (l.getD j 0) a∈l
 re:∀ q∈l,∃ w,wordOk k w∧run d (st0 d) w=q
theorem kQ {l m:List Nat} (h:l <+: m) {i:Nat} (hi:i < l.length):m.getD i 0=l.getD i 0:=by
 obtain ⟨r,rfl⟩:=h
 simp [List.getD,List.getElem?_append_left hi]
theorem AccI.row {d:DfaV} {n k i:Nat} {l:List Nat} (hd:VD d n k) (h:AccI d n k i l) (hi:i < l.length):AccI d n k (i+1) (pK d l i k):=by
 have hp:=nY d l i k
 have hle:=hp.length_le
 have hil:l.getD i 0∈l:=by rw [zY hi];exact List.getElem_mem _
 have hin:=h.lt _ hil
 refine ⟨lE h.nd i k,fun q hq=>?_,⟨by have:=h.hd.1;omega,by rw [kQ hp h.hd.1];exact h.hd.2⟩,fun j a hj hjl ha=>?_,fun q hq=>?_⟩
 ·rcases qM.1 hq with hq|⟨b,hb,rfl⟩
  ·exact h.lt q hq
  ·exact aH hd hin hb
 ·rw [kQ hp (show j < l.length by omega)]
  rcases Nat.lt_succ_iff_lt_or_eq.1 hj with hj|rfl
  ·exact qM.2 (.inl (h.cl j a hj (by omega) ha))
  ·exact qM.2 (.inr ⟨a,ha,rfl⟩)
 ·rcases qM.1 hq with hq|⟨b,hb,rfl⟩
  ·exact h.re q hq
  ·obtain ⟨w,hw,e⟩:=h.re _ hil
   refine ⟨w ++ [b],fun c hc=>?_,by rw [run_snoc,e]⟩
   rcases List.mem_append.1 hc with hc|hc
   ·exact hw c hc
   ·rw [List.mem_singleton] at hc;subst hc;exact hb
theorem pS {l:List Nat} {n:Nat} (h:l.Nodup) (hl:∀ q∈l,q < n):l.length≤n:=by
 have:=h.length_le_of_subset (fun q hq=>List.mem_range.2 (hl q hq))
 simpa using this
theorem AccI.start {d : DfaV} {n k : Nat} (hd : VD d n k) : AccI d n k 0 [st0 d] :=
 ⟨by simp, fun q hq => by rw [List.mem_singleton] at hq; subst hq; exact qAZ hd, ⟨by simp, by simp⟩, fun j a hj => by omega, fun q hq => by
  rw [List.mem_singleton] at hq; subst hq; exact ⟨[], fun a ha => by simp at ha, rfl⟩⟩
theorem qCC {d:DfaV} {n k:Nat} (hd:VD d n k):∀ f i l,AccI d n k i l→n≤i+f→AccI d n k n (eX d k f i l)∧(eX d k f i l).length≤n
 | 0,i,l,h,hf=>by
  have hl:=pS h.nd h.lt
  exact ⟨⟨h.nd,h.lt,h.hd,fun j a hj hjl ha=>h.cl j a (by omega) hjl ha,h.re⟩,hl⟩
 | f+1,i,l,h,hf=>by
  rw [eX]
  split
  ·rename_i hi
   exact qCC hd f (i+1) _ (h.row hd hi) (by omega)
  ·rename_i hi
   have hl:=pS h.nd h.lt
   exact ⟨⟨h.nd,h.lt,h.hd,fun j a hj hjl ha=>h.cl j a (by omega) hjl ha,h.re⟩,hl⟩
theorem tM {d:DfaV} {n k:Nat} (hd:VD d n k):AccI d n k n (vZ d k)∧(vZ d k).length≤n:=qCC hd _ _ _ (AccI.start hd) (by rw [hd.hn];omega)
theorem accGo_end {d:DfaV} {k f i:Nat} {l:List Nat} (h:¬ i < l.length):eX d k f i l=l:=by
 cases f with
 | zero=>rfl
 | succ f=>rw [eX,if_neg h]
def nI (l:List Nat) (q:Nat):Int:=if q∈l then (l.idxOf q:Int) else -1
def uK (l:List Nat) (r:List Int):List Int:=r.map fun s=>nI l s.toNat
def kH (d:DfaV) (k:Nat):DfaV:=⟨d.letters,0,(vZ d k).map fun q=>d.final.getD q false,(vZ d k).map fun q=>uK (vZ d k) (d.next.getD q [])⟩
section
variable {d:DfaV} {n k:Nat}
theorem qAW (hd:VD d n k) {i a:Nat} (hi:i < (vZ d k).length) (ha:a < k):ent (kH d k).next i a=(((vZ d k).idxOf (nx d ((vZ d k).getD i 0) a):Nat):Int):=by
 have hA:=(tM hd).1
 have hq:=hA.lt _ (show (vZ d k).getD i 0∈vZ d k by rw [zY hi];exact List.getElem_mem _)
 have hn:=(tM hd).2
 unfold ent kH
 rw [uF (x:=0) hi,uK,uF (x:=0) (by rw [hd.row _ hq];exact ha),nI,if_pos]
 ·rfl
 ·exact hA.cl i a (by omega) hi ha
theorem trim_vd (hd:VD d n k):VD (kH d k) (vZ d k).length k where
 hk:=hd.hk
 k1:=hd.k1
 k6:=hd.k6
 hn:=by simp [kH]
 n1:=(tM hd).1.hd.1
 n512:=Nat.le_trans (tM hd).2 hd.n512
 nl:=by simp [kH]
 s0:=by simp [kH]
 sn:=by have:=(tM hd).1.hd.1;simp only [kH];omega
 row:=fun i hi=>by
  have hA:=(tM hd).1
  have hq:=hA.lt _ (show (vZ d k).getD i 0∈vZ d k by rw [zY hi];exact List.getElem_mem _)
  simp only [kH]
  rw [uF (x:=0) hi,uK,List.length_map,hd.row _ hq]
 lo:=fun i a hi ha=>by rw [qAW hd hi ha];omega
 hi:=fun i a hi ha=>by
  have hn:=(tM hd).2
  rw [qAW hd hi ha]
  have:=List.idxOf_lt_length_of_mem ((tM hd).1.cl i a (by omega) hi ha)
  omega
end
def minD (d:DfaV) (k:Nat):DfaV:=kH (kJ d (sO d k)) k
def minN (d:DfaV) (k:Nat):Nat:=(vZ (kJ d (sO d k)) k).length
section
variable {d:DfaV} {n k:Nat}
theorem qBH (hd:VD d n k):VD (kJ d (sO d k)) (cls (sO d k)) k:=qCS hd (by rw [pJ,hd.hn]) (jU d k)
theorem min_vd (hd:VD d n k):VD (minD d k) (minN d k) k:=trim_vd (qBH hd)
theorem qCX (hd:VD d n k):minN d k≤n:=Nat.le_trans (tM (qBH hd)).2 (Nat.le_trans (qBX _) (by rw [pJ,hd.hn];exact Nat.le_refl _))
end
end Go.Proofs.YtdjhoadoiknaoaaDoor
namespace Go.Proofs.YtdjhoadoiknaoaaDoor
open Go.RowKit
def mG (B:Nat) (w:World) (v:Value) (d:DfaV):Prop:=∃ fv nv,v=.agg #[.int .i64 d.letters,.int .i64 d.start,fv,nv]∧Row B w fv (bls d.final)∧Mat B w nv d.next
theorem mG.kept {B:Nat} {w w':World} {v:Value} {d:DfaV} {row:Option Nat} (h:mG B w v d) (hg:w.grownBy w' row) (hr:∀ k,row=some k→B≤k):mG B w' v d:=by
 obtain ⟨fv,nv,h1,h2,h3⟩:=h
 exact ⟨fv,nv,h1,h2.kept hg hr,h3.kept hg hr⟩
theorem mG.mono {B B':Nat} {w:World} {v:Value} {d:DfaV} (h:mG B w v d) (hB:B≤B'):mG B' w v d:=by
 obtain ⟨fv,nv,h1,h2,h3⟩:=h
 exact ⟨fv,nv,h1,h2.mono hB,h3.mono hB⟩
theorem validD_letters {d:DfaV} (h:d.letters < 1∨6 < d.letters):sB d=1:=by rw [sB,if_pos h]
theorem validD_big {d:DfaV} (h:¬ (d.letters < 1∨6 < d.letters)) (h2:512 < d.final.length):sB d=3:=by rw [sB,if_neg h,if_pos h2]
theorem validD_shape {d:DfaV} (h:¬ (d.letters < 1∨6 < d.letters)) (h2:¬ 512 < d.final.length) (h3:d.final.length=0∨d.next.length≠d.final.length∨d.start < 0∨d.final.length≤d.start):sB d=4:=by rw [sB,if_neg h,if_neg h2,if_pos h3]
theorem jZ {d:DfaV} (h:¬ (d.letters < 1∨6 < d.letters)) (h2:¬ 512 < d.final.length) (h3:¬ (d.final.length=0∨d.next.length≠d.final.length∨d.start < 0∨d.final.length≤d.start)) {q:Nat} (hq:q < d.next.length) (hb:rowD d.letters d.final.length (d.next.getD q [])=false):sB d=4:=by
 rw [sB,if_neg h,if_neg h2,if_neg h3,if_neg]
 intro ha
 have:=List.all_eq_true.1 ha d.next[q] (List.getElem_mem hq)
 rw [zY hq,this] at hb;cases hb
theorem validD_ok {d:DfaV} (h:¬ (d.letters < 1∨6 < d.letters)) (h2:¬ 512 < d.final.length) (h3:¬ (d.final.length=0∨d.next.length≠d.final.length∨d.start < 0∨d.final.length≤d.start)) (ha:∀ q,q < d.next.length→rowD d.letters d.final.length (d.next.getD q [])=true):sB d=0:=by
 rw [sB,if_neg h,if_neg h2,if_neg h3,if_pos]
 rw [List.all_eq_true]
 intro r hr
 obtain ⟨q,hq,rfl⟩:=List.getElem_of_mem hr
 have:=ha q hq
 rwa [zY hq] at this
theorem rowD_len {k:Int} {n:Nat} {r:List Int} (h:(r.length:Int)≠k):rowD k n r=false:=by simp [rowD,h]
theorem qBD {k:Int} {n:Nat} {r:List Int} {y:Nat} (hy:y < r.length) (h:r.getD y 0 < 0∨n≤r.getD y 0):rowD k n r=false:=by
 rw [← Bool.not_eq_true]
 intro hr
 have:=(lP.1 hr).2 y hy
 omega
def DRows (d:DfaV) (k:Nat):Prop:=∀ x,x < k→rowD d.letters d.final.length (d.next.getD x [])=true
set_option maxHeartbeats 800000 in
theorem validate7_any (B:Nat) (w:World) (v:Value) (d:DfaV) (hB:B≤w.heap.size) (h:mG B w v d) :
  Calls Tryd.prog 44 #[v] w fun e w'=>e=.returned (.int .i64 (sB d))∧w.grownBy w' none:=by
 obtain ⟨fv,nv,rfl,hf,hn⟩:=h
 have hfl:=hf.len_le
 rw [vH] at hfl
 unfold maxLen at hfl
 have hnl:=hn.len_le
 unfold maxLen at hnl
 obtain ⟨fa,fc,rfl⟩:=hf.shape
 rw [vH] at hf ⊢
 obtain ⟨na,nc,rfl⟩:=hn.shape
 have HN:=Kh hn
 obtain ⟨n,hnn⟩:∃ n,n=d.final.length:=⟨_,rfl⟩
 obtain ⟨m,hmm⟩:∃ m,m=d.next.length:=⟨_,rfl⟩
 obtain ⟨L,hL⟩:∃ L,L=d.letters:=⟨_,rfl⟩
 obtain ⟨S,hS⟩:∃ S,S=d.start:=⟨_,rfl⟩
 rw [← hnn] at hfl ⊢
 rw [← hmm] at hnl HN ⊢
 rw [← hL,← hS]
 have HNN:=Kh hnn;have HMM:=Kh hmm;have HLL:=Kh hL;have HSS:=Kh hS
 clear hf hn hnn hmm hL hS
 obtain ⟨wA,hWA⟩:∃ wA,wA=w.alloc (.cells #[.int .i64 L,.int .i64 S,.slice fa n fc,.slice na m nc] 28):=⟨_,rfl⟩
 have hbox:wA.heap[w.heap.size]?=some (.cells #[.int .i64 L,.int .i64 S,.slice fa n fc,.slice na m nc] 28 (0,0)):=by rw [hWA];exact heap_alloc_new w _
 have hgA:w.grownBy wA none:=by rw [hWA];exact Ga w _ none
 have c0:=zI hbox 0 (by simp)
 have c1:=zI hbox 1 (by simp)
 have c2:=zI hbox 2 (by simp)
 have c3:=zI hbox 3 (by simp)
 simp only [List.getElem_toArray,List.getElem_cons_zero,List.getElem_cons_succ] at c0 c1 c2 c3
 have HGA:=Kh hgA;have HWA:=Kh hWA
 clear hbox hgA hWA
 by_cases hl:L < 1∨6 < L
 ·have HE:=Kh (validD_letters (d:=d) (by rw [← HLL.out];exact hl))
  have hm1:decide (1≤L∧L≤6)=false:=decide_eq_false (by omega)
  go_enter Tryd.func44,Tryd.ntmps44
  go_wp2_with fail
  rw [← HWA.out]
  refine (xD wA L).mono ?_
  rintro e w1 ⟨rfl,rfl⟩
  rw [hm1]
  go_wp2
  go_ret
  exact ⟨yH HE.out.symm,HGA.out⟩
 ·have hl1:1≤L:=by omega
  have hl6:L≤6:=by omega
  have HLT:Hid (¬ (d.letters < 1∨6 < d.letters)):=Kh (by rw [← HLL.out];exact hl)
  have hm1:decide (1≤L∧L≤6)=true:=decide_eq_true (by omega)
  clear hl
  by_cases h5:512 < n
  ·have HE:=Kh (validD_big HLT.out (by rw [← HNN.out];exact h5))
   go_enter Tryd.func44,Tryd.ntmps44
   go_wp2_with fail
   rw [← HWA.out]
   refine (xD wA L).mono ?_
   rintro e w1 ⟨rfl,rfl⟩
   rw [hm1]
   go_wp2
   go_ret
   exact ⟨yH HE.out.symm,HGA.out⟩
  ·have H5:Hid (¬ 512 < d.final.length):=Kh (by rw [← HNN.out];exact h5)
   by_cases hsh:n=0∨m≠n∨S < 0∨n≤S
   ·have HE:=Kh (validD_shape HLT.out H5.out (by rw [← HNN.out,← HMM.out,← HSS.out];exact hsh))
    by_cases h0:n=0
    ·have e0:((n:Int) == 0)=true:=by rw [beq_iff_eq];omega
     clear hsh h0
     go_enter Tryd.func44,Tryd.ntmps44
     go_wp2_with fail
     rw [← HWA.out]
     refine (xD wA L).mono ?_
     rintro e w1 ⟨rfl,rfl⟩
     rw [hm1]
     go_wp2
     go_ret
     exact ⟨yH HE.out.symm,HGA.out⟩
    ·have e0:((n:Int) == 0)=false:=by rw [beq_eq_false_iff_ne];omega
     by_cases hmn:m=n
     ·have e1:((m:Int) != n)=false:=by rw [hmn];simp
      have HMN:=Kh hmn
      by_cases hs:S < 0
      ·clear hsh hmn
       go_enter Tryd.func44,Tryd.ntmps44
       go_wp2_with fail
       rw [← HWA.out]
       refine (xD wA L).mono ?_
       rintro e w1 ⟨rfl,rfl⟩
       rw [hm1]
       go_wp2
       go_ret
       exact ⟨yH HE.out.symm,HGA.out⟩
      ·have hs2:(n:Int)≤S:=by omega
       clear hsh hmn
       go_enter Tryd.func44,Tryd.ntmps44
       go_wp2_with fail
       rw [← HWA.out]
       refine (xD wA L).mono ?_
       rintro e w1 ⟨rfl,rfl⟩
       rw [hm1]
       go_wp2
       go_ret
       exact ⟨yH HE.out.symm,HGA.out⟩
     ·have e1:((m:Int) != n)=true:=by rw [bne_iff_ne];omega
      clear hsh
      go_enter Tryd.func44,Tryd.ntmps44
      go_wp2_with fail
      rw [← HWA.out]
      refine (xD wA L).mono ?_
      rintro e w1 ⟨rfl,rfl⟩
      rw [hm1]
      go_wp2
      go_ret
      exact ⟨yH HE.out.symm,HGA.out⟩
   ·have HSH:Hid (¬ (d.final.length=0∨d.next.length≠d.final.length∨d.start < 0∨d.final.length≤d.start)):=Kh (by rw [← HNN.out,← HMM.out,← HSS.out];exact hsh)
    have h0:0 < n:=by omega
    have e0:((n:Int) == 0)=false:=by rw [beq_eq_false_iff_ne];omega
    have hmn:m=n:=by omega
    have e1:((m:Int) != n)=false:=by rw [hmn];simp
    have hs1:0≤S:=by omega
    have hs2:S < n:=by omega
    have hm0:0 < m:=by omega
    have hN2:Mat B wA (.slice na m nc) d.next:=HN.out.kept HGA.out (by simp)
    obtain ⟨b,off,cap,A,C,e,hc1,hc2,hma⟩:=hN2.some_ (by rw [← HMM.out];exact hm0)
    simp only [Value.slice.injEq] at e
    obtain ⟨rfl,-,rfl⟩:=e
    rw [← HMM.out] at hc1
    have hmx:nc≤9223372036854775807:=by unfold maxLen at hc2;omega
    have HM:=Kh hma
    have HMN:=Kh hmn
    clear hsh hmn hN2 hma
    go_enter Tryd.func44,Tryd.ntmps44
    go_wp2_with fail
    rw [← HWA.out]
    refine (xD wA L).mono ?_
    rintro e w1 ⟨rfl,rfl⟩
    rw [hm1]
    go_wp2
    go_loopg [40] m (fun g i wr=>∃ k:Nat,g+k=m∧i=.int .i64 k∧DRows d k∧wA=wr)
    case atStart=>exact ⟨0,rfl,rfl,fun x hx=>absurd hx (by omega),rfl⟩
    case round =>
     obtain ⟨k,hg,rfl,hok,rfl⟩:=hrel
     have OK:=Kh hok;have HG:=Kh hg
     clear hok hg
     by_cases hk:k < m
     ·have hkl:k < d.next.length:=by rw [← HMM.out];exact hk
      have hcx:=HM.out.hd k hkl
      have hrow:=HM.out.row k hkl
      have hrl:=hrow.len_le
      rw [zM] at hrl
      unfold maxLen at hrl
      obtain ⟨r,hr⟩:∃ r,r=d.next.getD k []:=⟨_,rfl⟩
      rw [← hr] at hcx hrow hrl
      have HR:=Kh hr;have HKL:=Kh hkl
      clear hr hkl
      by_cases hlr:(r.length:Int)=L
      ·have HLR:=Kh hlr
       have hl':((r.length:Int) != L)=false:=by rw [hlr];simp
       obtain ⟨rb,ro,rc,e,hb,h1,h2,hra⟩:=hrow.some_ (by rw [zM];omega)
       simp only [Value.slice.injEq] at e
       obtain ⟨eA,-,rfl⟩:=e
       rw [eA] at hcx
       rw [zM] at h1
       have HA:=Kh eA;have RA:=Kh hra
       clear eA hra hlr hrow
       go_wp2
       go_loopg [51] r.length (fun g j wr'=>∃ y:Nat,g+y=r.length∧j=.int .i64 y∧qAF n r y∧wA=wr')
       case atStart=>exact ⟨0,rfl,rfl,fun x hx=>absurd hx (by omega),rfl⟩
       case round =>
        obtain ⟨y,hg,rfl,hok,rfl⟩:=hrel
        have OKY:=Kh hok;have HG2:=Kh hg
        clear hok hg
        by_cases hy:y < r.length
        ·have hcy:=RA.out.int y hy
         obtain ⟨z,hz⟩:∃ z,z=r.getD y 0:=⟨_,rfl⟩
         rw [← hz] at hcy
         have HZ:=Kh hz
         clear hz
         by_cases hb1:z < 0
         ·have HE:=Kh (jZ HLT.out H5.out HSH.out HKL.out (by rw [← HR.out];exact qBD (y:=y) hy (by rw [← HZ.out];exact .inl hb1)))
          go_wp2
          go_ret
          exact ⟨yH HE.out.symm,HGA.out⟩
         ·by_cases hb2:(n:Int)≤z
          ·have HE:=Kh (jZ HLT.out H5.out HSH.out HKL.out (by rw [← HR.out];exact qBD (y:=y) hy (by rw [← HZ.out,← HNN.out];exact .inr hb2)))
           go_wp2
           go_ret
           exact ⟨yH HE.out.symm,HGA.out⟩
          ·go_wp2
           go_roundg (r.length - (y+1))
           case measure=>have:=HG2.out;omega
           case rel =>
            refine ⟨y+1,by omega,by go_num,fun x hx=>?_,rfl⟩
            rcases Nat.lt_succ_iff_lt_or_eq.1 hx with hx|rfl
            ·exact OKY.out x hx
            ·rw [← HZ.out];omega
        ·go_wp2
         go_roundg (m - (k+1))
         case measure=>have:=HG.out;omega
         case rel =>
          refine ⟨k+1,by omega,by go_num,fun x hx=>?_,rfl⟩
          rcases Nat.lt_succ_iff_lt_or_eq.1 hx with hx|rfl
          ·exact OK.out x hx
          ·rw [← HR.out,lP,← HNN.out,← HLL.out]
           exact ⟨HLR.out,fun z hz=>OKY.out z (by omega)⟩
      ·have hl':((r.length:Int) != L)=true:=by rw [bne_iff_ne];exact hlr
       have HE:=Kh (jZ HLT.out H5.out HSH.out HKL.out (by rw [← HR.out];exact rowD_len (by rw [← HLL.out];exact hlr)))
       clear hlr
       go_wp2
       go_ret
       exact ⟨yH HE.out.symm,HGA.out⟩
     ·have HE:=Kh (validD_ok HLT.out H5.out HSH.out (fun q hq=>OK.out q (by have:=HMM.out;omega)))
      go_wp2
      go_ret
      exact ⟨yH HE.out.symm,HGA.out⟩
end Go.Proofs.YtdjhoadoiknaoaaDoor
namespace Go.Proofs.YtdjhoadoiknaoaaDoor
open Go.RowKit Go.Maps
theorem kN:Tryd.prog.underlying 135=some (.map 3 3):=by kernel_rfl
theorem oO:Tryd.prog.underlying 3=some (.int .i64):=by kernel_rfl
theorem qAU (w:World):(zeroValue 3).run Tryd.prog w=.ok (.int .i64 0) w:=by kernel_rfl
def Mid (x:Int):Prop:=-4611686018427387904 < x∧x < 4611686018427387904
theorem qCY {x:Int} (hx:Mid x):(Lit.int .i64 x).wf=true:=by
 have h1:IntKind.i64.min = -9223372036854775808:=rfl
 have h2:IntKind.i64.max=9223372036854775807:=rfl
 obtain ⟨h3,h4⟩:=hx
 simp [Lit.wf];omega
theorem qCZ {x:Int} (hx:Mid x):keyOf Tryd.prog 3 (.int .i64 x)=some (.int .i64 x):=keyOf_int_mk (q:=.i64) (by kernel_rfl) (qCY hx)
def mA (w:World) (b n:Nat) (l:List Int):Prop :=
 ∃ D:DataW Unit,w.ownsMap Tryd.prog 3 (plainElem Tryd.prog 3) b n D∧size D=l.length ∧
  ∀ x:Int,Mid x→has D (.int .i64 x)=decide (x∈l)∧D.atKey (.int .i64 x) (.lit (.int .i64 0))=.lit (.int .i64 (if x∈l then ((l.idxOf x:Nat):Int) else 0))
theorem mA.made (w:World):mA (w.alloc (.map #[] 0)) w.heap.size 0 []:=by
 refine ⟨.map [],World.ownsMap_made _ _ _ _,rfl,fun x _=>⟨by simp [has_eq],?_⟩⟩
 rw [WideAt.atKey_none _ (by simp)]
 simp
theorem mA.kept {w w':World} {b n:Nat} {l:List Int} {row:Option Nat} (h:mA w b n l) (hg:w.grownBy w' row) (hne:row≠some b):mA w' b n l:=by
 obtain ⟨D,h1,h2,h3⟩:=h
 exact ⟨D,h1.kept hg (fun e=>hne e.symm),h2,h3⟩
theorem mA.mono {w:World} {b n n':Nat} {l:List Int} (h:mA w b n l) (hn:n≤n'):mA w b n' l:=by
 obtain ⟨D,h1,h2,h3⟩:=h
 exact ⟨D,h1.mono hn,h2,h3⟩
theorem mA.lt {w:World} {b n:Nat} {l:List Int} (h:mA w b n l):b < w.heap.size:=by
 obtain ⟨D,h1,_⟩:=h
 exact h1.lt
theorem mA.lookup {w:World} {b n:Nat} {l:List Int} (h:mA w b n l) {x:Int} (hx:Mid x):(Instr.lookup 135 (.map (some b)) (.int .i64 x) true).run Tryd.prog w=.ok (.tuple #[.int .i64 (if x∈l then ((l.idxOf x:Nat):Int) else 0),.bool (decide (x∈l))]) w:=by
 obtain ⟨D,h1,h2,h3⟩:=h
 obtain ⟨v,ps,hrun,hv⟩:=h1.look_ok eF kN (qAU w) (plainElem_int oO (by decide)) (qCZ hx)
 obtain ⟨c,rfl,hc,_⟩:=plainElem_int_inv oO hv
 obtain ⟨e1,e2⟩:=h3 x hx
 have e3:=congrArg Prod.fst hc
 simp only [e2] at e3
 rw [hrun,e1]
 have e4:(if x∈l then ((l.idxOf x:Nat):Int) else 0)=c:=by
  simp only [Lit.int.injEq,DataW.lit.injEq,true_and] at e3
  exact e3
 rw [e4]
theorem mA.len {w:World} {b n:Nat} {l:List Int} (h:mA w b n l):(Builtin.len_ #[135] 3 #[.map (some b)]).run Tryd.prog w=.ok (.int .i64 (l.length:Nat)) w:=by
 obtain ⟨D,h1,h2,h3⟩:=h
 have hrun:=h1.len kN 3
 rw [h2] at hrun
 exact hrun
theorem step_putNo {w:World} {ops:Array Oper} {rest:List Oper} {o:Oper} {a:Act} {Q:Exit→Act→World→Prop} (hg:o.guard=none) (m x v:Operand) (hop:o.op=Op.mapUpdate 135 m x v)
  (b n:Nat) (l:List Int) (z:Int) (hm:a.eval m=.map (some b)) (hx:a.eval x=.int .i64 z) (hv:a.eval v=.int .i64 (l.length:Nat)) (h:mA w b n l) (hn:n < maxLen) (hz:Mid z) (hnew:z ∉ l) (hll:l.length < 4611686018427387904)
  (hK:∀ w',mA w' b (n+1) (l ++ [z])→w.grownBy w' (some b)→wpList Tryd.prog ops Q rest (a.put o.dst undef) w') :
  wpList Tryd.prog ops Q (o :: rest) a w:=by
 obtain ⟨D,h1,h2,h3⟩:=h
 obtain ⟨w',hrun,hown,hgr⟩:=h1.update eF kN hn (qCZ hz) (plainElem_int oO (qCY (x:=((l.length:Nat):Int)) ⟨by omega,by omega⟩))
 have hkz:WideAt.IsKeyLit (.int .i64 z):=by simp [WideAt.IsKeyLit]
 refine wpList_plain hg fun K' hK'=>?_
 unfold Oper.wp
 simp [execOp,hop,hm,hx,hv,hrun,Result.andThen]
 refine hK' _ _ (hK w' ⟨_,hown,?_,fun y hy=>?_⟩ hgr)
 ·rw [size_put (h1.tidy eF),(h3 z hz).1,decide_eq_false hnew,h2];simp
 ·by_cases e:y=z
  ·subst e
   refine ⟨by rw [has_put_same h1.isMap hkz];simp,?_⟩
   rw [atKey_put_same h1.isMap hkz,if_pos (by simp),List.idxOf_append,if_neg hnew]
   simp
  ·have hne:(Lit.int .i64 y)≠Lit.int .i64 z:=by intro h;injection h with _ h;exact e h
   obtain ⟨e1,e2⟩:=h3 y hy
   refine ⟨by rw [has_put_other hne,e1];simp [e],?_⟩
   rw [atKey_put_other hne,e2]
   by_cases hyl:y∈l
   ·rw [if_pos hyl,if_pos (by simp [hyl]),List.idxOf_append,if_pos hyl]
   ·rw [if_neg hyl,if_neg (by simp [hyl,e])]
def uT (l:List Nat) (k:Nat):List Nat:=l.take k ++ List.replicate (l.length - k) 0
theorem pG (l:List Nat):uT l 0=List.replicate l.length 0:=by simp [uT]
theorem oQ (l:List Nat):uT l l.length=l:=by simp [uT]
theorem xI {l:List Nat} {k:Nat} (h:k≤l.length):(uT l k).length=l.length:=by simp [uT];omega
theorem oP {l:List Nat} {k:Nat} (h:k < l.length):(uT l k).set k (l.getD k 0)=uT l (k+1):=by
 have hl:(l.take k).length=k:=by simp;omega
 unfold uT
 rw [List.set_append_right _ _ (by omega),hl,Nat.sub_self,yG (d:=0) h,show l.length - k=(l.length - (k+1))+1 by omega,List.replicate_succ,List.set_cons_zero,List.append_assoc]
 rfl
def NumOk (w:World) (p:List Nat) (e:Ending) (w':World):Prop :=
 ∃ g,e=.returned (.slice (some ⟨g,0,none⟩) p.length p.length)∧w.heap.size≤g∧Arr w' g 3 (nats p)∧w.grownBy w' none
theorem numb_step {l:List Int} {k:Nat} (hk:k < l.length):(numb l).getD k 0=if l[k]∈yV (l.take k) then (yV (l.take k)).idxOf l[k] else (yV (l.take k)).length:=by
 rw [zY (by rw [xW];exact hk),lS hk,← numb_take hk,List.take_succ_eq_append_getElem hk,pF]
 by_cases h:l[k]∈yV (l.take k)
 ·rw [qO h,if_pos h]
 ·rw [qP h,if_neg h,List.idxOf_append,if_neg h];simp
set_option maxRecDepth 100000 in
set_option maxHeartbeats 800000 in
theorem dS (B:Nat) (w:World) (v:Value) (l:List Int) (hB:B≤w.heap.size) (h:Row B w v (ints l)) (hmid:∀ x∈l,Mid x) (hle:l.length≤100000) :
  Calls Tryd.prog 101 #[v] w (NumOk w (numb l)):=by
 have hmm:=@run_makeMap Tryd.prog
 obtain ⟨va,vc,rfl⟩:=h.shape
 rw [zM] at h ⊢
 have H:=Kh h;have HM:=Kh hmid
 clear h hmid
 obtain ⟨w1,hw1⟩:∃ w1,w1=w.alloc (.map #[] 0):=⟨_,rfl⟩
 have hg1:w.grownBy w1 none:=by rw [hw1];exact Ga w _ none
 have hz1:w1.heap.size=w.heap.size+1:=by rw [hw1,zO]
 have HM1:Hid (mA w1 w.heap.size 0 []):=Kh (by rw [hw1];exact mA.made w)
 have HG1:=Kh hg1;have HW1:=Kh hw1
 clear hg1 hw1
 go_enter Tryd.func101,Tryd.ntmps101
 go_upto_region 2 with fail
 rw [← HW1.out]
 go_wp2_with (first|(at_make;refine kB rfl _ _ _ rfl yC rfl .i64 .i64 _ _ l.length rfl rfl rfl rfl ?b1 ?b2 ?_)|fail)
 case b1=>omega
 case b2=>unfold maxLen;omega
 intro w2 harr hg2 hlt2
 have HA2:=Kh harr;have HG2:=Kh hg2
 have hz2:=hg2.size
 clear harr hg2
 obtain ⟨g,hg⟩:∃ g,g=w.heap.size+1:=⟨_,rfl⟩
 rw [← hg] at HA2 ⊢
 have hgg:w.heap.size < g:=by omega
 have hgl:g < w2.heap.size:=by omega
 clear hg hlt2
 go_wp2
 go_loopg [5,6,7,8,15] l.length (fun gh a5 a6 a7 a8 i wr=>∃ k:Nat,gh+k=l.length∧i=.int .i64 k∧Arr wr g 3 (nats (uT (numb l) k))∧mA wr w.heap.size k (yV (l.take k))∧w.grownBy wr none)
 case atStart=>exact ⟨0,rfl,rfl,by rw [pG,xW,wG];exact HA2.out,by simpa [yV] using HM1.out.kept HG2.out (by simp),zF HG1.out HG2.out⟩
 case round =>
  clear HA2 HG2
  obtain ⟨k,hg,rfl,harr,hmap,hgr⟩:=hrel
  have HG:=Kh hg;have HA:=Kh harr;have HMP:=Kh hmap;have HGR:=Kh hgr
  have hzr:=hgr.size
  have hln:(numb l).length=l.length:=xW l
  clear hg hmap
  by_cases hk:k < l.length
  ·have hk':(k:Int) < l.length:=by omega
   obtain ⟨ib,io,ic,e,_,_,_,hra⟩:=(H.out.kept hgr (by simp)).some_ (by rw [zM];omega)
   simp only [Value.slice.injEq] at e
   obtain ⟨rfl,-,-⟩:=e
   have ck:=hra.int k hk
   have hmk:Mid (l.getD k 0):=by rw [zY hk];exact HM.out _ (List.getElem_mem hk)
   have hns:=numb_step hk
   rw [← zY (d:=0) hk] at hns
   have hfk:yV (l.take (k+1))=tL (yV (l.take k)) (l.getD k 0):=by rw [List.take_succ_eq_append_getElem hk,pF,zY hk]
   obtain ⟨x,hx⟩:∃ x,x=l.getD k 0:=⟨_,rfl⟩
   rw [← hx] at ck hmk hns hfk
   have hlen:=qD (l.take k)
   rw [List.length_take] at hlen
   have hlk:=HMP.out.lookup hmk
   have hset:=oP (l:=numb l) (k:=k) (by omega)
   have hfz:=frozen_of_row wr g k
   have cgk:=harr.nat k (by rw [xI (by omega)];omega)
   have hfl:(nats (uT (numb l) k)).length=l.length:=by rw [zN,xI (by omega)];omega
   have fgk:=harr.frozen k
   clear hra hx hgr harr
   by_cases hin:x∈yV (l.take k)
   ·rw [if_pos hin,decide_eq_true hin] at hlk
    rw [if_pos hin] at hns
    have HFK:Hid (yV (l.take (k+1))=yV (l.take k)):=Kh (by rw [hfk,qO hin])
    obtain ⟨c,hc⟩:∃ c,c=(yV (l.take k)).idxOf x:=⟨_,rfl⟩
    rw [← hc] at hlk hns
    rw [hns] at hset
    have HS:=Kh hset
    clear hns hset hc hfk hin
    go_wp2
    go_roundg (l.length - (k+1))
    case measure=>have:=HG.out;omega
    case rel =>
     refine ⟨k+1,by omega,by go_num,?_,?_,?_⟩
     ·rw [← HS.out];exact HA.out.nat_set k (by rw [xI (by omega)];omega) c
     ·rw [HFK.out]
      exact (HMP.out.kept (zH wr ⟨g,k,none⟩ _) (by simp;omega)).mono (by omega)
     ·exact zG HGR.out (zH wr ⟨g,k,none⟩ _) (fun q e=>by have:=Oj e;simp at this;omega)
   ·rw [if_neg hin,decide_eq_false hin] at hlk
    rw [if_neg hin] at hns
    have HFK:Hid (yV (l.take (k+1))=yV (l.take k) ++ [x]):=Kh (by rw [hfk,qP hin])
    have HIN:=Kh hin;have HMK:=Kh hmk
    rw [hns] at hset
    have HS:=Kh hset
    clear hns hset hfk hin cgk fgk
    obtain ⟨L,hL⟩:∃ L,L=yV (l.take k):=⟨_,rfl⟩
    rw [← hL] at HMP HFK HIN HS hlen
    have hlr:=HMP.out.len
    clear hL
    go_wp2_with (first|(at_mapUpdate;refine step_putNo rfl _ _ _ rfl w.heap.size k L x rfl rfl rfl HMP.out (by unfold maxLen;omega) HMK.out HIN.out (by omega) ?_;intro w5 hmap5 hg5;(have ha5:=HA.out.kept hg5 (by simp;omega));(have HMP5:=Kh hmap5);(have HG5:=Kh hg5);(have HA5:=Kh ha5);(have fg5:=ha5.frozen k);(have cg5:=ha5.nat k (by rw [xI (by omega)];omega));clear hmap5 hg5 ha5)|fail)
    go_roundg (l.length - (k+1))
    case measure=>have:=HG.out;omega
    case rel =>
     have hz5:=HG5.out.size
     refine ⟨k+1,by omega,by go_num,?_,?_,?_⟩
     ·rw [← HS.out];exact HA5.out.nat_set k (by rw [xI (by omega)];omega) _
     ·rw [HFK.out]
      exact HMP5.out.kept (zH w5 ⟨g,k,none⟩ _) (by simp;omega)
     ·exact zG (zG HGR.out HG5.out (fun q e=>by have:=Oj e;omega)) (zH w5 ⟨g,k,none⟩ _) (fun q e=>by have:=Oj e;simp at this;omega)
  ·have hkl:k=l.length:=by have:=HG.out;omega
   have HE:Hid (uT (numb l) k=numb l):=Kh (by rw [hkl,← hln];exact oQ _)
   clear hkl harr
   go_wp2
   go_ret
   refine ⟨g,by rw [hln];rfl,by omega,?_,HGR.out⟩
   rw [← HE.out];exact HA.out
end Go.Proofs.YtdjhoadoiknaoaaDoor
namespace Go.Proofs.YtdjhoadoiknaoaaDoor
open Go.RowKit
def eU (p q:List Nat):List Nat:=List.zipWith (fun a b=>a * (p.length+1)+b) p q
theorem mZ {p q:List Nat} (h:q.length=p.length):(eU p q).length=p.length:=by simp [eU,h]
theorem bothN_ints {p q:List Nat}:nats (eU p q)=ints (kC p q):=by
 rw [tV]
 congr 1
 simp only [eU,kC,List.map_zipWith]
 congr 1
theorem bothN_get {p q:List Nat} (h:q.length=p.length) {k:Nat} (hk:k < p.length):(eU p q).getD k 0=p.getD k 0 * (p.length+1)+q.getD k 0:=by
 rw [zY (by rw [mZ h];exact hk),zY hk,zY (by omega)]
 simp [eU]
theorem bothL_mid {p q:List Nat} (hp:∀ c∈p,c < 100000) (hq:∀ c∈q,c < 100000) (hl:p.length≤100000):∀ x∈kC p q,Mid x:=by
 intro x hx
 obtain ⟨i,hi,rfl⟩:=List.getElem_of_mem hx
 simp only [kC,List.getElem_zipWith,aD]
 have h1:=hp _ (List.getElem_mem (l:=p) (n:=i) (by simp [kC] at hi;omega))
 have h2:=hq _ (List.getElem_mem (l:=q) (n:=i) (by simp [kC] at hi;omega))
 generalize p[i]'(by simp [kC] at hi;omega)=a at h1 ⊢
 generalize q[i]'(by simp [kC] at hi;omega)=b at h2 ⊢
 have:a * (p.length+1)≤100000 * 100001:=Nat.mul_le_mul (by omega) (by omega)
 have e:(a:Int) * ((p.length:Int)+1)+b=((a * (p.length+1)+b:Nat):Int):=by push_cast;rfl
 rw [e]
 constructor <;> omega
theorem wrap_both {a m X b:Nat} (hX:X=a * (m+1)) (hXl:X≤10000100000) (hb:b < 100000):wrap64 (wrap64 ((a:Int) * ((m:Int)+1))+(b:Int))=((X+b:Nat):Int):=by
 have hXc:(a:Int) * ((m:Int)+1)=(X:Int):=by rw [hX];push_cast;rfl
 clear hX
 rw [hXc]
 have h9:wrap64 (X:Int)=(X:Int):=IntWalk.wrap64_in _ (by omega)
 rw [h9,← Int.natCast_add]
 exact IntWalk.wrap64_in _ (by omega)
set_option maxRecDepth 100000 in
set_option maxHeartbeats 800000 in
theorem both_any (B C:Nat) (w:World) (va vb:Value) (p q:List Nat) (hB:B≤w.heap.size) (hC:C≤w.heap.size) (ha:Row B w va (nats p)) (hb:Row C w vb (nats q)) (hl:q.length=p.length) (h0:0 < p.length) (hp:∀ c∈p,c < 100000) (hq:∀ c∈q,c < 100000) (hle:p.length≤100000) :
  Calls Tryd.prog 102 #[va,vb] w (NumOk w (bK p q)):=by
 obtain ⟨pb,po,pc,rfl,hpB,hpc1,hpc2,hra⟩:=ha.some_ (by rw [zN];exact h0)
 obtain ⟨qb,qo,qc,rfl,hqC,hqc1,hqc2,hrb⟩:=hb.some_ (by rw [zN];omega)
 rw [zN] at hpc1 hqc1 ⊢
 rw [zN,hl]
 rw [hl] at hqc1
 have hmx1:pc≤9223372036854775807:=by unfold maxLen at hpc2;omega
 have hmx2:qc≤9223372036854775807:=by unfold maxLen at hqc2;omega
 have RA:=Kh hra;have RB:=Kh hrb;have HL:=Kh hl;have HP:=Kh hp;have HQ:=Kh hq
 have HMID:=Kh (bothL_mid hp hq hle)
 clear hra hrb hl hp hq ha hb
 go_enter Tryd.func102,Tryd.ntmps102
 go_wp2_with (first|(at_make;refine kB rfl _ _ _ rfl yC rfl .i64 .i64 _ _ p.length rfl rfl rfl rfl ?b1 ?b2 ?_)|fail)
 case b1=>omega
 case b2=>unfold maxLen;omega
 intro w2 harr hg2 hlt2
 have HA2:=Kh harr;have HG2:=Kh hg2
 clear harr hg2
 obtain ⟨g,hg⟩:∃ g,g=w.heap.size:=⟨_,rfl⟩
 have HGE:=Kh hg
 rw [← hg] at HA2 hlt2 hB hC ⊢
 clear hg
 go_wp2
 go_loopg [6,12] p.length (fun gh a6 i wr=>∃ k:Nat,gh+k=p.length∧i=.int .i64 k∧Arr wr g 3 (nats (uT (eU p q) k))∧w.grownBy wr none)
 case atStart=>exact ⟨0,rfl,rfl,by rw [pG,mZ HL.out,wG];exact HA2.out,HG2.out⟩
 case round =>
  clear HA2 HG2
  obtain ⟨k,hg,rfl,harr,hgr⟩:=hrel
  have HG:=Kh hg;have HA:=Kh harr;have HGR:=Kh hgr
  have hln:(eU p q).length=p.length:=mZ HL.out
  clear hg
  by_cases hk:k < p.length
  ·have hk':(k:Int) < p.length:=by omega
   have ca:=(RA.out.kept hgr (by simp)).nat k hk
   have cb:=(RB.out.kept hgr (by simp)).nat k (by rw [HL.out];exact hk)
   have hset:=oP (l:=eU p q) (k:=k) (by omega)
   rw [bothN_get HL.out hk] at hset
   have hpk:=lT (i:=k) HP.out (by omega)
   have hqk:=lT (i:=k) HQ.out (by omega)
   have cgk:=harr.nat k (by rw [xI (by omega)];omega)
   have fgk:=harr.frozen k
   obtain ⟨a,ha⟩:∃ a,a=p.getD k 0:=⟨_,rfl⟩
   obtain ⟨b,hb⟩:∃ b,b=q.getD k 0:=⟨_,rfl⟩
   rw [← ha] at ca hset hpk
   rw [← hb] at cb hset hqk
   obtain ⟨X,hX⟩:∃ X,X=a * (p.length+1):=⟨_,rfl⟩
   have hXl:X≤10000100000:=by
    have h8:a * (p.length+1)≤100000 * 100001:=Nat.mul_le_mul (by omega) (by omega)
    omega
   rw [← hX] at hset
   have hw:=wrap_both hX hXl hqk
   have HW:=Kh hw
   have HS:=Kh hset
   have ca':wr.drew.cell? ⟨pb,po+k,none⟩=some (.int .i64 (a:Int)):=ca
   have cb':wr.drew.cell? ⟨qb,qo+k,none⟩=some (.int .i64 (b:Int)):=cb
   have hpg:pb≠g:=by omega
   have hqg:qb≠g:=by omega
   have HS1:Hid (∀ u,((wr.setCell ⟨g,k,none⟩ u).drew.cell? ⟨pb,po+k,none⟩=some (.int .i64 (a:Int)))):=Kh (fun u=>by
    show (wr.setCell ⟨g,k,none⟩ u).cell? ⟨pb,po+k,none⟩=_
    rw [World.cell?_of_block ((zH wr ⟨g,k,none⟩ u).block pb (by have:=hgr.size;have:=HGE.out;omega) (by simp;omega))];exact ca)
   have HS2:Hid (∀ u,((wr.setCell ⟨g,k,none⟩ u).drew.cell? ⟨qb,qo+k,none⟩=some (.int .i64 (b:Int)))):=Kh (fun u=>by
    show (wr.setCell ⟨g,k,none⟩ u).cell? ⟨qb,qo+k,none⟩=_
    rw [World.cell?_of_block ((zH wr ⟨g,k,none⟩ u).block qb (by have:=hgr.size;have:=HGE.out;omega) (by simp;omega))];exact cb)
   clear ha hb hset hgr harr hX hw
   go_upto_region 5 with fail
   go_region_held3 (fun w'=>w'.cell? ⟨pb,po+k,none⟩=some (.int .i64 (a:Int))∧w'.cell? ⟨qb,qo+k,none⟩=some (.int .i64 (b:Int))) (first|exact ⟨ca',cb'⟩|exact ⟨HS1.out _,HS2.out _⟩|go_keep|fail) (fail)
   all_goals
    clear ca ca' cb cb' HS1 HS2 cgk fgk
    go_wp2
    go_roundg (p.length - (k+1))
    case measure=>have:=HG.out;omega
    case rel =>
     refine ⟨k+1,by omega,by go_num,?_,?_⟩
     ·rw [← HS.out]
      have h1:=HA.out.nat_set k (by rw [xI (by omega)];omega) (X+b)
      rw [HW.out]
      exact h1.of_heap rfl
     ·exact zP (zG HGR.out (zH wr ⟨g,k,none⟩ _) (fun q e=>by have h7:g=q:=Oj e;have:=HGE.out;omega)) rfl rfl rfl rfl
  ·have hkl:k=p.length:=by have:=HG.out;omega
   have HE:Hid (uT (eU p q) k=eU p q):=Kh (by rw [hkl,← hln];exact oQ _)
   clear hkl harr
   go_wp2_with fail
   rw [HE.out] at HA
   have HN:=Kh (dS (g+1) wr (.slice (some ⟨g,0,none⟩) p.length p.length) (kC p q) HA.out.lt (by
    rw [← bothN_ints]
    exact .inr ⟨g,0,p.length,by rw [zN,hln],by omega,by rw [zN,hln];exact Nat.le_refl _,by unfold maxLen;omega,HA.out.row⟩) HMID.out (by rw [pZ HL.out];exact hle))
   go_wp2_with fail
   refine HN.out.mono ?_
   rintro e w5 ⟨g5,rfl,hg5,ha5,hgr5⟩
   have hb8:numb (kC p q)=bK p q:=rfl
   have HA5:=Kh ha5;have HG5:=Kh hgr5
   clear ha5 hgr5
   go_wp2
   go_ret
   refine ⟨g5,rfl,?_,HA5.out,zF HGR.out HG5.out⟩
   have:=HGR.out.size
   omega
theorem eK {w:World} {b:Nat} {x y:Value} {e:Nat} (h:w.heap[b]?=some (.cells #[x,y] e (0,0))) (x' y':Value) :
  ((w.setCell ⟨b,0,none⟩ x').setCell ⟨b,1,none⟩ y').heap[b]?=some (.cells #[x',y'] e (0,0)):=by
 have h1:=heap_setCell_same w b 0 _ _ x' h
 have h2:=heap_setCell_same _ b 1 _ _ y' h1
 rw [h2];simp
set_option maxHeartbeats 800000 in
theorem eS (B:Nat) (w:World) (v iv:Value) (t:List (List Int)) (im:List Int) (hB:B≤w.heap.size) (h:Mat B w v t) (hi:Row B w iv (ints im)) (hT:TabOk w) :
  Calls Tryd.prog 16 #[v,iv] w (qAG w t im):=by
 have HBG:=Kh (begin_any B w v iv t im hB h hi hT)
 have H:=Kh h;have HI:=Kh hi;have HT:=Kh hT
 clear h hi hT
 go_enter Tryd.func16,Tryd.ntmps16
 go_wp2_with fail
 refine HBG.out.mono ?_
 rintro e w1 ⟨hg1,hc⟩
 have HG1:=Kh hg1
 have hz1:=hg1.size
 clear HBG hg1
 rcases hc with ⟨hz,rfl⟩|⟨hz,sa,sc,rfl,hown⟩
 ·obtain ⟨E,hE⟩:∃ E,E=yS t im:=⟨_,rfl⟩
  rw [← hE] at hz ⊢
  have HE:=Kh hE
  have e1:(E != 0)=true:=by rw [bne_iff_ne];exact hz
  clear hE
  go_wp2
  refine bodyPost_ret (v:=.tuple #[.slice none 0 0,.int .i64 E]) (by simp [results,Tryd.results16,go_sem]) rfl ?_
  exact ⟨zG HG1.out (Ga _ _ none) (by simp),.inl ⟨by rw [← HE.out];exact hz,by rw [← HE.out]⟩⟩
 ·have hgd:=uP.1 hz
  have HGD:=Kh hgd;have HZ:=Kh hz
  have hle:=hgd.le
  have hva:=hgd.valid
  have HTB:=Kh (oK hva)
  have HVA:=Kh hva
  have hpos:=fL hgd
  obtain ⟨k0,rfl,hsc1,hsc2,harr⟩:=yK hown hpos
  have hkl:=hown.lt k0 rfl
  obtain ⟨l0,hl0⟩:∃ l0,l0=uH t im:=⟨_,rfl⟩
  rw [← hl0] at hpos hown hsc1 harr ⊢
  have HOWN:=Kh hown
  have HL0:=Kh hl0
  have HF0:Hid (kD t.length (l0,false)):=Kh (by rw [hl0];exact gO hgd)
  clear hown harr hl0 hgd hva hz
  go_wp2_with fail
  obtain ⟨wA,hWA⟩:∃ wA,wA=w1.alloc (.cells #[.slice (some ⟨k0,0,none⟩) l0.length sc,.bool false] 49):=⟨_,rfl⟩
  have hrb:wA.heap[w1.heap.size]?=some (.cells #[.slice (some ⟨k0,0,none⟩) l0.length sc,.bool false] 49 (0,0)):=by rw [hWA];exact heap_alloc_new w1 _
  have hgA:w1.grownBy wA none:=by rw [hWA];exact Ga w1 _ none
  have hzA:wA.heap.size=w1.heap.size+1:=by rw [hWA,zO]
  rw [← hWA]
  have HGA:=Kh (zF HG1.out hgA);have HRA:=Kh hrb
  have HO:=Kh (yF HOWN.out hgA (by simp))
  have HTA:=Kh (HT.out.kept HGA.out (by simp))
  have hgt0:=HT.out.1
  have hgt:1 < wA.heap.size:=by omega
  refine (qZ B wA v t (by omega) (H.out.kept HGA.out (by simp)) HVA.out hle HTA.out).mono ?_
  rintro e w2 ⟨p,go,rfl,hs2,hg2⟩
  have hz2:=hg2.size
  have HS2:=Kh hs2
  have HHE:Hid (Held wA.heap.size w2.heap.size w1.heap.size w2 k0 sc l0):=Kh (Held.of_owns (yF HO.out hg2 (by simp)) hpos (.inl (by omega)) (by omega))
  have HRB:=Kh (zE hrb hg2 (by simp))
  have HGR:=Kh (zF HGA.out hg2)
  have HT2:=Kh (HTA.out.kept hg2 (by simp))
  have HGO:Hid (kV t.length (entN t) l0 l0 false):=Kh ⟨HF0.out,0,rfl⟩
  clear hWA hrb hgA HRA HO hs2 hg2 HOWN HTA HG1
  go_wp2_with fail
  go_loopg [] (togo t.length l0 false) (fun gh wr=>∃ (k sc:Nat) (l:List Nat) (d:Bool),gh=togo t.length l d∧kV t.length (entN t) l0 l d∧0 < l.length∧Held wA.heap.size w2.heap.size w1.heap.size wr k sc l∧vD wA.heap.size w2.heap.size wr p go t.length (entN t)∧w2.heap.size≤wr.heap.size∧TabOk wr∧w.grownBy wr none∧wr.heap[w1.heap.size]?=some (.cells #[.slice (some ⟨k,0,none⟩) l.length sc,.bool d] 49 (0,0)))
  case atStart=>exact ⟨k0,sc,l0,false,rfl,HGO.out,hpos,HHE.out,HS2.out,Nat.le_refl _,HT2.out,HGR.out,HRB.out⟩
  case round =>
   clear HGO HHE HS2 HT2 HGR HRB hsc1 hsc2
   obtain ⟨k,sc,l,d,hg,hgo,hl0,hhe,hs,hzr,hT,hgr,hrb⟩:=hrel
   have HG:=Kh hg;have HGO:=Kh hgo;have HHE:=Kh hhe;have HS:=Kh hs;have HTR:=Kh hT;have HGR:=Kh hgr;have HRB:=Kh hrb
   have cr0:=zI hrb 0 (by simp)
   have cr1:=zI hrb 1 (by simp)
   have fr0:=zD hrb 0
   have fr1:=zD hrb 1
   simp only [List.getElem_toArray,List.getElem_cons_zero,List.getElem_cons_succ] at cr0 cr1
   clear hg hgo hhe hs hT hgr hrb
   cases d with
   | false =>
    go_wp2_with fail
    have hgl:=HS.out.go_lt
    have hll:=HGO.out.le
    have hp4:=uR hle
    refine (aB wA.heap.size w2.heap.size wr.heap.size wr p go t.length (entN t) _ false l HS.out HTB.out hle HHE.out.rowO hl0 HGO.out.1.1 (by omega) (Nat.le_refl _) hzr hgt HTR.out).mono ?_
    rintro e w3 ⟨sa3,sc3,rfl,hown3,hs3,hg3⟩
    have hpos3:=gP HTB.out HGO.out.1.1 hl0
    obtain ⟨k3,rfl,hc1,hc2,_⟩:=yK hown3 hpos3
    have hk3:=hown3.lt k3 rfl
    have HM:Hid (togo t.length (zV t.length (entN t) l) (decide (zV t.length (entN t) l=l)) < togo t.length l false):=Kh (HGO.out.less HTB.out)
    have HGN:=Kh (HGO.out.step HTB.out)
    obtain ⟨R,hR⟩:∃ R,R=zV t.length (entN t) l:=⟨_,rfl⟩
    obtain ⟨D,hD⟩:∃ D,D=decide (zV t.length (entN t) l=l):=⟨_,rfl⟩
    rw [← hD,← hR] at HM HGN
    rw [← hD]
    rw [← hR] at hown3 hpos3 hc1 ⊢
    have hr3:=zE HRB.out hg3 (fun e=>by have:go=w1.heap.size:=Oj e;omega)
    have HR3:=Kh hr3
    have cr0':=zI hr3 0 (by simp)
    have cr1':=zI hr3 1 (by simp)
    have fr0':=zD hr3 0
    have fr1':=zD hr3 1
    simp only [List.getElem_toArray,List.getElem_cons_zero,List.getElem_cons_succ] at cr0' cr1'
    have HH3:Hid (Held wA.heap.size w2.heap.size w1.heap.size w3 k3 sc3 R):=Kh (Held.of_owns hown3 hpos3 (.inr (by omega)) (by omega))
    have HS3:=Kh hs3
    have HT3:=Kh (HTR.out.kept hg3 (fun e=>by have:=Oj e;omega))
    have hz3:=hg3.size
    have HG3:Hid (w.grownBy w3 none):=Kh (zG HGR.out hg3 (fun x e=>by have:go=x:=Oj e;omega))
    clear hown3 hs3 hg3 hr3 hR hD cr0 cr1 fr0 fr1
    go_wp2
    have hs5:w3.grownBy ((w3.setCell ⟨w1.heap.size,0,none⟩ (.slice (some ⟨k3,0,none⟩) R.length sc3)).setCell ⟨w1.heap.size,1,none⟩ (.bool D)) (some w1.heap.size) :=
     zF (zH w3 ⟨w1.heap.size,0,none⟩ _) (zH (w3.setCell ⟨w1.heap.size,0,none⟩ (.slice (some ⟨k3,0,none⟩) R.length sc3)) ⟨w1.heap.size,1,none⟩ _)
    have HR5:=Kh (eK HR3.out (.slice (some ⟨k3,0,none⟩) R.length sc3) (.bool D))
    have HG5:=Kh hs5
    clear hs5
    go_roundg (togo t.length R D)
    case measure=>rw [HG.out];exact HM.out
    case rel=>exact ⟨k3,sc3,R,D,rfl,HGN.out,hpos3,HH3.out.kept HG5.out (fun e=>by have:w1.heap.size=k3:=Oj e;omega),HS3.out.kept HG5.out (fun q e=>by have:w1.heap.size=q:=Oj e;omega),by have:=HG5.out.size;omega,HT3.out.kept HG5.out (fun e=>by have:=Oj e;omega),zG HG3.out HG5.out (fun x e=>by have:w1.heap.size=x:=Oj e;omega),HR5.out⟩
   | true =>
    go_wp2
    refine bodyPost_ret (v:=.tuple #[.slice (some ⟨k,0,none⟩) l.length sc,.int .i64 0]) (by simp [results,Tryd.results16,go_sem]) rfl ?_
    refine ⟨HGR.out,.inr ⟨HZ.out,_,rfl,?_⟩⟩
    have:=HGO.out.stop HTB.out HF0.out
    unfold tK
    rw [← HL0.out,← this]
    exact HHE.out.rowO.row
noncomputable def advE (t:List (List Int)) (im zs:List Int) (bud:Int):Int :=
 if yS t im≠0 then yS t im else if bud < 1∨1048576 < bud then 1 else if famB t.length zs=true then 0 else 8
theorem advE_check {t:List (List Int)} {im zs:List Int} {bud:Int} (h:yS t im≠0):advE t im zs bud=yS t im:=by rw [advE,if_pos h]
theorem advE_arg {t:List (List Int)} {im zs:List Int} {bud:Int} (h:yS t im=0) (hb:bud < 1∨1048576 < bud):advE t im zs bud=1:=by rw [advE,if_neg (by omega),if_pos hb]
theorem advE_fam {t:List (List Int)} {im zs:List Int} {bud:Int} (h:yS t im=0) (hb:¬ (bud < 1∨1048576 < bud)) (hf:famB t.length zs=false):advE t im zs bud=8:=by rw [advE,if_neg (by omega),if_neg hb,if_neg (by rw [hf];simp)]
theorem qDK {t:List (List Int)} {im zs:List Int} {bud:Int} (h:yS t im=0) (hb:¬ (bud < 1∨1048576 < bud)) (hf:famB t.length zs=true):advE t im zs bud=0:=by rw [advE,if_neg (by omega),if_neg hb,if_pos hf]
def advL (t:List (List Int)) (zs:List Int) (d:Bool) (bud:Int):List Nat × Bool:=yZ t.length (entN t) bud.toNat (natL zs,d)
def AdvOk (w:World) (t:List (List Int)) (im zs:List Int) (d:Bool) (bud:Int) (e:Ending) (w':World):Prop :=
 w.grownBy w' none∧((advE t im zs bud≠0∧e=.returned (.tuple #[.agg #[.slice none 0 0,.bool false],.int .i64 (advE t im zs bud)])) ∨
  (advE t im zs bud=0∧∃ v,e=.returned (.tuple #[.agg #[v,.bool (advL t zs d bud).2],.int .i64 0])∧Row w'.heap.size w' v (nats (advL t zs d bud).1)))
def Adv (n:Nat) (tb:Nat→Nat→Nat) (f0:List Nat × Bool) (k:Nat) (l:List Nat) (d:Bool):Prop:=kD n (l,d)∧yZ n tb k f0=(l,d)
theorem Adv.step {n:Nat} {tb:Nat→Nat→Nat} {f0:List Nat × Bool} {k:Nat} {l:List Nat} (ht:Tb n tb) (h:Adv n tb f0 k l false):Adv n tb f0 (k+1) (zV n tb l) (decide (zV n tb l=l)):=by
 obtain ⟨hf,hk⟩:=h
 refine ⟨nV ht hf,?_⟩
 rw [pQ,hk,uL];rfl
theorem Adv.stop {n:Nat} {tb:Nat→Nat→Nat} {f0:List Nat × Bool} {k m:Nat} {l:List Nat} (h:Adv n tb f0 k l true) (hkm:k≤m):yZ n tb m f0=(l,true):=by
 obtain ⟨j,rfl⟩:∃ j,m=k+j:=⟨m - k,by omega⟩
 rw [pQ,h.2,uM]
theorem Adv.le {n:Nat} {tb:Nat→Nat→Nat} {f0:List Nat × Bool} {k:Nat} {l:List Nat} {d:Bool} (h:Adv n tb f0 k l d):l.length≤2 ^ n:=by
 have:=gW n l
 rw [h.1.2] at this
 exact this
theorem qQ (w:World) (c1 c2:Array Value) (e:Nat):((w.alloc (.cells c1 e)).alloc (.cells c2 e)).heap[w.heap.size]?=some (.cells c1 e (0,0))∧((w.alloc (.cells c1 e)).alloc (.cells c2 e)).heap[w.heap.size+1]?=some (.cells c2 e (0,0))∧w.grownBy ((w.alloc (.cells c1 e)).alloc (.cells c2 e)) none∧((w.alloc (.cells c1 e)).alloc (.cells c2 e)).heap.size=w.heap.size+2:=by
 refine ⟨zE (heap_alloc_new w _) (Ga _ _ none) (by simp),?_,yA (Ga w _ none) _,by rw [zO,zO]⟩
 have:=heap_alloc_new (w.alloc (.cells c1 e)) (.cells c2 e)
 rw [zO] at this
 exact this
theorem qU {w wr:World} {b:Nat} (h:w.grownBy wr none) (hb:w.heap.size≤b) (x y:Value):w.grownBy ((wr.setCell ⟨b,0,none⟩ x).setCell ⟨b,1,none⟩ y) none :=
 zG h (zF (zH wr ⟨b,0,none⟩ x) (zH (wr.setCell ⟨b,0,none⟩ x) ⟨b,1,none⟩ y)) (fun q e=>by have:b=q:=Oj e;omega)
end Go.Proofs.YtdjhoadoiknaoaaDoor
