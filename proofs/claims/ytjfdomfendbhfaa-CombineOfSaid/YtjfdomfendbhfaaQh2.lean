/- Part 2 of the proof. -/
import Derived.Test.YtjfdomfendbhfaaQh1
import Derived.Maps.OwnSet
import Derived.Maps.OwnOps
import Derived.Deep.DeepCutAuto
import Derived.Deep.CutBlock
import Derived.Deep.RegionHeld3
import Derived.BigQuiet
set_option linter.unusedVariables false
set_option linter.unusedSimpArgs false
set_option maxRecDepth 100000
set_option maxHeartbeats 16000000
namespace Go.Proofs.Ytjfdomfendbhfaa
def xU {α:Type}[DecidableEq α](acc:List α)(x:α):List α:=if x∈acc then acc else acc++[x]
def yD {α:Type}[DecidableEq α](l:List α):List α:=l.foldl xU []
section
variable {α:Type} [DecidableEq α]
theorem uX {acc:List α}{x:α}(h:x∈acc):xU acc x=acc:=if_pos h
theorem vE {acc:List α}{x:α}(h:x ∉ acc):xU acc x=acc++[x]:=if_neg h
theorem mY {acc:List α}{x y:α}:y∈xU acc x↔y∈acc\/y=x:=by
 unfold xU
 split
 ·rename_i h
  exact⟨.inl,fun h'=>by rcases h' with h'|rfl<;>assumption⟩
 ·simp
theorem tM (l:List α)(x:α):yD (l++[x])=xU (yD l) x:=by simp[yD,List.foldl_append]
theorem mem_foldl_addNew (l:List α):∀(acc:List α) (y:α),y∈l.foldl xU acc↔y∈acc\/y∈l:=by
 induction l with
 | nil=>intro acc y;simp
 | cons a l ih=>intro acc y;rw[List.foldl_cons,ih,mY,List.mem_cons];exact or_assoc
theorem wO {l:List α}{y:α}:y∈yD l↔y∈l:=by rw[yD,mem_foldl_addNew];simp
theorem gE {acc:List α}{x:α}(h:acc.Nodup):(xU acc x).Nodup:=by
 unfold xU
 split
 ·exact h
 ·rename_i hx
  rw[List.nodup_append];exact⟨h,by simp,fun a ha b hb=>by rw[List.mem_singleton]at hb;subst hb;rintro rfl;exact hx ha⟩
theorem foldl_addNew_nodup (l:List α):∀ {acc:List α},acc.Nodup->(l.foldl xU acc).Nodup:=by
 induction l with
 | nil=>intro acc h;exact h
 | cons a l ih=>intro acc h;exact ih (gE h)
theorem rH (l:List α):(yD l).Nodup:=foldl_addNew_nodup l (by simp)
theorem nG (acc:List α)(x:α):acc <+: xU acc x:=by
 unfold xU;split
 ·exact List.prefix_refl _
 ·exact List.prefix_append _ _
theorem foldl_addNew_prefix (l:List α):∀(acc:List α),acc <+: l.foldl xU acc:=by
 induction l with
 | nil=>intro acc;exact List.prefix_refl _
 | cons a l ih=>intro acc;exact(nG acc a).trans (ih _)
theorem pE (l:List α)(k:Nat):yD (l.take k) <+: yD l:=by
 conv=>rhs;rw[<-List.take_append_drop k l]
 rw[yD,yD,List.foldl_append];exact foldl_addNew_prefix _ _
theorem tL (l:List α):(yD l).length<=l.length:=by
 have key:∀(l acc:List α),(l.foldl xU acc).length<=acc.length+l.length:=by
  intro l
  induction l with
  | nil=>intro acc;simp
  | cons a l ih =>
   intro acc;rw[List.foldl_cons];have h1:=ih (xU acc a);have h2:(xU acc a).length<=acc.length+1:=by unfold xU;split<;>simp
   rw[List.length_cons];omega
 simpa [yD] using key l []
theorem iZ {l m:List α}{x:α}(h:l <+: m)(hx:x∈l):m.idxOf x=l.idxOf x:=by
 obtain⟨r,rfl⟩:=h;rw[List.idxOf_append,if_pos hx]
theorem qCK {l:List α}{x y:α}(hx:x∈l)(h:l.idxOf x=l.idxOf y):x=y:=by
 have h1:=List.idxOf_lt_length_of_mem hx;have e1:=List.getElem_idxOf h1;have e2:=List.getElem_idxOf (show l.idxOf y<l.length by omega);rw[<-e1,<-e2];simp only[h]
def numb (l:List α):List Nat:=l.map fun x=>(yD l).idxOf x
theorem yV (l:List α):(numb l).length=l.length:=by simp[numb]
theorem qY {l:List α}{i:Nat}(h:i<l.length):(numb l)[i]'(by rw[yV];exact h)=(yD l).idxOf l[i]:=by simp[numb]
theorem qHA {l:List α}:∀c∈numb l,c<(yD l).length:=by
 intro c hc;obtain⟨x,hx,rfl⟩:=List.mem_map.1 hc;exact List.idxOf_lt_length_of_mem (wO.2 hx)
theorem oU {l:List α}{i j:Nat}(hi:i<l.length)(hj:j<l.length):(numb l).getD i 0=(numb l).getD j 0↔l[i]=l[j]:=by
 simp only[List.getD,List.getElem?_eq_getElem (show i<(numb l).length by rw[yV];exact hi),List.getElem?_eq_getElem (show j<(numb l).length by rw[yV];exact hj),Option.getD_some,qY hi,qY hj];exact⟨fun h=>qCK (wO.2 (List.getElem_mem hi)) h,fun h=>by rw[h]⟩
theorem qBU {l:List α}{k:Nat}(hk:k<l.length):(yD (l.take (k+1))).idxOf l[k]=(yD l).idxOf l[k]:=by
 refine(iZ (pE l (k+1)) (wO.2 ?_)).symm;rw[List.take_succ_eq_append_getElem hk];exact List.mem_append_right _ (List.mem_singleton_self _)
end
def SameKer (p q:List Nat):Prop:=p.length=q.length/\∀i j,i<p.length->j<p.length->(p.getD i 0=p.getD j 0↔q.getD i 0=q.getD j 0)
def Norm (p:List Nat):Prop:=numb p=p
theorem zG {α:Type}{l:List α}{i:Nat}{d:α}(h:i<l.length):l.getD i d=l[i]:=by simp[List.getD,List.getElem?_eq_getElem h]
theorem firsts_map_inj {α β:Type}[DecidableEq α][DecidableEq β](f:α->β)(l:List α)(h:∀x∈l,∀y∈l,f x=f y->x=y):yD (l.map f)=(yD l).map f:=by
 have key:∀(m acc:List α),(∀x∈acc++m,∀y∈acc++m,f x=f y->x=y)->(m.map f).foldl xU (acc.map f)=(m.foldl xU acc).map f:=by
  intro m
  induction m with
  | nil=>intro acc _;rfl
  | cons a m ih =>
   intro acc hh;rw[List.map_cons,List.foldl_cons,List.foldl_cons]
   have e:xU (acc.map f) (f a)=(xU acc a).map f:=by
    unfold xU;by_cases ha:a∈acc
    ·rw[if_pos ha,if_pos (List.mem_map_of_mem ha)]
    ·rw[if_neg ha,if_neg]
     ·simp
     ·intro hm
      obtain⟨b,hb,e⟩:=List.mem_map.1 hm;have:=hh b (by simp[hb]) a (by simp) e;subst this;exact ha hb
   rw[e];refine ih _ fun x hx y hy=>hh x ?_ y ?_
   ·rw[List.mem_append,mY]at hx;simp;rcases hx with (h|h)|h<;>simp[h]
   ·rw[List.mem_append,mY]at hy;simp;rcases hy with (h|h)|h<;>simp[h]
 have:=key l [] (by simpa using h);simpa [yD] using this
theorem idxOf_map_inj {α β:Type}[DecidableEq α][DecidableEq β](f:α->β)(l:List α)(x:α)(hx:x∈l)(h:∀y∈l,f y=f x->y=x):(l.map f).idxOf (f x)=l.idxOf x:=by
 induction l with
 | nil=>simp at hx
 | cons a l ih =>
  rw[List.map_cons,List.idxOf_cons,List.idxOf_cons];by_cases e:a=x
  ·subst e;simp
  ·have:f a≠f x:=fun h'=>e (h a (by simp) h')
   simp only[beq_eq_false_iff_ne.2 this,beq_eq_false_iff_ne.2 e,cond_false];rw[ih (by simpa [Ne.symm e] using hx) (fun y hy=>h y (by simp[hy]))]
theorem bR {α β:Type}[DecidableEq α][DecidableEq β]:∀(l:List α) (m:List β) (he:l.length=m.length),(∀i j (hi:i<l.length) (hj:j<l.length),(l[i]=l[j]↔m[i]'(by omega)=m[j]'(by omega)))->numb l=numb m:=by
 intro l m he h
 have key:∀(k:Nat) (hk:k<=l.length),∃ps:List (Fin l.length),yD (l.take k)=ps.map (fun i=>l[i])/\yD (m.take k)=ps.map (fun i=>m[i.1]'(by omega)):=by
  intro k
  induction k with
  | zero=>intro _;exact⟨[],by simp[yD],by simp[yD]⟩
  | succ k ih =>
   intro hk;obtain⟨ps,h1,h2⟩:=ih (by omega);have h3:k<l.length:=(by omega);rw[List.take_succ_eq_append_getElem h3,List.take_succ_eq_append_getElem (show k<m.length by omega),tM,tM,h1,h2]
   have h0:(l[k]∈ps.map (fun i=>l[i]))↔(m[k]'(by omega)∈ps.map (fun i=>m[i.1]'(by omega))):=by
    simp only[List.mem_map];constructor
    ·rintro ⟨i,hi,e⟩;exact⟨i,hi,(h i.1 k i.2 h3).1 e⟩
    ·rintro ⟨i,hi,e⟩;exact⟨i,hi,(h i.1 k i.2 h3).2 e⟩
   by_cases hm:l[k]∈ps.map (fun i=>l[i])
   ·exact⟨ps,uX hm,uX (h0.1 hm)⟩
   ·refine⟨ps++[⟨k,h3⟩],?_,?_⟩
    ·rw[vE hm];simp
    ·rw[vE (fun h'=>hm (h0.2 h'))];simp
 obtain⟨ps,h1,h2⟩:=key l.length (Nat.le_refl _);rw[List.take_length]at h1;rw[show m.take l.length=m from List.take_of_length_le (by omega)]at h2;refine List.ext_getElem (by simp[numb,he]) fun i hi _=>?_;rw[yV]at hi;rw[qY hi,qY (by omega),h1,h2]
 have aux:∀(qs:List (Fin l.length)),(qs.map (fun i=>l[i])).idxOf l[i]=(qs.map (fun i=>m[i.1]'(by omega))).idxOf (m[i]'(by omega)):=by
  intro qs
  induction qs with
  | nil=>simp
  | cons a qs ih =>
   rw[List.map_cons,List.map_cons,List.idxOf_cons,List.idxOf_cons,ih];have:=h a.1 i a.2 hi;by_cases e:l[a]=l[i]
   ·have e':=this.1 e
    simp only[beq_iff_eq.2 e,beq_iff_eq.2 e']
   ·have e':¬(m[a.1]'(by omega)=m[i]'(by omega)):=fun h'=>e (this.2 h')
    simp only[beq_eq_false_iff_ne.2 e,beq_eq_false_iff_ne.2 e']
 exact aux ps
theorem eG {α:Type}[DecidableEq α](l:List α):Norm (numb l):=by
 refine bR _ _ (yV l) fun i j hi hj=>?_;rw[yV]at hi hj;have:=oU (l:=l) hi hj;rw[zG (by rw[yV];exact hi),zG (by rw[yV];exact hj)]at this;exact this
theorem aW {p q:List Nat}(hp:Norm p)(hq:Norm q)(h:SameKer p q):p=q:=by
 rw[<-hp,<-hq];refine bR _ _ h.1 fun i j hi hj=>?_;have:=h.2 i j hi hj;rw[zG hi,zG hj,zG (by rw[<-h.1];exact hi),zG (by rw[<-h.1];exact hj)]at this;exact this
structure DfaV where
 letters:Int
 start:Int
 final:List Bool
 next:List (List Int)
def rowD (letters:Int)(n:Nat)(r:List Int):Bool:=decide ((r.length:Int)=letters) && r.all fun x=>decide (0<=x/\x<n)
def wI (d:DfaV):Int :=
 if d.letters<1\/6<d.letters then 1 else if 512<d.final.length then 3
 else if d.final.length=0\/d.next.length≠d.final.length\/d.start<0\/d.final.length<=d.start then 4
 else if d.next.all (rowD d.letters d.final.length) then 0 else 4
structure VD (d:DfaV)(n k:Nat):Prop where
 hk:d.letters=k
 k1:1<=k
 k6:k<=6
 hn:d.final.length=n
 n1:1<=n
 nbig:n<=4194304
 nl:d.next.length=n
 s0:0<=d.start
 sn:d.start<n
 row:∀q,q<n->(d.next.getD q []).length=k
 lo:∀q a,q<n->a<k->0<=ent d.next q a
 hi:∀q a,q<n->a<k->ent d.next q a<n
theorem oM {k:Int}{n:Nat}{r:List Int}:rowD k n r=true↔(r.length:Int)=k/\∀y,y<r.length->0<=r.getD y 0/\r.getD y 0<n:=by
 simp only[rowD,Bool.and_eq_true,decide_eq_true_eq,List.all_eq_true];refine and_congr_right fun _=>⟨fun h y hy=>?_,fun h x hx=>?_⟩
 ·have:=h (r[y]) (List.getElem_mem hy)
  rwa [<-zG (d:=0) hy]at this
 ·obtain⟨y,hy,rfl⟩:=List.getElem_of_mem hx
  have:=h y hy
  rwa [zG hy]at this
theorem aG {d:DfaV}(h:wI d=0):VD d d.final.length d.letters.toNat:=by
 unfold wI at h
 split at h
 ·omega
 rename_i h1
 split at h
 ·omega
 rename_i h2
 split at h
 ·omega
 rename_i h3
 split at h
 ·rename_i h4
  rw[List.all_eq_true]at h4
  have hr:∀q,q<d.next.length->rowD d.letters d.final.length (d.next.getD q [])=true:=fun q hq=>by
   rw[zG hq];exact h4 _ (List.getElem_mem hq)
  have h0:d.next.length=d.final.length:=by
   apply Classical.byContradiction;intro hh;exact h3 (.inr (.inl hh))
  refine⟨by omega,by omega,by omega,rfl,by omega,by omega,h0,by omega,by omega,fun q hq=>?_,fun q a hq ha=>?_,fun q a hq ha=>?_⟩
  ·have:=(oM.1 (hr q (by omega))).1;omega
  ·obtain⟨e,h⟩:=oM.1 (hr q (by omega))
   exact(h a (by omega)).1
  ·obtain⟨e,h⟩:=oM.1 (hr q (by omega))
   exact(h a (by omega)).2
 ·omega
theorem gZ {d:DfaV}{n k:Nat}(h:VD d n k)(h5:n<=512):wI d=0:=by
 unfold wI
 rw[if_neg (by have:=h.hk;have:=h.k1;have:=h.k6;omega),if_neg (by have:=h.hn;omega),
  if_neg (by have:=h.hn;have:=h.n1;have:=h.nl;have:=h.s0;have:=h.sn;omega),if_pos]
 rw[List.all_eq_true];intro r hr;obtain⟨q,hq,rfl⟩:=List.getElem_of_mem hr;have h0:q<n:=by have:=h.nl;omega
 rw[oM];have hl:=h.row q h0;rw[zG hq]at hl;refine⟨by rw[hl,h.hk],fun y hy=>?_⟩;have h1:=h.lo q y h0 (by omega);have h2:=h.hi q y h0 (by omega);unfold ent at h1 h2;rw[zG hq]at h1 h2;rw[h.hn];exact⟨h1,h2⟩
def nx (d:DfaV)(q a:Nat):Nat:=entN d.next q a
theorem qGZ {d:DfaV}{n k:Nat}(h:VD d n k){q a:Nat}(hq:q<n)(ha:a<k):(nx d q a:Int)=ent d.next q a:=Int.toNat_of_nonneg (h.lo q a hq ha)
theorem mA {d:DfaV}{n k:Nat}(h:VD d n k){q a:Nat}(hq:q<n)(ha:a<k):nx d q a<n:=by
 have h1:=qGZ h hq ha;have h2:=h.hi q a hq ha;omega
def st0 (d:DfaV):Nat:=d.start.toNat
theorem aJ {d:DfaV}{n k:Nat}(h:VD d n k):(st0 d:Int)=d.start:=Int.toNat_of_nonneg h.s0
theorem pU {d:DfaV}{n k:Nat}(h:VD d n k):st0 d<n:=by have:=aJ h;have:=h.sn;omega
def finB (b:Bool):Int:=if b then 1 else 0
def jA (d:DfaV):List Nat:=numb (d.final.map finB)
def mJ (d:DfaV)(p:List Nat)(a:Nat):List Nat:=(List.range p.length).map fun q=>p.getD (nx d q a) 0
def qBQ (m:Nat)(a b:Nat):Int:=(a:Int)*(m+1)+b
def lI (p q:List Nat):List Int:=List.zipWith (qBQ p.length) p q
def qAP (p q:List Nat):List Nat:=numb (lI p q)
def uR (d:DfaV)(p:List Nat):Nat->List Nat
 | 0=>p
 | k+1=>qAP (uR d p k) (mJ d p k)
theorem nZ (d:DfaV):(jA d).length=d.final.length:=by simp[jA,yV]
theorem rI (d:DfaV)(p:List Nat)(a:Nat):(mJ d p a).length=p.length:=by simp[mJ]
theorem pH {p q:List Nat}(h:q.length=p.length):(lI p q).length=p.length:=by simp[lI,h]
theorem both8_length {p q:List Nat}(h:q.length=p.length):(qAP p q).length=p.length:=by rw[qAP,yV,pH h]
theorem xD (d:DfaV)(p:List Nat):∀k,(uR d p k).length=p.length
 | 0=>rfl
 | k+1=>by rw[uR,both8_length (by rw[rI,xD d p k]),xD d p k]
theorem mB {p:List Nat}(h:Norm p):∀c∈p,c<p.length:=by
 intro c hc;have h1:=qHA (l:=p);rw[h]at h1;have:=h1 c hc;have:=tL p;omega
theorem pairNo_inj {m a b a' b':Nat}(hb:b<=m)(hb':b'<=m):qBQ m a b=qBQ m a' b'↔a=a'/\b=b':=by
 unfold qBQ;constructor
 ·intro h
  have h':a*(m+1)+b=a'*(m+1)+b':=by exact_mod_cast h
  have e1:(a*(m+1)+b) / (m+1)=a:=by rw[Nat.mul_comm,Nat.mul_add_div (by omega),Nat.div_eq_of_lt (by omega)];omega
  have e2:(a'*(m+1)+b') / (m+1)=a':=by rw[Nat.mul_comm,Nat.mul_add_div (by omega),Nat.div_eq_of_lt (by omega)];omega
  have ha:a=a':=by rw[<-e1,<-e2,h']
  subst ha;exact⟨rfl,by omega⟩
 ·rintro ⟨rfl,rfl⟩;rfl
theorem both8_iff {p q:List Nat}(h:q.length=p.length)(hq:∀c∈q,c<p.length){i j:Nat}(hi:i<p.length)(hj:j<p.length):(qAP p q).getD i 0=(qAP p q).getD j 0↔p.getD i 0=p.getD j 0/\q.getD i 0=q.getD j 0:=by
 have h1:i<(lI p q).length:=by rw[pH h];exact hi
 have h0:j<(lI p q).length:=by rw[pH h];exact hj
 rw[qAP,oU h1 h0];simp only[lI,List.getElem_zipWith];rw[pairNo_inj (Nat.le_of_lt (hq _ (List.getElem_mem _))) (Nat.le_of_lt (hq _ (List.getElem_mem _))),zG hi,zG hj,zG (show i<q.length by omega),zG (show j<q.length by omega)]
theorem dB {d:DfaV}{p:List Nat}{a i:Nat}(hi:i<p.length):(mJ d p a).getD i 0=p.getD (nx d i a) 0:=by
 rw[zG (by rw[rI];exact hi)];simp[mJ]
theorem qA {p:List Nat}{n i:Nat}(h:∀c∈p,c<n)(hn:0<n):p.getD i 0<n:=by
 by_cases hi:i<p.length
 ·rw[zG hi];exact h _ (List.getElem_mem hi)
 ·rw[List.getD,List.getElem?_eq_none (by omega)];exact hn
theorem qD {d:DfaV}{n k:Nat}(hd:VD d n k){p:List Nat}(hp:p.length=n)(hlt:∀c∈p,c<n){i j:Nat}(hi:i<n)(hj:j<n):
  ∀m,m<=k->((uR d p m).getD i 0=(uR d p m).getD j 0↔p.getD i 0=p.getD j 0/\∀a,a<m->p.getD (nx d i a) 0=p.getD (nx d j a) 0)
 | 0,_=>by simp[uR]
 | m+1,hm=>by
  rw[uR,both8_iff (by rw[rI,xD]) (fun c hc=>?_) (by rw[xD];omega) (by rw[xD];omega),qD hd hp hlt hi hj m (by omega),dB (by omega),dB (by omega)]
  ·constructor
   ·rintro ⟨⟨h1,h2⟩,h3⟩
    refine⟨h1,fun a ha=>?_⟩
    rcases Nat.lt_succ_iff_lt_or_eq.1 ha with ha|rfl
    ·exact h2 a ha
    ·exact h3
   ·rintro ⟨h1,h2⟩
    exact⟨⟨h1,fun a ha=>h2 a (by omega)⟩,h2 m (by omega)⟩
  ·rw[xD,hp]
   obtain⟨q,hq,rfl⟩:=List.mem_map.1 hc
   exact qA hlt hd.n1
theorem mS {d:DfaV}{p:List Nat}(hp:Norm p):∀m,Norm (uR d p m)
 | 0=>hp
 | m+1=>eG _
def cls (p:List Nat):Nat:=(yD p).length
theorem cls_mono {p q:List Nat}(hl:q.length=p.length)(h:∀i j,i<p.length->j<p.length->q.getD i 0=q.getD j 0->p.getD i 0=p.getD j 0):cls p<=cls q/\(cls p=cls q->∀i j,i<p.length->j<p.length->p.getD i 0=p.getD j 0->q.getD i 0=q.getD j 0):=by
 let f:Nat->Nat:=fun c=>p.getD (q.idxOf c) 0
 have hf:∀i,i<p.length->f (q.getD i 0)=p.getD i 0:=by
  intro i hi;have h9:i<q.length:=by omega
  have hm:q.getD i 0∈q:=by rw[zG h9];exact List.getElem_mem _
  have h8:=List.idxOf_lt_length_of_mem hm;refine h _ i (by omega) hi ?_;rw[zG h8,List.getElem_idxOf]
 have h3:∀c∈yD p,c∈(yD q).map f:=by
  intro c hc;obtain⟨i,hi,rfl⟩:=List.getElem_of_mem (wO.1 hc);rw[List.mem_map];refine⟨q.getD i 0,wO.2 (by rw[zG (by omega)];exact List.getElem_mem _),?_⟩;rw[hf i hi,zG hi]
 have h5:(yD p).length<=((yD q).map f).length:=(rH p).length_le_of_subset h3;rw[List.length_map]at h5;refine⟨h5,fun e i j hi hj hp=>?_⟩
 have h4:∀x∈yD q,∀y∈yD q,f x=f y->x=y:=by
  intro x hx y hy h6;apply Classical.byContradiction;intro h7
  have h0:∀c∈yD p,c∈((yD q).erase x).map f:=by
   intro c hc;obtain⟨z,hz,rfl⟩:=List.mem_map.1 (h3 c hc);by_cases e:z=x
   ·subst e
    exact List.mem_map.2 ⟨y,(List.mem_erase_of_ne (Ne.symm h7)).2 hy,h6.symm⟩
   ·exact List.mem_map.2 ⟨z,(List.mem_erase_of_ne e).2 hz,rfl⟩
  have h1:=(rH p).length_le_of_subset h0;rw[List.length_map,List.length_erase_of_mem hx]at h1;have h2:=List.length_pos_of_mem hx;unfold cls at e;omega
 have mem:∀i,i<p.length->q.getD i 0∈yD q:=fun i hi=>wO.2 (by rw[zG (by omega)];exact List.getElem_mem _);exact h4 _ (mem i hi) _ (mem j hj) (by rw[hf i hi,hf j hj,hp])
theorem mG {α:Type}{l:List α}{d:α}{q:Nat}(h:q<l.length):l.getD q d∈l:=by
 rw[List.getD_eq_getElem?_getD,List.getElem?_eq_getElem h];exact List.getElem_mem _
theorem gC (p:List Nat):cls p<=p.length:=tL p
theorem bL (d:DfaV):Norm (jA d):=eG _
def yX (d:DfaV)(k:Nat):Nat->List Nat
 | 0=>jA d
 | m+1=>uR d (yX d k m) k
theorem yZ (d:DfaV)(k:Nat):∀m,(yX d k m).length=d.final.length
 | 0=>nZ d
 | m+1=>by rw[yX,xD,yZ d k m]
theorem uW (d:DfaV)(k:Nat):∀m,Norm (yX d k m)
 | 0=>bL d
 | m+1=>mS (uW d k m) k
theorem qFQ (d:DfaV)(k m:Nat):∀c∈yX d k m,c<d.final.length:=by
 have:=mB (uW d k m)
 rwa [yZ]at this
theorem qAN {p:List Nat}(h:0<p.length):0<cls p:=by
 have hm:p[0]∈yD p:=wO.2 (List.getElem_mem h);exact List.length_pos_of_mem hm
theorem oP {d:DfaV}{n k:Nat}(hd:VD d n k){p:List Nat}(hp:p.length=n)(hn:Norm p)(hne:uR d p k≠p):cls p<cls (uR d p k):=by
 have h0:∀c∈p,c<n:=by have:=mB hn;rwa [hp]at this
 obtain⟨h1,h2⟩:=cls_mono (p:=p) (q:=uR d p k) (xD d p k) (fun i j hi hj h=>((qD hd hp h0 (by omega) (by omega) k (Nat.le_refl _)).1 h).1);refine Nat.lt_of_le_of_ne h1 fun e=>hne ?_;refine aW (mS hn k) hn ⟨xD d p k,fun i j hi hj=>?_⟩;rw[xD]at hi hj;exact⟨fun h=>((qD hd hp h0 (by omega) (by omega) k (Nat.le_refl _)).1 h).1,fun h=>h2 e i j hi hj h⟩
def yW (d:DfaV)(k:Nat):List Nat:=yX d k d.final.length
theorem qCV {d:DfaV}{k m:Nat}(h:uR d (yX d k m) k=yX d k m):∀j,m<=j->yX d k j=yX d k m
 | 0,hj=>by rw[show m=0 by omega]
 | j+1,hj=>by
  by_cases e:m=j+1
  ·rw[e]
  ·rw[yX,qCV h j (by omega),h]
theorem pO {d:DfaV}{k m:Nat}(hm:m<=d.final.length)(h:uR d (yX d k m) k=yX d k m):yW d k=yX d k m:=qCV h _ hm
theorem qFP {d:DfaV}{n k:Nat}(hd:VD d n k):∀m,(∃j,j<=m/\uR d (yX d k j) k=yX d k j)\/m<cls (yX d k m)
 | 0=>.inr (qAN (by rw[yZ,hd.hn];exact hd.n1))
 | m+1=>by
  rcases qFP hd m with ⟨j,hj,h⟩|h
  ·exact .inl ⟨j,by omega,h⟩
  ·by_cases e:uR d (yX d k m) k=yX d k m
   ·exact .inl ⟨m,by omega,e⟩
   ·have:=oP hd (by rw[yZ,hd.hn]) (uW d k m) e
    exact .inr (by rw[yX];omega)
theorem classesD_fix {d:DfaV}{n k:Nat}(hd:VD d n k):uR d (yW d k) k=yW d k:=by
 rcases qFP hd d.final.length with ⟨j,hj,h⟩|h
 ·rw[pO hj h,h]
 ·have:=gC (yX d k d.final.length)
  rw[yZ]at this;omega
theorem wV (d:DfaV)(k:Nat):(yW d k).length=d.final.length:=yZ _ _ _
theorem sI (d:DfaV)(k:Nat):Norm (yW d k):=uW _ _ _
theorem firsts_norm {p:List Nat}(h:Norm p):yD p=List.range (cls p):=by
 refine List.ext_getElem (by simp[cls]) fun i h1 h2=>?_;rw[List.getElem_range];have hm:=List.getElem_mem h1;obtain⟨q,hq,e⟩:=List.getElem_of_mem (wO.1 hm);have hh:(numb p)[q]'(by rw[yV];exact hq)=p[q]:=by simp only[show numb p=p from h]
 rw[qY hq,e]at hh;have h3:=List.idxOf_lt_length_of_mem hm;have h4:=List.getElem_idxOf h3;have:=(List.getElem_inj (rH p)).1 h4;omega
theorem nM {p:List Nat}(h:Norm p)(k:Nat):yD (p.take k)=List.range (cls (p.take k)):=by
 have h1:=pE p k;rw[firsts_norm h]at h1;obtain⟨r,hr⟩:=h1;refine List.ext_getElem (by simp[cls]) fun i h1 h2=>?_;rw[List.getElem_range];have:(yD (p.take k)++r)[i]'(by rw[List.length_append];omega)=i:=by simp only[hr,List.getElem_range]
 rwa [List.getElem_append_left h1]at this
theorem jD {p:List Nat}(h:Norm p){q:Nat}(hq:q<p.length):p.getD q 0<=cls (p.take q)/\(p.getD q 0=cls (p.take q)->cls (p.take (q+1))=cls (p.take q)+1)/\(p.getD q 0≠cls (p.take q)->cls (p.take (q+1))=cls (p.take q)):=by
 have h1:=nM h (q+1);have e:yD (p.take (q+1))=xU (yD (p.take q)) p[q]:=by rw[List.take_succ_eq_append_getElem hq,tM]
 have h0:=nM h q;rw[zG hq];by_cases hm:p[q]∈yD (p.take q)
 ·have h2:p[q]<cls (p.take q):=by rw[h0]at hm;exact List.mem_range.1 hm
  rw[uX hm]at e;have:cls (p.take (q+1))=cls (p.take q):=by unfold cls;rw[e]
  exact⟨by omega,fun h=>by omega,fun _=>this⟩
 ·rw[vE hm]at e
  have hc:cls (p.take (q+1))=cls (p.take q)+1:=by unfold cls;rw[e];simp
  have hl:p[q]=cls (p.take q):=by
   rw[h1,h0,hc,List.range_succ]at e;have:=List.append_cancel_left e;simpa using this.symm
  exact⟨by omega,fun _=>hc,fun h=>absurd hl h⟩
def tG (p:List Nat)(k:Nat):List Nat:=(List.range k).filter fun q=>p.getD q 0 == cls (p.take q)
theorem vX {p:List Nat}{k:Nat}(h:p.getD k 0=cls (p.take k)):tG p (k+1)=tG p k++[k]:=by
 rw[tG,List.range_succ,List.filter_append,List.filter_cons,if_pos (beq_iff_eq.2 h)];rfl
theorem vW {p:List Nat}{k:Nat}(h:p.getD k 0≠cls (p.take k)):tG p (k+1)=tG p k:=by
 rw[tG,List.range_succ,List.filter_append,List.filter_cons,if_neg (fun e=>h (beq_iff_eq.1 e)),List.filter_nil,List.append_nil];rfl
theorem uE {p:List Nat}(h:Norm p):∀k,k<=p.length->(tG p k).length=cls (p.take k)
 | 0,_=>by simp[tG,cls,yD]
 | k+1,hk=>by
  obtain⟨h0,h1,h2⟩:=jD h (show k<p.length by omega)
  have ih:=uE h k (by omega)
  by_cases e:p.getD k 0=cls (p.take k)
  ·rw[vX e,List.length_append,ih,h1 e];rfl
  ·rw[vW e,ih,h2 e]
theorem jZ {p:List Nat}(h:Norm p):∀k,k<=p.length->∀c,c<cls (p.take k)->p.getD ((tG p k).getD c 0) 0=c/\(tG p k).getD c 0<k
 | 0,_,c,hc=>by simp[cls,yD]at hc
 | k+1,hk,c,hc=>by
  obtain⟨h0,h1,h2⟩:=jD h (show k<p.length by omega)
  have hl:=uE h k (by omega)
  by_cases e:p.getD k 0=cls (p.take k)
  ·rw[h1 e]at hc
   rw[vX e]
   by_cases hc':c<cls (p.take k)
   ·have ih:=jZ h k (by omega) c hc'
    rw[show (tG p k++[k]).getD c 0=(tG p k).getD c 0 from by simp[List.getD,List.getElem?_append_left (show c<(tG p k).length by omega)]]
    exact⟨ih.1,by omega⟩
   ·have hc2:c=(tG p k).length:=by omega
    rw[show (tG p k++[k]).getD c 0=k from by simp[List.getD,hc2]]
    exact⟨by omega,by omega⟩
  ·rw[h2 e]at hc
   rw[vW e]
   have ih:=jZ h k (by omega) c hc
   exact⟨ih.1,by omega⟩
def reps (p:List Nat):List Nat:=tG p p.length
def vQ (p:List Nat)(r:List Int):List Int:=r.map fun s=>((p.getD s.toNat 0:Nat):Int)
def tA (d:DfaV)(p:List Nat):DfaV :=
 ⟨d.letters,((p.getD (st0 d) 0:Nat):Int),(reps p).map fun q=>d.final.getD q false,(reps p).map fun q=>vQ p (d.next.getD q [])⟩
theorem tI {α β:Type}{l:List α}{f:α->β}{i:Nat}{x:α}{y:β}(h:i<l.length):(l.map f).getD i y=f (l.getD i x):=by
 rw[zG (by simpa using h),zG h];simp
theorem iB {p:List Nat}{r:List Int}{a:Nat}(h:a<r.length):(vQ p r).getD a 0=((p.getD (r.getD a 0).toNat 0:Nat):Int):=by
 rw[vQ,tI (x:=0) h]
theorem qC {p:List Nat}(h:Norm p):(reps p).length=cls p:=by
 have:=uE h p.length (Nat.le_refl _)
 rwa [List.take_length]at this
theorem oO {p:List Nat}(h:Norm p){c:Nat}(hc:c<cls p):p.getD ((reps p).getD c 0) 0=c/\(reps p).getD c 0<p.length :=
 jZ h p.length (Nat.le_refl _) c (by rwa [List.take_length])
theorem qF {p:List Nat}(h:Norm p){i:Nat}(hi:i<p.length):p.getD i 0<cls p:=by
 have:=qHA (l:=p);rw[h]at this;rw[zG hi];exact this _ (List.getElem_mem hi)
section
variable {d:DfaV} {n k:Nat} {p:List Nat}
theorem aS (hd:VD d n k)(hp:p.length=n)(hn:Norm p){c a:Nat}(hc:c<cls p)(ha:a<k):ent (tA d p).next c a=((p.getD (nx d ((reps p).getD c 0) a) 0:Nat):Int):=by
 have hr:=oO hn hc;unfold ent tA;rw[tI (x:=0) (by rw[qC hn];exact hc),iB (by rw[hd.row _ (by omega)];exact ha)];rfl
theorem qDG (hd:VD d n k)(hp:p.length=n)(hn:Norm p):VD (tA d p) (cls p) k where
 hk:=hd.hk
 k1:=hd.k1
 k6:=hd.k6
 hn:=by simp[tA,qC hn]
 n1:=qAN (by rw[hp];exact hd.n1)
 nbig:=Nat.le_trans (gC p) (by rw[hp];exact hd.nbig)
 nl:=by simp[tA,qC hn]
 s0:=by simp[tA]
 sn:=by
  have:=qF hn (i:=st0 d) (by rw[hp];exact pU hd);simp only[tA];omega
 row:=fun c hc=>by
  simp only[tA];rw[tI (x:=0) (by rw[qC hn];exact hc)];have hr:=oO hn hc;rw[vQ,List.length_map,hd.row _ (by omega)]
 lo:=fun c a hc ha=>by rw[aS hd hp hn hc ha];omega
 hi:=fun c a hc ha=>by
  rw[aS hd hp hn hc ha];have hr:=oO hn hc;have:=qF hn (i:=nx d ((reps p).getD c 0) a) (by rw[hp];exact mA hd (by omega) ha);omega
theorem quot_nx (hd:VD d n k)(hp:p.length=n)(hn:Norm p)(hst:uR d p k=p){q a:Nat}(hq:q<n)(ha:a<k):nx (tA d p) (p.getD q 0) a=p.getD (nx d q a) 0:=by
 have h0:∀c∈p,c<n:=by have:=mB hn;rwa [hp]at this
 have hc:=qF hn (i:=q) (by omega);have hr:=oO hn hc;have h1:=qD hd hp h0 (i:=(reps p).getD (p.getD q 0) 0) (j:=q) (by omega) hq k (Nat.le_refl _);rw[hst]at h1;have h2:=(h1.1 hr.1).2 a ha;show (ent (tA d p).next (p.getD q 0) a).toNat=_;rw[aS hd hp hn hc ha,h2];simp
end
def run (d:DfaV)(q:Nat)(w:List Nat):Nat:=w.foldl (nx d) q
def yO (k:Nat)(w:List Nat):Prop:=∀a∈w,a<k
theorem cY {d:DfaV}{n k:Nat}(hd:VD d n k):∀(w:List Nat) {q:Nat},q<n->yO k w->run d q w<n
 | [],q,hq,_=>hq
 | a::w,q,hq,hw=>cY hd w (mA hd hq (hw a (by simp))) (fun b hb=>hw b (by simp[hb]))
theorem aN (d:DfaV)(q:Nat)(w:List Nat)(a:Nat):run d q (w++[a])=nx d (run d q w) a:=by simp[run]
theorem run_append (d:DfaV)(q:Nat)(u v:List Nat):run d q (u++v)=run d (run d q u) v:=by simp[run]
theorem qEI {d:DfaV}{n k:Nat}{p:List Nat}(hd:VD d n k)(hp:p.length=n)(hn:Norm p)(hst:uR d p k=p):∀(w:List Nat) {q:Nat},q<n->yO k w->run (tA d p) (p.getD q 0) w=p.getD (run d q w) 0
 | [],q,_,_=>rfl
 | a::w,q,hq,hw=>by
  have ha:=hw a (by simp)
  show run (tA d p) (nx (tA d p) (p.getD q 0) a) w=p.getD (run d (nx d q a) w) 0
  rw[quot_nx hd hp hn hst hq ha]
  exact qEI hd hp hn hst w (mA hd hq ha) (fun b hb=>hw b (by simp[hb]))
def wX (d:DfaV)(l:List Nat)(i:Nat):Nat->List Nat
 | 0=>l
 | a+1=>xU (wX d l i a) (nx d (l.getD i 0) a)
def rQ (d:DfaV)(k:Nat):Nat->Nat->List Nat->List Nat
 | 0,_,l=>l
 | f+1,i,l=>if i<l.length then rQ d k f (i+1) (wX d l i k) else l
def zZ (d:DfaV)(k:Nat):List Nat:=rQ d k d.final.length 0 [st0 d]
theorem uY (d:DfaV)(l:List Nat)(i:Nat):∀a,l <+: wX d l i a
 | 0=>List.prefix_refl _
 | a+1=>(uY d l i a).trans (nG _ _)
theorem mO {d:DfaV}{l:List Nat}(h:l.Nodup)(i:Nat):∀a,(wX d l i a).Nodup
 | 0=>h
 | a+1=>gE (mO h i a)
theorem tT {d:DfaV}{l:List Nat}{i:Nat}{y:Nat}:∀ {a},y∈wX d l i a↔y∈l\/∃b,b<a/\y=nx d (l.getD i 0) b
 | 0=>by simp[wX]
 | a+1=>by
  rw[wX,mY,tT,or_assoc]
  refine or_congr_right ⟨?_,?_⟩
  ·rintro (⟨b,hb,h⟩|h)
   ·exact⟨b,by omega,h⟩
   ·exact⟨a,by omega,h⟩
  ·rintro ⟨b,hb,h⟩
   rcases Nat.lt_succ_iff_lt_or_eq.1 hb with hb|rfl
   ·exact .inl ⟨b,hb,h⟩
   ·exact .inr h
structure AccI (d:DfaV)(n k i:Nat)(l:List Nat):Prop where
 nd:l.Nodup
 lt:∀q∈l,q<n
 hd:0<l.length/\l.getD 0 0=st0 d
 cl:∀j a,j<i->j<l.length->a<k->nx d (l.getD j 0) a∈l
 re:∀q∈l,∃w,yO k w/\run d (st0 d) w=q
theorem qK {l m:List Nat}(h:l <+: m){i:Nat}(hi:i<l.length):m.getD i 0=l.getD i 0:=by
 obtain⟨r,rfl⟩:=h;simp[List.getD,List.getElem?_append_left hi]
theorem AccI.row {d:DfaV}{n k i:Nat}{l:List Nat}(hd:VD d n k)(h:AccI d n k i l)(hi:i<l.length):AccI d n k (i+1) (wX d l i k):=by
 have hp:=uY d l i k;have h2:=hp.length_le;have h0:l.getD i 0∈l:=by rw[zG hi];exact List.getElem_mem _
 have h1:=h.lt _ h0;refine⟨mO h.nd i k,fun q hq=>?_,⟨by have:=h.hd.1;omega,by rw[qK hp h.hd.1];exact h.hd.2⟩,fun j a hj hjl ha=>?_,fun q hq=>?_⟩
 ·rcases tT.1 hq with hq|⟨b,hb,rfl⟩
  ·exact h.lt q hq
  ·exact mA hd h1 hb
 ·rw[qK hp (show j<l.length by omega)]
  rcases Nat.lt_succ_iff_lt_or_eq.1 hj with hj|rfl
  ·exact tT.2 (.inl (h.cl j a hj (by omega) ha))
  ·exact tT.2 (.inr ⟨a,ha,rfl⟩)
 ·rcases tT.1 hq with hq|⟨b,hb,rfl⟩
  ·exact h.re q hq
  ·obtain⟨w,hw,e⟩:=h.re _ h0
   refine⟨w++[b],fun c hc=>?_,by rw[aN,e]⟩;rcases List.mem_append.1 hc with hc|hc
   ·exact hw c hc
   ·rw[List.mem_singleton]at hc;subst hc;exact hb
theorem mW {l:List Nat}{n:Nat}(h:l.Nodup)(hl:∀q∈l,q<n):l.length<=n:=by
 have:=h.length_le_of_subset (fun q hq=>List.mem_range.2 (hl q hq));simpa using this
theorem AccI.start {d:DfaV}{n k:Nat}(hd:VD d n k):AccI d n k 0 [st0 d] :=
 ⟨by simp,fun q hq=>by rw[List.mem_singleton]at hq;subst hq;exact pU hd,⟨by simp,by simp⟩,fun j a hj=>by omega,fun q hq=>by
  rw[List.mem_singleton]at hq;subst hq;exact⟨[],fun a ha=>by simp at ha,rfl⟩⟩
theorem qFY {d:DfaV}{n k:Nat}(hd:VD d n k):∀f i l,AccI d n k i l->n<=i+f->AccI d n k n (rQ d k f i l)/\(rQ d k f i l).length<=n
 | 0,i,l,h,hf=>by
  have hl:=mW h.nd h.lt
  exact⟨⟨h.nd,h.lt,h.hd,fun j a hj hjl ha=>h.cl j a (by omega) hjl ha,h.re⟩,hl⟩
 | f+1,i,l,h,hf=>by
  rw[rQ]
  split
  ·rename_i hi
   exact qFY hd f (i+1) _ (h.row hd hi) (by omega)
  ·rename_i hi
   have hl:=mW h.nd h.lt
   exact⟨⟨h.nd,h.lt,h.hd,fun j a hj hjl ha=>h.cl j a (by omega) hjl ha,h.re⟩,hl⟩
theorem xV {d:DfaV}{n k:Nat}(hd:VD d n k):AccI d n k n (zZ d k)/\(zZ d k).length<=n:=qFY hd _ _ _ (AccI.start hd) (by rw[hd.hn];omega)
theorem dU {d:DfaV}{k f i:Nat}{l:List Nat}(h:¬i<l.length):rQ d k f i l=l:=by
 cases f with
 | zero=>rfl
 | succ f=>rw[rQ,if_neg h]
def rK (l:List Nat)(q:Nat):Int:=if q∈l then (l.idxOf q:Int) else -1
def xW (l:List Nat)(r:List Int):List Int:=r.map fun s=>rK l s.toNat
def xY (d:DfaV)(k:Nat):DfaV:=⟨d.letters,0,(zZ d k).map fun q=>d.final.getD q false,(zZ d k).map fun q=>xW (zZ d k) (d.next.getD q [])⟩
section
variable {d:DfaV} {n k:Nat}
theorem kQ (hd:VD d n k){i a:Nat}(hi:i<(zZ d k).length)(ha:a<k):ent (xY d k).next i a=(((zZ d k).idxOf (nx d ((zZ d k).getD i 0) a):Nat):Int):=by
 have hA:=(xV hd).1;have hq:=hA.lt _ (show (zZ d k).getD i 0∈zZ d k by rw[zG hi];exact List.getElem_mem _);have hn:=(xV hd).2;unfold ent xY;rw[tI (x:=0) hi,xW,tI (x:=0) (by rw[hd.row _ hq];exact ha),rK,if_pos]
 ·rfl
 ·exact hA.cl i a (by omega) hi ha
theorem lW (hd:VD d n k):VD (xY d k) (zZ d k).length k where
 hk:=hd.hk
 k1:=hd.k1
 k6:=hd.k6
 hn:=by simp[xY]
 n1:=(xV hd).1.hd.1
 nbig:=Nat.le_trans (xV hd).2 hd.nbig
 nl:=by simp[xY]
 s0:=by simp[xY]
 sn:=by have:=(xV hd).1.hd.1;simp only[xY];omega
 row:=fun i hi=>by
  have hA:=(xV hd).1
  have hq:=hA.lt _ (show (zZ d k).getD i 0∈zZ d k by rw[zG hi];exact List.getElem_mem _)
  simp only[xY]
  rw[tI (x:=0) hi,xW,List.length_map,hd.row _ hq]
 lo:=fun i a hi ha=>by rw[kQ hd hi ha];omega
 hi:=fun i a hi ha=>by
  have hn:=(xV hd).2
  rw[kQ hd hi ha]
  have:=List.idxOf_lt_length_of_mem ((xV hd).1.cl i a (by omega) hi ha)
  omega
theorem qGK (hd:VD d n k){i a:Nat}(hi:i<(zZ d k).length)(ha:a<k):nx (xY d k) i a=(zZ d k).idxOf (nx d ((zZ d k).getD i 0) a):=by
 show (ent (xY d k).next i a).toNat=_;rw[kQ hd hi ha];simp
theorem qDX (hd:VD d n k):∀(w:List Nat) {i:Nat},i<(zZ d k).length->yO k w->(zZ d k).getD (run (xY d k) i w) 0=run d ((zZ d k).getD i 0) w
 | [],i,_,_=>rfl
 | a::w,i,hi,hw=>by
  have ha:=hw a (by simp)
  have hn:=(xV hd).2
  have hm:=(xV hd).1.cl i a (by omega) hi ha
  have hlt:=List.idxOf_lt_length_of_mem hm
  have h:=qDX hd w (i:=nx (xY d k) i a) (by rw[qGK hd hi ha];exact hlt) (fun b hb=>hw b (by simp[hb]))
  show (zZ d k).getD (run (xY d k) (nx (xY d k) i a) w) 0=run d (nx d ((zZ d k).getD i 0) a) w
  rw[h,qGK hd hi ha,zG hlt,List.getElem_idxOf]
theorem jW (hd:VD d n k){i:Nat}(hi:i<(zZ d k).length):(xY d k).final.getD i false=d.final.getD ((zZ d k).getD i 0) false:=by
 simp only[xY];rw[tI (x:=0) hi]
end
def minD (d:DfaV)(k:Nat):DfaV:=xY (tA d (yW d k)) k
def minN (d:DfaV)(k:Nat):Nat:=(zZ (tA d (yW d k)) k).length
section
variable {d:DfaV} {n k:Nat}
theorem kX (hd:VD d n k):VD (tA d (yW d k)) (cls (yW d k)) k:=qDG hd (by rw[wV,hd.hn]) (sI d k)
theorem eK (hd:VD d n k):VD (minD d k) (minN d k) k:=lW (kX hd)
theorem qHE (hd:VD d n k):minN d k<=n:=Nat.le_trans (xV (kX hd)).2 (Nat.le_trans (gC _) (by rw[wV,hd.hn];exact Nat.le_refl _))
end
open Go.RowKit
def tE (B:Nat)(w:World)(v:Value)(d:DfaV):Prop:=∃fv nv,v=.agg #[.int .i64 d.letters,.int .i64 d.start,fv,nv]/\Row B w fv (bls d.final)/\Mat B w nv d.next
theorem tE.kept {B:Nat}{w w':World}{v:Value}{d:DfaV}{row:Option Nat}(h:tE B w v d)(hg:w.grownBy w' row)(hr:∀k,row=some k->B<=k):tE B w' v d:=by
 obtain⟨fv,nv,h1,h2,h3⟩:=h;exact⟨fv,nv,h1,h2.kept hg hr,h3.kept hg hr⟩
theorem tE.mono {B B':Nat}{w:World}{v:Value}{d:DfaV}(h:tE B w v d)(hB:B<=B'):tE B' w v d:=by
 obtain⟨fv,nv,h1,h2,h3⟩:=h;exact⟨fv,nv,h1,h2.mono hB,h3.mono hB⟩
theorem lK {d:DfaV}(h:d.letters<1\/6<d.letters):wI d=1:=by rw[wI,if_pos h]
theorem cL {d:DfaV}(h:¬(d.letters<1\/6<d.letters))(h2:512<d.final.length):wI d=3:=by rw[wI,if_neg h,if_pos h2]
theorem iR {d:DfaV}(h:¬(d.letters<1\/6<d.letters))(h2:¬512<d.final.length)(h3:d.final.length=0\/d.next.length≠d.final.length\/d.start<0\/d.final.length<=d.start):wI d=4:=by rw[wI,if_neg h,if_neg h2,if_pos h3]
theorem rW {d:DfaV}(h:¬(d.letters<1\/6<d.letters))(h2:¬512<d.final.length)(h3:¬(d.final.length=0\/d.next.length≠d.final.length\/d.start<0\/d.final.length<=d.start)){q:Nat}(hq:q<d.next.length)(hb:rowD d.letters d.final.length (d.next.getD q [])=false):wI d=4:=by
 rw[wI,if_neg h,if_neg h2,if_neg h3,if_neg];intro ha;have:=List.all_eq_true.1 ha d.next[q] (List.getElem_mem hq);rw[zG hq,this]at hb;cases hb
theorem qAZ {d:DfaV}(h:¬(d.letters<1\/6<d.letters))(h2:¬512<d.final.length)(h3:¬(d.final.length=0\/d.next.length≠d.final.length\/d.start<0\/d.final.length<=d.start))(ha:∀q,q<d.next.length->rowD d.letters d.final.length (d.next.getD q [])=true):wI d=0:=by
 rw[wI,if_neg h,if_neg h2,if_neg h3,if_pos];rw[List.all_eq_true];intro r hr;obtain⟨q,hq,rfl⟩:=List.getElem_of_mem hr;have:=ha q hq
 rwa [zG hq]at this
theorem qEH {k:Int}{n:Nat}{r:List Int}(h:(r.length:Int)≠k):rowD k n r=false:=by simp[rowD,h]
theorem gO {k:Int}{n:Nat}{r:List Int}{y:Nat}(hy:y<r.length)(h:r.getD y 0<0\/n<=r.getD y 0):rowD k n r=false:=by
 rw[<-Bool.not_eq_true];intro hr;have:=(oM.1 hr).2 y hy;omega
def qJV (d:DfaV)(k:Nat):Prop:=∀x,x<k->rowD d.letters d.final.length (d.next.getD x [])=true
open Go.Maps
theorem sW:Try.prog.underlying 171=some (.map 3 3):=by kernel_rfl
theorem sG:Try.prog.underlying 3=some (.int .i64):=by kernel_rfl
theorem gL (w:World):(zeroValue 3).run Try.prog w=.ok (.int .i64 0) w:=by kernel_rfl
def Mid (x:Int):Prop:=-4611686018427387904<x/\x<4611686018427387904
theorem qBZ {x:Int}(hx:Mid x):(Lit.int .i64 x).wf=true:=by
 have h1:IntKind.i64.min = -9223372036854775808:=rfl;have h2:IntKind.i64.max=9223372036854775807:=rfl;obtain⟨h3,h4⟩:=hx;simp[Lit.wf];omega
theorem qDJ {x:Int}(hx:Mid x):keyOf Try.prog 3 (.int .i64 x)=some (.int .i64 x):=keyOf_int_mk (q:=.i64) (by kernel_rfl) (qBZ hx)
def rV (w:World)(b n:Nat)(l:List Int):Prop :=
 ∃D:DataW Unit,w.ownsMap Try.prog 3 (plainElem Try.prog 3) b n D/\size D=l.length /\
  ∀x:Int,Mid x->has D (.int .i64 x)=decide (x∈l)/\D.atKey (.int .i64 x) (.lit (.int .i64 0))=.lit (.int .i64 (if x∈l then ((l.idxOf x:Nat):Int) else 0))
theorem rV.made (w:World):rV (w.alloc (.map #[] 0)) w.heap.size 0 []:=by
 refine⟨.map [],World.ownsMap_made _ _ _ _,rfl,fun x _=>⟨by simp[has_eq],?_⟩⟩;rw[WideAt.atKey_none _ (by simp)];simp
theorem rV.kept {w w':World}{b n:Nat}{l:List Int}{row:Option Nat}(h:rV w b n l)(hg:w.grownBy w' row)(hne:row≠some b):rV w' b n l:=by
 obtain⟨D,h1,h2,h3⟩:=h;exact⟨D,h1.kept hg (fun e=>hne e.symm),h2,h3⟩
theorem rV.mono {w:World}{b n n':Nat}{l:List Int}(h:rV w b n l)(hn:n<=n'):rV w b n' l:=by
 obtain⟨D,h1,h2,h3⟩:=h;exact⟨D,h1.mono hn,h2,h3⟩
theorem rV.lt {w:World}{b n:Nat}{l:List Int}(h:rV w b n l):b<w.heap.size:=by
 obtain⟨D,h1,_⟩:=h;exact h1.lt
theorem rV.lookup {w:World}{b n:Nat}{l:List Int}(h:rV w b n l){x:Int}(hx:Mid x):(Instr.lookup 171 (.map (some b)) (.int .i64 x) true).run Try.prog w=.ok (.tuple #[.int .i64 (if x∈l then ((l.idxOf x:Nat):Int) else 0),.bool (decide (x∈l))]) w:=by
 obtain⟨D,h1,h2,h3⟩:=h;obtain⟨v,ps,h0,hv⟩:=h1.look_ok qAE sW (gL w) (plainElem_int sG (by decide)) (qDJ hx);obtain⟨c,rfl,hc,_⟩:=plainElem_int_inv sG hv;obtain⟨e1,e2⟩:=h3 x hx;have e3:=congrArg Prod.fst hc;simp only[e2]at e3;rw[h0,e1]
 have e4:(if x∈l then ((l.idxOf x:Nat):Int) else 0)=c:=by
  simp only[Lit.int.injEq,DataW.lit.injEq,true_and]at e3;exact e3
 rw[e4]
theorem rV.len {w:World}{b n:Nat}{l:List Int}(h:rV w b n l):(Builtin.len_ #[171] 3 #[.map (some b)]).run Try.prog w=.ok (.int .i64 (l.length:Nat)) w:=by
 obtain⟨D,h1,h2,h3⟩:=h;have h0:=h1.len sW 3;rw[h2]at h0;exact h0
theorem jY {w:World}{ops:Array Oper}{rest:List Oper}{o:Oper}{a:Act}{Q:Exit->Act->World->Prop}(hg:o.guard=none)(m x v:Operand)(hop:o.op=Op.mapUpdate 171 m x v)(b n:Nat)(l:List Int)(z:Int)(hm:a.eval m=.map (some b))(hx:a.eval x=.int .i64 z)(hv:a.eval v=.int .i64 (l.length:Nat))(h:rV w b n l)(hn:n<maxLen)(hz:Mid z)(hnew:z ∉ l)(hll:l.length<4611686018427387904)(hK:∀w',rV w' b (n+1) (l++[z])->w.grownBy w' (some b)->wpList Try.prog ops Q rest (a.put o.dst undef) w'):wpList Try.prog ops Q (o::rest) a w:=by
 obtain⟨D,h1,h2,h3⟩:=h;obtain⟨w',h0,h4,h7⟩:=h1.update qAE sW hn (qDJ hz) (plainElem_int sG (qBZ (x:=((l.length:Nat):Int)) ⟨by omega,by omega⟩));have h6:WideAt.IsKeyLit (.int .i64 z):=by simp[WideAt.IsKeyLit]
 refine wpList_plain hg fun K' hK'=>?_;unfold Oper.wp;simp[execOp,hop,hm,hx,hv,h0,Result.andThen];refine hK' _ _ (hK w' ⟨_,h4,?_,fun y hy=>?_⟩ h7)
 ·rw[size_put (h1.tidy qAE),(h3 z hz).1,decide_eq_false hnew,h2];simp
 ·by_cases e:y=z
  ·subst e
   refine⟨by rw[has_put_same h1.isMap h6];simp,?_⟩;rw[atKey_put_same h1.isMap h6,if_pos (by simp),List.idxOf_append,if_neg hnew];simp
  ·have h5:(Lit.int .i64 y)≠Lit.int .i64 z:=by intro h;injection h with _ h;exact e h
   obtain⟨e1,e2⟩:=h3 y hy;refine⟨by rw[has_put_other h5,e1];simp[e],?_⟩;rw[atKey_put_other h5,e2];by_cases hyl:y∈l
   ·rw[if_pos hyl,if_pos (by simp[hyl]),List.idxOf_append,if_pos hyl]
   ·rw[if_neg hyl,if_neg (by simp[hyl,e])]
def uL (l:List Nat)(k:Nat):List Nat:=l.take k++List.replicate (l.length-k) 0
theorem oZ (l:List Nat):uL l 0=List.replicate l.length 0:=by simp[uL]
theorem lC (l:List Nat):uL l l.length=l:=by simp[uL]
theorem wE {l:List Nat}{k:Nat}(h:k<=l.length):(uL l k).length=l.length:=by simp[uL];omega
theorem lB {l:List Nat}{k:Nat}(h:k<l.length):(uL l k).set k (l.getD k 0)=uL l (k+1):=by
 have hl:(l.take k).length=k:=by simp;omega
 unfold uL;rw[List.set_append_right _ _ (by omega),hl,Nat.sub_self,zT (d:=0) h,show l.length-k=(l.length-(k+1))+1 by omega,List.replicate_succ,List.set_cons_zero,List.append_assoc];rfl
def qJN (w:World)(p:List Nat)(e:Ending)(w':World):Prop :=
 ∃g,e=.returned (.slice (some ⟨g,0,none⟩) p.length p.length)/\w.heap.size<=g/\Arr w' g 3 (nats p)/\w.grownBy w' none
theorem numb_step {l:List Int}{k:Nat}(hk:k<l.length):(numb l).getD k 0=if l[k]∈yD (l.take k) then (yD (l.take k)).idxOf l[k] else (yD (l.take k)).length:=by
 rw[zG (by rw[yV];exact hk),qY hk,<-qBU hk,List.take_succ_eq_append_getElem hk,tM];by_cases h:l[k]∈yD (l.take k)
 ·rw[uX h,if_pos h]
 ·rw[vE h,if_neg h,List.idxOf_append,if_neg h];simp
theorem bQ (B:Nat)(w:World)(v:Value)(l:List Int)(hB:B<=w.heap.size)(h:Row B w v (ints l))(hmid:∀x∈l,Mid x)(hle:l.length<=4194304):Calls Try.prog 102 #[v] w (qJN w (numb l)):=by
 have c2:=@run_makeMap Try.prog;obtain⟨va,vc,rfl⟩:=h.shape;rw[yE]at h⊢;have H:=Kh h;have HM:=Kh hmid;clear h hmid;obtain⟨w1,h4⟩:∃w1,w1=w.alloc (.map #[] 0):=⟨_,rfl⟩;have a4:w.grownBy w1 none:=by rw[h4];exact Ga w _ none
 have c1:w1.heap.size=w.heap.size+1:=by rw[h4,zL]
 have b5:Hid (rV w1 w.heap.size 0 []):=Kh (by rw[h4];exact rV.made w);have b6:=Kh a4;have b3:=Kh h4;clear a4 h4;go_enter Try.func102,Try.ntmps102;go_upto_region 2 with fail;rw[<-b3.out];go_wp2_with (first|(at_make;refine kC rfl _ _ _ rfl yP rfl .i64 .i64 _ _ l.length rfl rfl rfl rfl ?b1 ?b2 ?_)|fail)
 case b1=>omega
 case b2=>unfold maxLen;omega
 intro w2 h0 H6 H3;have a0:=Kh h0;have H9:=Kh H6;have c0:=H6.size;clear h0 H6;obtain⟨g,hg⟩:∃g,g=w.heap.size+1:=⟨_,rfl⟩;rw[<-hg]at a0⊢;have c6:w.heap.size<g:=by omega
 have c5:g<w2.heap.size:=by omega
 clear hg H3;go_wp2
 go_loopg [5,6,7,8,15] l.length (fun gh a5 a6 a7 a8 i wr=>∃k:Nat,gh+k=l.length/\i=.int .i64 k/\Arr wr g 3 (nats (uL (numb l) k))/\rV wr w.heap.size k (yD (l.take k))/\w.grownBy wr none)
 case atStart=>exact⟨0,rfl,rfl,by rw[oZ,yV,xI];exact a0.out,by simpa [yD] using b5.out.kept H9.out (by simp),zD b6.out H9.out⟩
 case round =>
  clear a0 H9;obtain⟨k,hg,rfl,h0,h5,h9⟩:=hrel;have HG:=Kh hg;have HA:=Kh h0;have h8:=Kh h5;have H8:=Kh h9;have b8:=h9.size;have a2:(numb l).length=l.length:=yV l;clear hg h5;by_cases hk:k<l.length
  ·have c4:(k:Int)<l.length:=by omega
   obtain⟨ib,io,ic,e,_,_,_,a1⟩:=(H.out.kept h9 (by simp)).some_ (by rw[yE];omega);simp only[Value.slice.injEq]at e;obtain⟨rfl,-,-⟩:=e;have ck:=a1.int k hk;have H2:Mid (l.getD k 0):=(by rw[zG hk];exact HM.out _ (List.getElem_mem hk));have h2:=numb_step hk;rw[<-zG (d:=0) hk]at h2;have h7:yD (l.take (k+1))=xU (yD (l.take k)) (l.getD k 0):=by rw[List.take_succ_eq_append_getElem hk,tM,zG hk]
   obtain⟨x,hx⟩:∃x,x=l.getD k 0:=⟨_,rfl⟩;rw[<-hx]at ck H2 h2 h7;have h6:=tL (l.take k);rw[List.length_take]at h6;have H4:=h8.out.lookup H2;have h1:=lB (l:=numb l) (k:=k) (by omega);have c7:=frozen_of_row wr g k;have cgk:=h0.nat k (by rw[wE (by omega)];omega);have c8:(nats (uL (numb l) k)).length=l.length:=by rw[zW,wE (by omega)];omega
   have fgk:=h0.frozen k;clear a1 hx h9 h0;by_cases hin:x∈yD (l.take k)
   ·rw[if_pos hin,decide_eq_true hin]at H4
    rw[if_pos hin]at h2;have H1:Hid (yD (l.take (k+1))=yD (l.take k)):=Kh (by rw[h7,uX hin]);obtain⟨c,hc⟩:∃c,c=(yD (l.take k)).idxOf x:=⟨_,rfl⟩;rw[<-hc]at H4 h2;rw[h2]at h1;have HS:=Kh h1;clear h2 h1 hc h7 hin;go_wp2;go_roundg (l.length-(k+1))
    case measure=>have:=HG.out;omega
    case rel =>
     refine⟨k+1,by omega,by go_num,?_,?_,?_⟩
     ·rw[<-HS.out];exact HA.out.nat_set k (by rw[wE (by omega)];omega) c
     ·rw[H1.out]
      exact(h8.out.kept (zC wr ⟨g,k,none⟩ _) (by simp;omega)).mono (by omega)
     ·exact zA H8.out (zC wr ⟨g,k,none⟩ _) (fun q e=>by have:=Oj e;simp at this;omega)
   ·rw[if_neg hin,decide_eq_false hin]at H4
    rw[if_neg hin]at h2;have H1:Hid (yD (l.take (k+1))=yD (l.take k)++[x]):=Kh (by rw[h7,vE hin]);have a9:=Kh hin;have b4:=Kh H2;rw[h2]at h1;have HS:=Kh h1;clear h2 h1 h7 hin cgk fgk;obtain⟨L,hL⟩:∃L,L=yD (l.take k):=⟨_,rfl⟩;rw[<-hL]at h8 H1 a9 HS h6;have c3:=h8.out.len;clear hL;go_wp2_with (first|(at_mapUpdate;refine jY rfl _ _ _ rfl w.heap.size k L x rfl rfl rfl h8.out (by unfold maxLen;omega) b4.out a9.out (by omega) ?_;intro w5 h3 H5;(have H0:=HA.out.kept H5 (by simp;omega));(have H7:=Kh h3);(have b0:=Kh H5);(have b7:=Kh H0);(have fg5:=H0.frozen k);(have cg5:=H0.nat k (by rw[wE (by omega)];omega));clear h3 H5 H0)|fail);go_roundg (l.length-(k+1))
    case measure=>have:=HG.out;omega
    case rel =>
     have b9:=b0.out.size;refine⟨k+1,by omega,by go_num,?_,?_,?_⟩
     ·rw[<-HS.out];exact b7.out.nat_set k (by rw[wE (by omega)];omega) _
     ·rw[H1.out]
      exact H7.out.kept (zC w5 ⟨g,k,none⟩ _) (by simp;omega)
     ·exact zA (zA H8.out b0.out (fun q e=>by have:=Oj e;omega)) (zC w5 ⟨g,k,none⟩ _) (fun q e=>by have:=Oj e;simp at this;omega)
  ·have a3:k=l.length:=by have:=HG.out;omega
   have HE:Hid (uL (numb l) k=numb l):=Kh (by rw[a3,<-a2];exact lC _);clear a3 h0;go_wp2;go_ret;refine⟨g,by rw[a2];rfl,by omega,?_,H8.out⟩;rw[<-HE.out];exact HA.out
end Go.Proofs.Ytjfdomfendbhfaa
namespace Go.Proofs.Ytjfdomfendbhfaa
open Go.RowKit
def dM (p q:List Nat):List Nat:=List.zipWith (fun a b=>a*(p.length+1)+b) p q
theorem mL {p q:List Nat}(h:q.length=p.length):(dM p q).length=p.length:=by simp[dM,h]
theorem bothN_ints {p q:List Nat}:nats (dM p q)=ints (lI p q):=by
 rw[qZ];congr 1;simp only[dM,lI,List.map_zipWith];congr 1
theorem bothN_get {p q:List Nat}(h:q.length=p.length){k:Nat}(hk:k<p.length):(dM p q).getD k 0=p.getD k 0*(p.length+1)+q.getD k 0:=by
 rw[zG (by rw[mL h];exact hk),zG hk,zG (by omega)];simp[dM]
theorem bothL_mid {p q:List Nat}(hp:∀c∈p,c<4194305)(hq:∀c∈q,c<4194305)(hl:p.length<=4194304):∀x∈lI p q,Mid x:=by
 intro x hx;obtain⟨i,hi,rfl⟩:=List.getElem_of_mem hx;simp only[lI,List.getElem_zipWith,qBQ];have h1:=hp _ (List.getElem_mem (l:=p) (n:=i) (by simp[lI]at hi;omega));have h2:=hq _ (List.getElem_mem (l:=q) (n:=i) (by simp[lI]at hi;omega))
 generalize p[i]'(by simp[lI]at hi;omega)=a at h1⊢
 generalize q[i]'(by simp[lI]at hi;omega)=b at h2⊢
 have:a*(p.length+1)<=4194304*4194305:=Nat.mul_le_mul (by omega) (by omega);have e:(a:Int)*((p.length:Int)+1)+b=((a*(p.length+1)+b:Nat):Int):=by push_cast;rfl
 rw[e];constructor<;>omega
theorem wrap_both {a m X b:Nat}(hX:X=a*(m+1))(hXl:X<=17592190238720)(hb:b<4194305):wrap64 (wrap64 ((a:Int)*((m:Int)+1))+(b:Int))=((X+b:Nat):Int):=by
 have h0:(a:Int)*((m:Int)+1)=(X:Int):=by rw[hX];push_cast;rfl
 clear hX;rw[h0];have h9:wrap64 (X:Int)=(X:Int):=IntWalk.wrap64_in _ (by omega);rw[h9,<-Int.natCast_add];exact IntWalk.wrap64_in _ (by omega)
theorem both_any (B C:Nat)(w:World)(va vb:Value)(p q:List Nat)(hB:B<=w.heap.size)(hC:C<=w.heap.size)(ha:Row B w va (nats p))(hb:Row C w vb (nats q))(hl:q.length=p.length)(h0:0<p.length)(hp:∀c∈p,c<4194305)(hq:∀c∈q,c<4194305)(hle:p.length<=4194304):Calls Try.prog 103 #[va,vb] w (qJN w (qAP p q)):=by
 obtain⟨pb,po,pc,rfl,b9,H1,H0,H9⟩:=ha.some_ (by rw[zW];exact h0);obtain⟨qb,qo,qc,rfl,b7,h5,h9,H8⟩:=hb.some_ (by rw[zW];omega);rw[zW]at H1 h5⊢;rw[zW,hl];rw[hl]at h5;have b0:pc<=9223372036854775807:=by unfold maxLen at H0;omega
 have a9:qc<=9223372036854775807:=by unfold maxLen at h9;omega
 have RA:=Kh H9;have RB:=Kh H8;have HL:=Kh hl;have HP:=Kh hp;have HQ:=Kh hq;have H4:=Kh (bothL_mid hp hq hle);clear H9 H8 hl hp hq ha hb;go_enter Try.func103,Try.ntmps103;go_wp2_with (first|(at_make;refine kC rfl _ _ _ rfl yP rfl .i64 .i64 _ _ p.length rfl rfl rfl rfl ?b1 ?b2 ?_)|fail)
 case b1=>omega
 case b2=>unfold maxLen;omega
 intro w2 h2 a2 H2;have H7:=Kh h2;have a7:=Kh a2;clear h2 a2;obtain⟨g,hg⟩:∃g,g=w.heap.size:=⟨_,rfl⟩;have H6:=Kh hg;rw[<-hg]at H7 H2 hB hC⊢;clear hg;go_wp2
 go_loopg [6,12] p.length (fun gh a6 i wr=>∃k:Nat,gh+k=p.length/\i=.int .i64 k/\Arr wr g 3 (nats (uL (dM p q) k))/\w.grownBy wr none)
 case atStart=>exact⟨0,rfl,rfl,by rw[oZ,mL HL.out,xI];exact H7.out,a7.out⟩
 case round =>
  clear H7 a7;obtain⟨k,hg,rfl,h2,h4⟩:=hrel;have HG:=Kh hg;have HA:=Kh h2;have H5:=Kh h4;have H3:(dM p q).length=p.length:=mL HL.out;clear hg;by_cases hk:k<p.length
  ·have c0:(k:Int)<p.length:=by omega
   have ca:=(RA.out.kept h4 (by simp)).nat k hk;have cb:=(RB.out.kept h4 (by simp)).nat k (by rw[HL.out];exact hk);have h3:=lB (l:=dM p q) (k:=k) (by omega);rw[bothN_get HL.out hk]at h3;have a8:=qA (i:=k) HP.out (by omega);have a0:=qA (i:=k) HQ.out (by omega);have cgk:=h2.nat k (by rw[wE (by omega)];omega);have fgk:=h2.frozen k;obtain⟨a,ha⟩:∃a,a=p.getD k 0:=⟨_,rfl⟩;obtain⟨b,hb⟩:∃b,b=q.getD k 0:=⟨_,rfl⟩;rw[<-ha]at ca h3 a8;rw[<-hb]at cb h3 a0;obtain⟨X,hX⟩:∃X,X=a*(p.length+1):=⟨_,rfl⟩
   have b3:X<=17592190238720:=by
    have h8:a*(p.length+1)<=4194304*4194305:=Nat.mul_le_mul (by omega) (by omega);omega
   rw[<-hX]at h3;have hw:=wrap_both hX b3 a0;have HW:=Kh hw;have HS:=Kh h3;have ca':wr.drew.cell? ⟨pb,po+k,none⟩=some (.int .i64 (a:Int)):=ca;have cb':wr.drew.cell? ⟨qb,qo+k,none⟩=some (.int .i64 (b:Int)):=cb;have b8:pb≠g:=(by omega);have b6:qb≠g:=by omega
   have a5:Hid (∀u,((wr.setCell ⟨g,k,none⟩ u).drew.cell? ⟨pb,po+k,none⟩=some (.int .i64 (a:Int)))):=Kh (fun u=>by
    show (wr.setCell ⟨g,k,none⟩ u).cell? ⟨pb,po+k,none⟩=_
    rw[World.cell?_of_block ((zC wr ⟨g,k,none⟩ u).block pb (by have:=h4.size;have:=H6.out;omega) (by simp;omega))];exact ca)
   have a4:Hid (∀u,((wr.setCell ⟨g,k,none⟩ u).drew.cell? ⟨qb,qo+k,none⟩=some (.int .i64 (b:Int)))):=Kh (fun u=>by
    show (wr.setCell ⟨g,k,none⟩ u).cell? ⟨qb,qo+k,none⟩=_
    rw[World.cell?_of_block ((zC wr ⟨g,k,none⟩ u).block qb (by have:=h4.size;have:=H6.out;omega) (by simp;omega))];exact cb)
   clear ha hb h3 h4 h2 hX hw;go_upto_region 5 with fail
   go_region_held3 (fun w'=>w'.cell? ⟨pb,po+k,none⟩=some (.int .i64 (a:Int))/\w'.cell? ⟨qb,qo+k,none⟩=some (.int .i64 (b:Int))) (first|exact⟨ca',cb'⟩|exact⟨a5.out _,a4.out _⟩|go_keep|fail) (fail)
   all_goals
    clear ca ca' cb cb' a5 a4 cgk fgk;go_wp2;go_roundg (p.length-(k+1))
    case measure=>have:=HG.out;omega
    case rel =>
     refine⟨k+1,by omega,by go_num,?_,?_⟩
     ·rw[<-HS.out]
      have h1:=HA.out.nat_set k (by rw[wE (by omega)];omega) (X+b);rw[HW.out];exact h1.of_heap rfl
     ·exact uC (zA H5.out (zC wr ⟨g,k,none⟩ _) (fun q e=>by have h7:g=q:=Oj e;have:=H6.out;omega)) rfl rfl rfl rfl
  ·have a1:k=p.length:=by have:=HG.out;omega
   have HE:Hid (uL (dM p q) k=dM p q):=Kh (by rw[a1,<-H3];exact lC _);clear a1 h2;go_wp2_with fail;rw[HE.out]at HA
   have HN:=Kh (bQ (g+1) wr (.slice (some ⟨g,0,none⟩) p.length p.length) (lI p q) HA.out.lt (by
    rw[<-bothN_ints]
    exact .inr ⟨g,0,p.length,by rw[zW,H3],by omega,by rw[zW,H3];exact Nat.le_refl _,by unfold maxLen;omega,HA.out.row⟩) H4.out (by rw[pH HL.out];exact hle))
   go_wp2_with fail;refine HN.out.mono ?_;rintro e w5 ⟨g5,rfl,c1,a3,h6⟩;have c2:numb (lI p q)=qAP p q:=rfl;have b5:=Kh a3;have b4:=Kh h6;clear a3 h6;go_wp2;go_ret;refine⟨g5,rfl,?_,b5.out,zD H5.out b4.out⟩;have:=H5.out.size;omega
theorem lN {xs:List Int}{k:Nat}(h:k<xs.length):xs.take (k+1)=xs.take k++[xs.getD k 0]:=by
 rw[List.take_add_one];simp[List.getD,h]
theorem same03_any (B C:Nat)(w:World)(va vb:Value)(xs ys:List Int)(ha:Row B w va (ints xs))(hb:Row C w vb (ints ys)):Calls Try.prog 104 #[va,vb] w fun e w'=>e=.returned (.bool (decide (xs=ys)))/\∃m,w'=w.drewN m:=by
 have h2:=ha.len_le;rw[yE]at h2;unfold maxLen at h2;have h1:=hb.len_le;rw[yE]at h1;unfold maxLen at h1;obtain⟨aa,ac,rfl⟩:=ha.shape;obtain⟨ba,bc,rfl⟩:=hb.shape;rw[yE]at ha hb⊢;rw[yE];by_cases hl:xs.length=ys.length
 ·by_cases h0:xs.length=0
  ·have hx:xs=[]:=List.eq_nil_of_length_eq_zero h0
   have hy:ys=[]:=List.eq_nil_of_length_eq_zero (by omega);subst hx;subst hy;clear ha hb;go_enter Try.func104,Try.ntmps104;go_wp2
   go_loopg [13] 0 (fun g i wr=>i=.int .i64 0/\wr=w)
   case atStart=>exact⟨rfl,rfl⟩
   case round =>
    obtain⟨rfl,rfl⟩:=hrel;go_wp2;go_ret;exact⟨yA rfl,0,rfl⟩
  ·obtain⟨ab,ao,ac',e,_,_,_,h4⟩:=ha.some_ (by rw[yE];omega)
   simp only[Value.slice.injEq]at e;obtain⟨rfl,-,-⟩:=e;obtain⟨bb,bo,bc',e,_,_,_,h3⟩:=hb.some_ (by rw[yE];omega);simp only[Value.slice.injEq]at e;obtain⟨rfl,-,-⟩:=e;have RA:=Kh h4;have RB:=Kh h3;have HL:=Kh hl;clear ha hb h4 h3;rw[<-hl];clear hl;go_enter Try.func104,Try.ntmps104;go_wp2
   go_loopg [13] xs.length (fun g i wr=>∃k:Nat,g+k=xs.length/\i=.int .i64 k/\xs.take k=ys.take k/\∃m,wr=w.drewN m)
   case atStart=>exact⟨0,rfl,rfl,rfl,0,rfl⟩
   case round =>
    obtain⟨k,hg,rfl,h5,m,rfl⟩:=hrel;have HG:=Kh hg;have OK:=Kh h5;clear hg h5;by_cases hk:k<xs.length
    ·have h7:(k:Int)<xs.length:=by omega
     have ca:=RA.out.int k hk;have cb:=RB.out.int k (by have:=HL.out;omega);obtain⟨z,hz⟩:∃z,z=xs.getD k 0:=⟨_,rfl⟩;obtain⟨u,hu⟩:∃u,u=ys.getD k 0:=⟨_,rfl⟩;rw[<-hz]at ca;rw[<-hu]at cb;have HZ:=Kh hz;have HU:=Kh hu;clear hz hu;by_cases hzu:z=u
     ·have HN:Hid (xs.take (k+1)=ys.take (k+1)):=Kh (by rw[lN hk,lN (by have:=HL.out;omega),OK.out,<-HZ.out,<-HU.out,hzu])
      subst hzu;go_wp2
      go_quiet (fail)
      go_wp2;go_roundg (xs.length-(k+1))
      case measure=>have:=HG.out;omega
      case rel=>exact⟨k+1,by omega,by go_num,HN.out,_,rfl⟩
     ·have e1:(z != u)=true:=by rw[bne_iff_ne];exact hzu
      have HN:Hid (decide (xs=ys)=false):=Kh (by rw[decide_eq_false_iff_not];rintro rfl;exact hzu (by rw[HZ.out,HU.out]));go_wp2
      go_quiet (fail)
      go_wp2;go_ret;exact⟨yA HN.out.symm,_,by rw[World.drewN_drewN]⟩
    ·have HY:Hid (decide (xs=ys)=true):=by
      have h6:k=xs.length:=by have:=HG.out;omega
      have:=OK.out;rw[List.take_of_length_le (by omega),List.take_of_length_le (by have:=HL.out;omega)]at this;exact Kh (by rw[decide_eq_true_eq];exact this)
     go_wp2;go_ret;exact⟨yA HY.out.symm,m,rfl⟩
 ·have e1:((xs.length:Int) != (ys.length:Int))=true:=by rw[bne_iff_ne];omega
  have HN:Hid (decide (xs=ys)=false):=Kh (by rw[decide_eq_false_iff_not];rintro rfl;exact hl rfl);clear ha hb;go_enter Try.func104,Try.ntmps104;go_wp2;go_ret;exact⟨yA HN.out.symm,0,rfl⟩
theorem cast_inj {l m:List Nat}:((l.map fun(x:Nat)=>(x:Int)) == (m.map fun(x:Nat)=>(x:Int)))=decide (l=m):=by
 rw[Bool.eq_iff_iff,beq_iff_eq,decide_eq_true_eq];constructor
 ·intro h
  have:=congrArg (List.map Int.toNat) h;simpa [List.map_map,Function.comp_def] using this
 ·rintro rfl;rfl
theorem cast_dec {l m:List Nat}:decide ((l.map fun(x:Nat)=>(x:Int))=m.map fun(x:Nat)=>(x:Int))=decide (l=m):=by
 rw[<-cast_inj (l:=l) (m:=m),Bool.eq_iff_iff,decide_eq_true_eq,beq_iff_eq]
structure DAt (B:Nat)(w:World)(d:DfaV)(n k fb fo fc b off cap:Nat)(RB RO RC:Nat->Nat):Prop where
 ok:VD d n k
 flt:fb<B
 frow:uJ w fb fo (bls d.final)
 fcap:n<=fc/\fc<=maxLen
 blt:b<B
 bltw:b<w.heap.size
 cap:n<=cap/\cap<=maxLen
 hd:∀q,q<n->w.cell? ⟨b,off+q,none⟩=some (.slice (some ⟨RB q,RO q,none⟩) k (RC q))
 el:∀q a,q<n->a<k->w.cell? ⟨RB q,RO q+a,none⟩=some (.int .i64 ((nx d q a:Nat):Int))
 rlt:∀q,q<n->RB q<B/\RB q<w.heap.size
 rcap:∀q,q<n->k<=RC q/\RC q<=maxLen
theorem DAt.kept {B:Nat}{w w':World}{d:DfaV}{n k fb fo fc b off cap:Nat}{RB RO RC:Nat->Nat}{row:Option Nat}(h:DAt B w d n k fb fo fc b off cap RB RO RC)(hg:w.grownBy w' row)(hr:∀k,row=some k->B<=k):DAt B w' d n k fb fo fc b off cap RB RO RC where
 ok:=h.ok
 flt:=h.flt
 frow:=h.frow.kept hg (fun e=>by have:=hr _ e;have:=h.flt;omega)
 fcap:=h.fcap
 blt:=h.blt
 bltw:=Nat.lt_of_lt_of_le h.bltw hg.size
 cap:=h.cap
 hd:=fun q hq=>(World.cell?_of_block (hg.block b h.bltw (fun e=>by have:=hr b e.symm;have:=h.blt;omega))).trans (h.hd q hq)
 el:=fun q a hq ha=>(World.cell?_of_block (hg.block (RB q) (h.rlt q hq).2 (fun e=>by have:=hr _ e.symm;have:=(h.rlt q hq).1;omega))).trans (h.el q a hq ha)
 rlt:=fun q hq=>⟨(h.rlt q hq).1,Nat.lt_of_lt_of_le (h.rlt q hq).2 hg.size⟩
 rcap:=h.rcap
theorem DAt.fin {B:Nat}{w:World}{d:DfaV}{n k fb fo fc b off cap:Nat}{RB RO RC:Nat->Nat}(h:DAt B w d n k fb fo fc b off cap RB RO RC){q:Nat}(hq:q<n):w.cell? ⟨fb,fo+q,none⟩=some (.bool (d.final.getD q false)):=by
 have hl:=h.ok.hn;have:=uJ.map h.frow q (by omega);rw[this,zG (by omega)]
def dAgg (k st fb fo fc b off cap n:Nat):Value:=.agg #[.int .i64 (k:Int),.int .i64 (st:Int),.slice (some ⟨fb,fo,none⟩) n fc,.slice (some ⟨b,off,none⟩) n cap]
theorem tE.at {B:Nat}{w:World}{v:Value}{d:DfaV}{n k:Nat}(h:tE B w v d)(hd:VD d n k):∃fb fo fc b off cap RB RO RC,v=dAgg k (st0 d) fb fo fc b off cap n/\DAt B w d n k fb fo fc b off cap RB RO RC:=by
 obtain⟨fv,nv,rfl,hf,hn⟩:=h;obtain⟨fb,fo,fc,rfl,h1,h2,h3,h4⟩:=hf.some_ (by rw[xC,hd.hn];exact hd.n1);obtain⟨b,off,cap,A,C,rfl,k1,k2,k3⟩:=hn.some_ (by rw[hd.nl];exact hd.n1)
 have hr:∀q,∃rb ro,q<n->A q=some ⟨rb,ro,none⟩/\rb<B/\k<=C q/\C q<=maxLen/\uJ w rb ro (ints (d.next.getD q [])):=by
  intro q;by_cases hq:q<n
  ·have hl:=hd.row q hq
   obtain⟨rb,ro,c,e,h4,h5,h6,h7⟩:=(k3.row q (by rw[hd.nl];exact hq)).some_ (by rw[yE,hl];exact hd.k1);simp only[Value.slice.injEq]at e;rw[yE,hl]at h5;exact⟨rb,ro,fun _=>⟨e.1,h4,by rw[e.2.2];exact h5,by rw[e.2.2];exact h6,h7⟩⟩
  ·exact⟨0,0,fun h=>absurd h hq⟩
 obtain⟨RB,h8⟩:=Classical.axiomOfChoice hr;obtain⟨RO,h0⟩:=Classical.axiomOfChoice h8;rw[xC,hd.hn]at h2;rw[hd.nl]at k1;refine⟨fb,fo,fc,b,off,cap,RB,RO,C,?_,hd,h1,h4,⟨h2,h3⟩,k3.lt,k3.ltw,⟨k1,k2⟩,fun q hq=>?_,fun q a hq ha=>?_,fun q hq=>?_,fun q hq=>?_⟩
 ·rw[dAgg,aJ hd,hd.hk,xC,hd.hn,hd.nl]
 ·rw[k3.hd q (by rw[hd.nl];exact hq),(h0 q hq).1,hd.row q hq]
 ·rw[(h0 q hq).2.2.2.2.int a (by rw[hd.row q hq];exact ha),qGZ hd hq ha]
  rfl
 ·have:=h0 q hq
  exact⟨this.2.1,this.2.2.2.2.1⟩
 ·have:=h0 q hq
  exact⟨this.2.2.1,this.2.2.2.1⟩
theorem zF {w:World}{p:Nat}{x0 x1 x2 x3:Value}{e:Nat}(h:w.heap[p]?=some (.cells #[x0,x1,x2,x3] e (0,0))):w.cell? ⟨p,0,none⟩=some x0/\w.cell? ⟨p,1,none⟩=some x1/\w.cell? ⟨p,2,none⟩=some x2/\w.cell? ⟨p,3,none⟩=some x3:=by
 have c0:=zI h 0 (by simp);have c1:=zI h 1 (by simp);have c2:=zI h 2 (by simp);have c3:=zI h 3 (by simp);simp only[List.getElem_toArray,List.getElem_cons_zero,List.getElem_cons_succ]at c0 c1 c2 c3;exact⟨c0,c1,c2,c3⟩
theorem kU {w:World}{g n:Nat}{l:List Nat}(h:uJ w g 0 (nats l))(hl:l.length=n)(hn:n<=9223372036854775807):Row (g+1) w (.slice (some ⟨g,0,none⟩) n n) (nats l) :=
 .inr ⟨g,0,n,by rw[zW,hl],by omega,by rw[zW,hl];exact Nat.le_refl _,by unfold maxLen;omega,h⟩
theorem colTo_take {d:DfaV}{p:List Nat}{a q:Nat}(hq:q<p.length):(mJ d p a).take (q+1)=(mJ d p a).take q++[p.getD (nx d q a) 0]:=by
 rw[zT (d:=0) (by rw[rI];exact hq),dB hq]
theorem colTo_lt {d:DfaV}{p:List Nat}{n a:Nat}(h:∀c∈p,c<n)(hn:0<n):∀c∈mJ d p a,c<n:=by
 intro c hc;obtain⟨q,hq,rfl⟩:=List.mem_map.1 hc;exact qA h hn
def finN (d:DfaV):List Nat:=d.final.map fun b=>if b then 1 else 0
theorem finN_ints (d:DfaV):nats (finN d)=ints (d.final.map finB):=by
 rw[qZ];congr 1;simp only[finN,List.map_map];congr 1;funext b;cases b<;>rfl
theorem eS (d:DfaV):(finN d).length=d.final.length:=by simp[finN]
theorem finN_get {d:DfaV}{q:Nat}(hq:q<d.final.length):(finN d).getD q 0=if d.final.getD q false then 1 else 0:=by
 rw[finN,tI (x:=false) hq]
theorem finB_mid (d:DfaV):∀x∈d.final.map finB,Mid x:=by
 intro x hx;obtain⟨b,_,rfl⟩:=List.mem_map.1 hx;cases b<;>constructor<;>simp[finB]
theorem fillTo_skip {l:List Nat}{k:Nat}(h:k<l.length)(h0:l.getD k 0=0):uL l (k+1)=uL l k:=by
 unfold uL;rw[zT (d:=0) h,h0,show l.length-k=(l.length-(k+1))+1 by omega,List.replicate_succ,List.append_assoc];rfl
def qIC (w:World)(l:List Nat)(e:Ending)(w':World):Prop :=
 ∃g,e=.returned (.slice (some ⟨g,0,none⟩) l.length l.length)/\w.heap.size<=g/\uJ w' g 0 (nats l)/\w.grownBy w' none
theorem refTo_lt {d:DfaV}{p:List Nat}(hp:Norm p)(m:Nat):∀c∈uR d p m,c<p.length:=by
 have:=mB (mS (d:=d) hp m)
 rwa [xD]at this
theorem classes_any (B:Nat)(w:World)(v:Value)(d:DfaV)(n k:Nat)(hB:B<=w.heap.size)(h:tE B w v d)(hd:VD d n k):Calls Try.prog 81 #[v] w (qIC w (yW d k)):=by
 obtain⟨fb,fo,fc,b,off,cap,RB,RO,RC,rfl,a0⟩:=h.at hd;have hn:=hd.hn;have k0:=hd.n1;have d8:=hd.nbig;have k4:=hd.k6;have k5:=hd.k1;have k8:=a0.fcap.1;have a5:=a0.fcap.2;have k9:=a0.cap.1;have a7:=a0.cap.2;have g4:fc<=9223372036854775807:=by unfold maxLen at a5;omega
 have g2:cap<=9223372036854775807:=by unfold maxLen at a7;omega
 obtain⟨wA,a8⟩:∃wA,wA=w.alloc (.cells #[.int .i64 (k:Int),.int .i64 (st0 d:Int),.slice (some ⟨fb,fo,none⟩) n fc,.slice (some ⟨b,off,none⟩) n cap] 42):=⟨_,rfl⟩;have h9:wA.heap[w.heap.size]?=some (.cells #[.int .i64 (k:Int),.int .i64 (st0 d:Int),.slice (some ⟨fb,fo,none⟩) n fc,.slice (some ⟨b,off,none⟩) n cap] 42 (0,0)):=by rw[a8];exact heap_alloc_new w _
 have b9:w.grownBy wA none:=by rw[a8];exact Ga w _ none
 have f8:wA.heap.size=w.heap.size+1:=by rw[a8,zL]
 obtain⟨c0,c1,c2,c3⟩:=zF h9;obtain⟨P,hP⟩:∃P,P=w.heap.size:=⟨_,rfl⟩;have f2:=Kh hP;rw[<-hP]at h9 c0 c1 c2 c3 f8 hB;have c9:=Kh h9;have j1:=Kh b9;have i5:=Kh a8;have f7:=Kh (a0.kept b9 (by simp));have HN:=Kh hn;have HD:=Kh hd;unfold dAgg;clear h9 b9 a8 a0 hn hd h a5 a7;go_enter Try.func81,Try.ntmps81;go_upto_region 1 with fail;rw[<-i5.out,<-f2.out];clear hP;go_wp2_with (first|(at_make;refine kC rfl _ _ _ rfl yP rfl .i64 .i64 _ _ n rfl rfl rfl rfl ?b1 ?b2 ?_)|fail)
 case b1=>omega
 case b2=>unfold maxLen;omega
 intro w2 h0 e4 g8;have d4:=Kh h0;have f5:=Kh e4;clear h0 e4;obtain⟨g,hg⟩:∃g,g=P+1:=⟨_,rfl⟩;have l2:=Kh hg;rw[<-hg]at d4⊢;have e2:P<g:=by omega
 clear hg;go_wp2
 go_loopg [4,15] n (fun gh a6 i wr=>∃q:Nat,gh+q=n/\i=.int .i64 q/\Arr wr g 3 (nats (uL (finN d) q))/\wA.grownBy wr none)
 case atStart=>exact⟨0,rfl,rfl,by rw[oZ,eS,HN.out,xI];exact d4.out,f5.out⟩
 case round =>
  clear d4 f5;obtain⟨q,hg,rfl,h0,h3⟩:=hrel;have HG:=Kh hg;have HA:=Kh h0;have H1:=Kh h3;have e6:(finN d).length=n:=by rw[eS,HN.out]
  have j6:=h3.size;obtain⟨d0,d1,d2,d3⟩:=zF (zB c9.out h3 (by simp));clear hg c0 c1 c2 c3;by_cases hq:q<n
  ·have g0:(q:Int)<n:=by omega
   have cf:=(f7.out.kept h3 (by simp)).fin hq;have cgk:=h0.nat q (by rw[wE (by omega)];omega);have fgk:=h0.frozen q;have e5:=finN_get (d:=d) (q:=q) (by rw[HN.out];exact hq);have b8:=Kh e5;clear e5 h0 h3;cases hb:d.final.getD q false with
   | false =>
    rw[hb]at cf b8;go_wp2;go_roundg (n-(q+1))
    case measure=>have:=HG.out;omega
    case rel=>exact⟨q+1,by omega,by go_num,by rw[fillTo_skip (by omega) b8.out];exact HA.out,H1.out⟩
   | true =>
    rw[hb]at cf b8;have HS:Hid ((uL (finN d) q).set q 1=uL (finN d) (q+1)):=Kh (by have:=lB (l:=finN d) (k:=q) (by omega);rw[b8.out]at this;exact this);go_wp2;go_roundg (n-(q+1))
    case measure=>have:=HG.out;omega
    case rel =>
     refine⟨q+1,by omega,by go_num,?_,zA H1.out (zC wr ⟨g,q,none⟩ _) (fun q e=>by have h7:g=q:=Oj e;omega)⟩;rw[<-HS.out];exact HA.out.nat_set q (by rw[wE (by omega)];omega) 1
  ·have H5:q=n:=by have:=HG.out;omega
   have HE:Hid (uL (finN d) q=finN d):=Kh (by rw[H5,<-e6];exact lC _);rw[HE.out]at HA;have j9:Hid (q=n):=Kh H5
   have a9:=Kh (bQ (g+1) wr (.slice (some ⟨g,0,none⟩) n n) (d.final.map finB) HA.out.lt (by
    rw[<-finN_ints]
    exact kU HA.out.row e6 (by omega)) (finB_mid d) (by rw[List.length_map,HN.out];omega))
   clear H5 h0 h3 d0 d1 d2 d3;go_wp2_with fail;refine a9.out.mono ?_;rintro e w3 ⟨g3,rfl,i4,c6,a3⟩;have d6:numb (d.final.map finB)=jA d:=rfl;rw[d6]at c6⊢;have H2:(jA d).length=n:=by rw[nZ,HN.out]
   rw[H2];have f0:=Kh c6.row;have f4:=Kh (zD H1.out a3);have a4:P<g3:=(by omega);clear c6 a3 a9 d6 H2 i4;go_wp2
   go_loopg [3] n (fun gh v3 wr=>∃(m g:Nat),gh+m=n/\m<cls (yX d k m)/\v3=.slice (some ⟨g,0,none⟩) n n/\P<g/\uJ wr g 0 (nats (yX d k m))/\wA.grownBy wr none)
   case atStart=>exact⟨0,g3,rfl,qAN (by rw[yZ,HN.out];omega),rfl,a4,f0.out,f4.out⟩
   case round =>
    clear f0 f4 a4 HA H1 HG;obtain⟨m,g,hg,d9,rfl,e2,b5,h3⟩:=hrel;have HG:=Kh hg;have i9:=Kh d9;have H2:=yZ d k m;rw[HN.out]at H2;have b6:=uW d k m;obtain⟨p,hp⟩:∃p,p=yX d k m:=⟨_,rfl⟩;have HP:=Kh hp;rw[<-hp]at H2 b6 b5;have H6:=mB b6;rw[H2]at H6;obtain⟨wo,rfl⟩:∃wo:World,wo=wr:=⟨_,rfl⟩;have b7:=Kh b5;have H1:=Kh h3;have f1:=Kh b6;have h5:=Kh H2;have c7:=Kh H6;have i3:=b5.1;clear hg d9 hp b5 h3 b6 H2 H6;go_wp2
    go_loopg [5,6] k (fun gh v5 i wr=>∃(a g5:Nat),gh+a=k/\i=.int .i64 a/\v5=.slice (some ⟨g5,0,none⟩) n n/\P<g5/\uJ wr g5 0 (nats (uR d p a))/\wo.grownBy wr none)
    case atStart=>exact⟨0,g,rfl,rfl,rfl,e2,b7.out,zH _ _⟩
    case round =>
     obtain⟨a,g5,hg,rfl,rfl,c4,H4,h8⟩:=hrel;have b3:=Kh hg;obtain⟨wq,rfl⟩:∃wq:World,wq=wr:=⟨_,rfl⟩;have H0:=Kh H4;have h4:=Kh h8;have e1:=H4.1;have j8:=h8.size;obtain⟨d0,d1,d2,d3⟩:=zF (zB c9.out (zD H1.out h8) (by simp));clear hg H4 h8;by_cases ha:a<k
     ·have l0:(a:Int)<k:=by omega
      go_wp2
      go_loopg [7,38] n (fun gh ov i wr=>∃(q:Nat) (sa:Option Addr) (sc:Nat),gh+q=n/\i=.int .i64 q/\ov=.slice sa q sc/\wr.ownsRow wq.heap.size 3 1 (.slice sa q sc) q (nats ((mJ d p a).take q))/\wq.grownBy wr none)
      case atStart=>exact⟨0,none,0,rfl,rfl,rfl,by simpa [nats] using World.ownsRow_nil _ _ _ _,zH _ _⟩
      case round =>
       obtain⟨q,sa,sc,hg,rfl,rfl,a1,h3⟩:=hrel;have f3:=Kh hg;have h6:=Kh a1;have H9:=Kh h3;clear hg a1 d0 d1 d2 d3;by_cases hq:q<n
       ·have g0:(q:Int)<n:=by omega
        have H7:=zD (zD H1.out h4.out) h3;obtain⟨d0,d1,d2,d3⟩:=zF (zB c9.out H7 (by simp));have hA:=f7.out.kept H7 (by simp);have ch:=hA.hd q hq;have ce:=hA.el q a hq ha;have d5:=hA.rcap q hq;have d7:=mA HD.out hq ha;have cp:=(b7.out.kept (zD h4.out h3) (by simp)).nat (nx d q a) (by rw[h5.out];exact d7);rw[Nat.zero_add]at cp;have c8:Hid ((mJ d p a).take (q+1)=(mJ d p a).take q++[p.getD (nx d q a) 0]):=Kh (colTo_take (by rw[h5.out];exact hq));obtain⟨s,hs⟩:∃s,s=nx d q a:=⟨_,rfl⟩;rw[<-hs]at ce d7 cp c8;obtain⟨c,hc⟩:∃c,c=p.getD s 0:=⟨_,rfl⟩;rw[<-hc]at cp c8;have i2:=h3.size;have f9:=d5.1;have g1:(s:Int)<n:=(by omega);clear H7 hA hs hc h3 d5;go_wp2_with (first|(at_builtin;refine app1 rfl _ _ _ rfl yP wq.heap.size _ q (nats ((mJ d p a).take q)) rfl h6.out _ rfl rfl ?c1 ?c2 ?c3 ?_)|fail)
        case c1=>unfold maxLen;omega
        case c2=>omega
        case c3=>exact i2
        intro sa' sc' w6 H3 e3 g6;have i8:=Kh H3;have j3:=Kh e3;clear H3 e3;go_wp2;go_roundg (n-(q+1))
        case measure=>have:=f3.out;omega
        case rel =>
         refine⟨q+1,sa',sc',by omega,by go_num,rfl,?_,zA H9.out j3.out (fun q e=>(h6.out.lt q e).1)⟩;rw[c8.out,vZ];exact i8.out
       ·have H5:q=n:=by have:=f3.out;omega
        have e7:(mJ d p a).length=n:=by rw[rI,h5.out]
        have i6:Hid ((mJ d p a).take q=mJ d p a):=Kh (by rw[H5,<-e7];exact List.take_length);have l1:=Kh H5;rw[i6.out]at h6;obtain⟨kb,rfl,i1,i0,h0⟩:=yG h6.out (by omega);have k3:=(h6.out.lt kb rfl).1;have b4:=xD d p a
        have f6:=Kh (both_any (g5+1) wr.heap.size wr (.slice (some ⟨g5,0,none⟩) n n) (.slice (some ⟨kb,0,none⟩) q sc) (uR d p a) (mJ d p a) (by have:=h3.size;omega) (Nat.le_refl _)
         (kU (H0.out.kept h3 (by simp)) (by rw[b4,h5.out]) (by omega)) (Row.of_owns h6.out) (by rw[e7,b4,h5.out]) (by rw[b4,h5.out];omega)
         (fun c hc=>by have:=refTo_lt f1.out a c hc;rw[h5.out]at this;omega) (fun c hc=>by have:=colTo_lt c7.out (by omega) c hc;omega) (by rw[b4,h5.out];omega))
        clear H5 h0;go_wp2_with fail;refine f6.out.mono ?_;rintro e w7 ⟨g7,rfl,k7,c5,a2⟩;have e8:qAP (uR d p a) (mJ d p a)=uR d p (a+1):=rfl;rw[e8]at c5⊢;have e0:(uR d p (a+1)).length=n:=by rw[xD,h5.out]
        rw[e0];have i7:=Kh c5.row;have j2:=Kh (zD (zD h4.out H9.out) a2);have j7:=H9.out.size;clear c5 a2 f6 e8 e0;go_wp2;go_roundg (k-(a+1))
        case measure=>have:=b3.out;omega
        case rel=>exact⟨a+1,g7,by omega,by go_num,rfl,by omega,i7.out,j2.out⟩
     ·have e9:a=k:=by have:=b3.out;omega
      have j5:Hid (uR d p a=uR d p k):=Kh (by rw[e9]);rw[j5.out]at H0;have g9:(uR d p k).length=n:=by rw[xD,h5.out]
      have H8:=same03_any (g5+1) (g+1) wq (.slice (some ⟨g5,0,none⟩) n n) (.slice (some ⟨g,0,none⟩) n n) ((uR d p k).map fun(x:Nat)=>(x:Int)) (p.map fun(x:Nat)=>(x:Int))
       (by rw[<-qZ];exact kU H0.out g9 (by omega)) (by rw[<-qZ];exact kU (b7.out.kept h4.out (by simp)) h5.out (by omega))
      rw[cast_dec]at H8;have H8:=Kh H8;clear e9;by_cases he:uR d p k=p
      ·rw[decide_eq_true he]at H8
       have j4:Hid (yW d k=p):=Kh (by
        have h1:=HG.out;rw[HP.out];rw[HP.out]at he
        exact pO (by rw[HN.out];omega) he)
       clear he;go_wp2_with fail;refine H8.out.mono ?_;rintro e w8 ⟨rfl,m8,rfl⟩;go_wp2;go_ret;rw[qIC,j4.out];refine⟨g,by rw[h5.out];rfl,by have:=f2.out;omega,(b7.out.kept h4.out (by simp)).kept (zM _ _ none) (by simp),?_⟩;exact zD (zD j1.out (zD H1.out h4.out)) (zM _ _ _)
      ·rw[decide_eq_false he]at H8
       have b0:Hid (m+1<cls (yX d k (m+1))):=Kh (by
        have h1:=oP HD.out h5.out f1.out he;have h2:=i9.out;rw[<-HP.out]at h2;show m+1<cls (uR d (yX d k m) k);rw[<-HP.out]
        omega)
       have j0:Hid (yX d k (m+1)=uR d p k):=Kh (by rw[HP.out];rfl)
       have k2:m+1<n:=by
        have h1:=b0.out;have h2:=gC (yX d k (m+1));rw[yZ,HN.out]at h2;omega
       clear he;go_wp2_with fail;refine H8.out.mono ?_;rintro e w8 ⟨rfl,m8,rfl⟩;go_wp2;go_roundg (n-(m+1))
       case measure=>have:=HG.out;omega
       case rel=>exact⟨m+1,g5,by omega,b0.out,rfl,c4,by rw[j0.out];exact H0.out.kept (zM _ _ none) (by simp),zD (zD H1.out h4.out) (zM _ _ _)⟩
end Go.Proofs.Ytjfdomfendbhfaa
