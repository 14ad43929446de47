/- Part 4 of the proof: DecP, DfaPlain. -/
import Derived.Test.YtjfdomfendbhfaaQe3
set_option linter.unusedVariables false
set_option linter.unusedSimpArgs false
namespace Go.Proofs.Ytjfdomfendbhfaa
theorem sM {α:Type} {l m:List α} {x:α} (h:l <+: m) {i:Nat} (hi:i < l.length):m.getD i x=l.getD i x:=by
 obtain⟨r,rfl⟩:=h
 simp[List.getD,List.getElem?_append_left hi]
theorem eD {np:Nat} {cs cs':List ChoV} (h:cs <+: cs') {i:Nat} (hi:i < cs.length):choB np cs' i=choB np cs i:=by
 have e:∀ p r,refB cs' i p r=refB cs i p r:=fun p r=>by
  unfold refB
  by_cases h1:0<=r/\r<=1+(i:Int)
  ·by_cases h2:r < 2
   ·simp[h2]
   ·rw[sM h (show r.toNat - 2 < cs.length by omega)]
  ·simp[h1]
 unfold choB
 rw[sM h hi,e,e]
theorem chosTo_pre {np k:Nat} {cs cs':List ChoV} (h:cs <+: cs') (hk:k<=cs.length):xD np cs' k ↔ xD np cs k :=
 ⟨fun hc i hi=>by rw[<- eD h (by omega)];exact hc i hi,fun hc i hi=>by rw[eD h (by omega)];exact hc i hi⟩
theorem fY {np:Nat} {cs cs':List ChoV} {m:Nat->Bool} (h:cs <+: cs') (hc:xD np cs cs.length):∀ (f:Nat) (r:Int),r<=1+(cs.length:Int)->decF cs' m f r=decF cs m f r
 | 0,r,_=>rfl
 | f+1,r,hr=>by
  rw[decF,decF]
  split
  ·rfl
  ·rename_i h2
   have hi:r.toNat - 2 < cs.length:=by omega
   rw[sM h hi]
   have hf:=pD (hc _ hi)
   split
   ·exact fY h hc f _ (by omega)
   ·exact fY h hc f _ (by omega)
theorem aW {np:Nat} {cs cs':List ChoV} {m:Nat->Bool} (h:cs <+: cs') (hc:xD np cs cs.length) {r:Int} (hr:r<=1+(cs.length:Int)):decG cs' m r=decG cs m r:=fY h hc _ r hr
structure ClaV where
 m:List Bool
 yes:Int
 no:Int
deriving Inhabited
def ClaV.b (c:ClaV):Bool:=decide (0<=c.yes)
def pF (l:List ClaV) (p:Nat):Prop:=∀ c∈l,∀ c'∈l,∀ q,q < p->c.m.getD q false=c'.m.getD q false
structure ClsOk (np:Nat) (l:List ClaV):Prop where
 len:∀ c∈l,c.m.length=np
 nd:(l.map ClaV.m).Nodup
def yesL (l:List ClaV) (p:Nat):List ClaV:=l.filter fun c=>c.m.getD p false
def noL (l:List ClaV) (p:Nat):List ClaV:=l.filter fun c=>!c.m.getD p false
theorem eM (l:List ClaV) (p:Nat):(yesL l p).length+(noL l p).length=l.length:=by
 induction l with
 | nil=>rfl
 | cons c l ih =>
  unfold yesL noL at ih ⊢
  rw[List.filter_cons,List.filter_cons]
  generalize c.m.getD p false=b
  cases b
  ·rw[if_neg (by decide),if_pos (by decide),List.length_cons,List.length_cons];omega
  ·rw[if_pos (by decide),if_neg (by decide),List.length_cons,List.length_cons];omega
theorem ClsOk.sub {np:Nat} {l l':List ClaV} (h:ClsOk np l) (hs:l'.Sublist l):ClsOk np l' :=
 ⟨fun c hc=>h.len c (hs.mem hc),h.nd.sublist (hs.map _)⟩
theorem pF.sub {l l':List ClaV} {p:Nat} (h:pF l p) (hs:l'.Sublist l):pF l' p:=fun c hc c' hc'=>h c (hs.mem hc) c' (hs.mem hc')
theorem pF.yes {l:List ClaV} {p:Nat} (h:pF l p):pF (yesL l p) (p+1):=fun c hc c' hc' q hq=>by
 have h1:=List.mem_filter.1 hc
 have h2:=List.mem_filter.1 hc'
 rcases Nat.lt_succ_iff_lt_or_eq.1 hq with hq|rfl
 ·exact h c h1.1 c' h2.1 q hq
 ·rw[h1.2,h2.2]
theorem pF.no {l:List ClaV} {p:Nat} (h:pF l p):pF (noL l p) (p+1):=fun c hc c' hc' q hq=>by
 have h1:=List.mem_filter.1 hc
 have h2:=List.mem_filter.1 hc'
 rcases Nat.lt_succ_iff_lt_or_eq.1 hq with hq|rfl
 ·exact h c h1.1 c' h2.1 q hq
 ·have e1:=h1.2;have e2:=h2.2
  simp only[Bool.not_eq_true']at e1 e2
  rw[e1,e2]
theorem pF.skip {l:List ClaV} {p:Nat} (h:pF l p) (he:(yesL l p).length=0\/(noL l p).length=0):pF l (p+1):=fun c hc c' hc' q hq=>by
 rcases Nat.lt_succ_iff_lt_or_eq.1 hq with hq|rfl
 ·exact h c hc c' hc' q hq
 ·rcases he with he|he
  ·have h0:=List.eq_nil_of_length_eq_zero he
   have key:∀ c∈l,c.m.getD q false=false:=fun c hc=>by
    by_cases h1:c.m.getD q false=true
    ·have:c∈yesL l q:=List.mem_filter.2 ⟨hc,h1⟩
     rw[h0]at this;cases this
    ·simpa using h1
   rw[key c hc,key c' hc']
  ·have h0:=List.eq_nil_of_length_eq_zero he
   have key:∀ c∈l,c.m.getD q false=true:=fun c hc=>by
    by_cases h1:c.m.getD q false=true
    ·exact h1
    ·have:c∈noL l q:=List.mem_filter.2 ⟨hc,by simpa using h1⟩
     rw[h0]at this;cases this
   rw[key c hc,key c' hc']
theorem pF.one {np:Nat} {l:List ClaV} (h:pF l np) (hl:ClsOk np l):l.length<=1:=by
 match l,h,hl with
 | [],_,_=>simp
 | [c],_,_=>simp
 | c :: c' :: r,h,hl =>
  exfalso
  have e:c.m=c'.m:=by
   refine List.ext_getElem (by rw[hl.len c (by simp),hl.len c' (by simp)]) fun i h1 h2=>?_
   have:=h c (by simp) c' (by simp) i (by rw[<- hl.len c (by simp)];exact h1)
   rwa [zF h1,zF h2]at this
  have:=hl.nd
  simp[e]at this
def sA (l:List ClaV):Bool:=l.all fun c=>c.b == (l.headD default).b
def mW (b:Bool):Int:=if b then 1 else 0
theorem const_of_one {l:List ClaV} (h:l.length<=1):sA l=true:=by
 match l,h with
 | [],_=>rfl
 | [c],_=>simp[sA]
structure DecOk (np:Nat) (cs cs':List ChoV) (l:List ClaV) (p:Nat) (r:Int):Prop where
 pre:cs <+: cs'
 ok:xD np cs' cs'.length
 nd:cs'.Nodup
 lo:0<=r
 hi:r<=1+(cs'.length:Int)
 pat:2<=r->(p:Int)<=(cs'.getD (r.toNat - 2) default).p
 dec:∀ c∈l,decG cs' (fun i=>c.m.getD i false) r=c.b
 few:cs'.length+1<=cs.length+l.length
theorem DecOk.const {np:Nat} {cs:List ChoV} {l:List ClaV} {p:Nat} (hc:xD np cs cs.length) (hn:cs.Nodup) (h0:0 < l.length) {b:Bool} (h:∀ c∈l,c.b=b):DecOk np cs cs l p (mW b):=by
 have hb:mW b=0\/mW b=1:=by cases b <;> simp[mW]
 refine⟨List.prefix_refl _,hc,hn,by omega,by omega,fun h2=>by omega,fun c hc=>?_,by omega⟩
 rw[aX _ _ (by omega),h c hc]
 cases b <;> rfl
theorem mP {np:Nat} {cs cs':List ChoV} {l:List ClaV} {p q:Nat} {r:Int} (h:DecOk np cs cs' l p r) (hq:q<=p):DecOk np cs cs' l q r :=
 ⟨h.pre,h.ok,h.nd,h.lo,h.hi,fun h2=>by have:=h.pat h2;omega,h.dec,h.few⟩
section
variable {np:Nat} {cs c1 c2:List ChoV} {l:List ClaV} {p:Nat} {rn ry:Int}
theorem jK (hn:DecOk np cs c1 (noL l p) (p+1) rn) (hy:DecOk np c1 c2 (yesL l p) (p+1) ry):∀ c∈l,decG c2 (fun i=>c.m.getD i false) (if c.m.getD p false then ry else rn)=c.b:=fun c hc=>by
 by_cases h:c.m.getD p false=true
 ·rw[if_pos h];exact hy.dec c (List.mem_filter.2 ⟨hc,h⟩)
 ·rw[if_neg h,aW hy.pre hn.ok hn.hi]
  exact hn.dec c (List.mem_filter.2 ⟨hc,by simpa using h⟩)
theorem DecOk.same (hn:DecOk np cs c1 (noL l p) (p+1) rn) (hy:DecOk np c1 c2 (yesL l p) (p+1) ry) (e:ry=rn):DecOk np cs c2 l p ry:=by
 have h1:=hn.few;have h2:=hy.few
 have h3:=eM l p
 refine⟨hn.pre.trans hy.pre,hy.ok,hy.nd,hy.lo,hy.hi,fun h=>by have:=hy.pat h;omega,fun c hc=>?_,by omega⟩
 have:=jK hn hy c hc
 rwa [<- e,ite_self]at this
theorem cho_ok (hp:p < np) (hn:DecOk np cs c1 (noL l p) (p+1) rn) (hy:DecOk np c1 c2 (yesL l p) (p+1) ry):refB c2 c2.length (p:Int) ry=true/\refB c2 c2.length (p:Int) rn=true:=by
 have hl:=hy.pre.length_le
 have h1:=hn.hi;have h2:=hy.hi;have h3:=hn.lo;have h4:=hy.lo
 constructor
 ·simp only[refB,Bool.and_eq_true,decide_eq_true_eq]
  refine⟨by omega,?_⟩
  rcases Int.lt_or_le ry 2 with h|h
  ·exact .inl h
  ·have:=hy.pat h;exact .inr (by omega)
 ·simp only[refB,Bool.and_eq_true,decide_eq_true_eq]
  refine⟨by omega,?_⟩
  rcases Int.lt_or_le rn 2 with h|h
  ·exact .inl h
  ·have h5:=hn.pat h
   rw[sM hy.pre (by omega)]
   exact .inr (by omega)
theorem DecOk.old (hp:p < np) (hn:DecOk np cs c1 (noL l p) (p+1) rn) (hy:DecOk np c1 c2 (yesL l p) (p+1) ry) {i:Nat} (hi:i < c2.length) (e:c2.getD i default=⟨p,ry,rn⟩):DecOk np cs c2 l p (2+(i:Int)):=by
 have h1:=hn.few;have h2:=hy.few
 have h3:=eM l p
 have e0:(2+(i:Int)).toNat - 2=i:=by omega
 refine⟨hn.pre.trans hy.pre,hy.ok,hy.nd,by omega,by omega,fun h=>by rw[e0,e];exact Int.le_refl _,fun c hc=>?_,by omega⟩
 have:=jK hn hy c hc
 rw[jL hy.ok (by omega) (by omega),e0,e]
 exact this
theorem DecOk.new (hp:p < np) (hn:DecOk np cs c1 (noL l p) (p+1) rn) (hy:DecOk np c1 c2 (yesL l p) (p+1) ry) (hm:(⟨p,ry,rn⟩:ChoV) ∉ c2) (hY:0 < (yesL l p).length) (hN:0 < (noL l p).length):DecOk np cs (c2 ++ [⟨p,ry,rn⟩]) l p (2+(c2.length:Int)):=by
 have h1:=hn.few;have h2:=hy.few
 have h3:=eM l p
 have h0:c2 <+: c2 ++ [⟨p,ry,rn⟩]:=List.prefix_append _ _
 have e0:(2+(c2.length:Int)).toNat - 2=c2.length:=by omega
 have e1:(c2 ++ [(⟨p,ry,rn⟩:ChoV)]).getD c2.length default=⟨p,ry,rn⟩:=by rw[List.getD_eq_getElem?_getD];simp
 have h8:xD np (c2 ++ [⟨p,ry,rn⟩]) (c2 ++ [(⟨p,ry,rn⟩:ChoV)]).length:=by
  rw[List.length_append,List.length_singleton]
  refine oZ ((chosTo_pre h0 (Nat.le_refl _)).2 hy.ok) ?_
  obtain⟨h4,h5⟩:=cho_ok hp hn hy
  have e2:∀ r,refB c2 c2.length (p:Int) r=true->refB (c2 ++ [(⟨p,ry,rn⟩:ChoV)]) c2.length (p:Int) r=true:=fun r h=>by
   simp only[refB,Bool.and_eq_true,decide_eq_true_eq]at h ⊢
   refine⟨h.1,?_⟩
   rcases Int.lt_or_le r 2 with h6|h6
   ·exact .inl h6
   ·rcases h.2 with h7|h7
    ·omega
    ·rw[sM h0 (by omega)];exact .inr h7
  unfold choB
  rw[e1]
  simp only[Bool.and_eq_true,decide_eq_true_eq]
  exact⟨by omega,e2 _ h4,e2 _ h5⟩
 refine⟨(hn.pre.trans hy.pre).trans h0,h8,?_,by omega,by simp;omega,fun h=>by rw[e0,e1];exact Int.le_refl _,fun c hc=>?_,by simp;omega⟩
 ·rw[List.nodup_append]
  exact⟨hy.nd,by simp,fun a ha b hb e=>by simp at hb;subst hb;subst e;exact hm ha⟩
 ·have h6:=jK hn hy c hc
  rw[jL h8 (by omega) (by simp;omega),e0,e1]
  show decG _ _ (if c.m.getD (p:Int).toNat false then ry else rn)=_
  rw[Int.toNat_natCast]
  have hr:(if c.m.getD p false then ry else rn)<=1+(c2.length:Int):=by
   have:=hy.hi;have:=hn.hi;have:=hy.pre.length_le
   split <;> omega
  rw[aW h0 hy.ok hr];exact h6
end
end Go.Proofs.Ytjfdomfendbhfaa
namespace Go.Proofs.Ytjfdomfendbhfaa
structure DfaV where
 letters:Int
 start:Int
 final:List Bool
 next:List (List Int)
def rowD (letters:Int) (n:Nat) (r:List Int):Bool:=decide ((r.length:Int)=letters) && r.all fun x=>decide (0<=x/\x < n)
def xW (d:DfaV):Int :=
 if d.letters < 1\/6 < d.letters then 1 else if 512 < d.final.length then 3
 else if d.final.length=0\/d.next.length≠d.final.length\/d.start < 0\/d.final.length<=d.start then 4
 else if d.next.all (rowD d.letters d.final.length) then 0 else 4
structure VD (d:DfaV) (n k:Nat):Prop where
 hk:d.letters=k
 k1:1<=k
 k6:k<=6
 hn:d.final.length=n
 n1:1<=n
 nbig:n<=4194304
 nl:d.next.length=n
 s0:0<=d.start
 sn:d.start < n
 row:∀ q,q < n->(d.next.getD q []).length=k
 lo:∀ q a,q < n->a < k->0<=ent d.next q a
 hi:∀ q a,q < n->a < k->ent d.next q a < n
theorem pG {k:Int} {n:Nat} {r:List Int}:rowD k n r=true ↔ (r.length:Int)=k/\∀ y,y < r.length->0<=r.getD y 0/\r.getD y 0 < n:=by
 simp only[rowD,Bool.and_eq_true,decide_eq_true_eq,List.all_eq_true]
 refine and_congr_right fun _=>⟨fun h y hy=>?_,fun h x hx=>?_⟩
 ·have:=h (r[y]) (List.getElem_mem hy)
  rwa [<- zF (d:=0) hy]at this
 ·obtain⟨y,hy,rfl⟩:=List.getElem_of_mem hx
  have:=h y hy
  rwa [zF hy]at this
theorem bA {d:DfaV} (h:xW d=0):VD d d.final.length d.letters.toNat:=by
 unfold xW at h
 split at h
 ·omega
 rename_i h1
 split at h
 ·omega
 rename_i h2
 split at h
 ·omega
 rename_i h3
 split at h
 ·rename_i h4
  rw[List.all_eq_true]at h4
  have hr:∀ q,q < d.next.length->rowD d.letters d.final.length (d.next.getD q [])=true:=fun q hq=>by
   rw[zF hq];exact h4 _ (List.getElem_mem hq)
  have h0:d.next.length=d.final.length:=by
   apply Classical.byContradiction;intro hh;exact h3 (.inr (.inl hh))
  refine⟨by omega,by omega,by omega,rfl,by omega,by omega,h0,by omega,by omega,fun q hq=>?_,fun q a hq ha=>?_,fun q a hq ha=>?_⟩
  ·have:=(pG.1 (hr q (by omega))).1;omega
  ·obtain⟨e,h⟩:=pG.1 (hr q (by omega))
   exact(h a (by omega)).1
  ·obtain⟨e,h⟩:=pG.1 (hr q (by omega))
   exact(h a (by omega)).2
 ·omega
theorem qH {d:DfaV} {n k:Nat} (h:VD d n k) (h5:n<=512):xW d=0:=by
 unfold xW
 rw[if_neg (by have:=h.hk;have:=h.k1;have:=h.k6;omega),if_neg (by have:=h.hn;omega),
  if_neg (by have:=h.hn;have:=h.n1;have:=h.nl;have:=h.s0;have:=h.sn;omega),if_pos]
 rw[List.all_eq_true]
 intro r hr
 obtain⟨q,hq,rfl⟩:=List.getElem_of_mem hr
 have h0:q < n:=by have:=h.nl;omega
 rw[pG]
 have hl:=h.row q h0
 rw[zF hq]at hl
 refine⟨by rw[hl,h.hk],fun y hy=>?_⟩
 have h1:=h.lo q y h0 (by omega)
 have h2:=h.hi q y h0 (by omega)
 unfold ent at h1 h2
 rw[zF hq]at h1 h2
 rw[h.hn]
 exact⟨h1,h2⟩
def nx (d:DfaV) (q a:Nat):Nat:=entN d.next q a
theorem qAX {d:DfaV} {n k:Nat} (h:VD d n k) {q a:Nat} (hq:q < n) (ha:a < k):(nx d q a:Int)=ent d.next q a:=Int.toNat_of_nonneg (h.lo q a hq ha)
theorem qF {d:DfaV} {n k:Nat} (h:VD d n k) {q a:Nat} (hq:q < n) (ha:a < k):nx d q a < n:=by
 have h1:=qAX h hq ha
 have h2:=h.hi q a hq ha
 omega
def st0 (d:DfaV):Nat:=d.start.toNat
theorem gQ {d:DfaV} {n k:Nat} (h:VD d n k):(st0 d:Int)=d.start:=Int.toNat_of_nonneg h.s0
theorem rB {d:DfaV} {n k:Nat} (h:VD d n k):st0 d < n:=by have:=gQ h;have:=h.sn;omega
def finB (b:Bool):Int:=if b then 1 else 0
def qP (d:DfaV):List Nat:=numb (d.final.map finB)
def pV (d:DfaV) (p:List Nat) (a:Nat):List Nat:=(List.range p.length).map fun q=>p.getD (nx d q a) 0
def aD (m:Nat) (a b:Nat):Int:=(a:Int) * (m+1)+b
def bL (p q:List Nat):List Int:=List.zipWith (aD p.length) p q
def eG (p q:List Nat):List Nat:=numb (bL p q)
def sD (d:DfaV) (p:List Nat):Nat->List Nat
 | 0=>p
 | k+1=>eG (sD d p k) (pV d p k)
theorem qO (d:DfaV):(qP d).length=d.final.length:=by simp[qP,yA]
theorem yT (d:DfaV) (p:List Nat) (a:Nat):(pV d p a).length=p.length:=by simp[pV]
theorem sP {p q:List Nat} (h:q.length=p.length):(bL p q).length=p.length:=by simp[bL,h]
theorem lM {p q:List Nat} (h:q.length=p.length):(eG p q).length=p.length:=by rw[eG,yA,sP h]
theorem yX (d:DfaV) (p:List Nat):∀ k,(sD d p k).length=p.length
 | 0=>rfl
 | k+1=>by rw[sD,lM (by rw[yT,yX d p k]),yX d p k]
theorem oO {p:List Nat} (h:Norm p):∀ c∈p,c < p.length:=by
 intro c hc
 have h1:=qAY (l:=p)
 rw[h]at h1
 have:=h1 c hc
 have:=vJ p
 omega
theorem iT {m a b a' b':Nat} (hb:b<=m) (hb':b'<=m):aD m a b=aD m a' b' ↔ a=a'/\b=b':=by
 unfold aD
 constructor
 ·intro h
  have h':a * (m+1)+b=a' * (m+1)+b':=by exact_mod_cast h
  have e1:(a * (m+1)+b) / (m+1)=a:=by rw[Nat.mul_comm,Nat.mul_add_div (by omega),Nat.div_eq_of_lt (by omega)];omega
  have e2:(a' * (m+1)+b') / (m+1)=a':=by rw[Nat.mul_comm,Nat.mul_add_div (by omega),Nat.div_eq_of_lt (by omega)];omega
  have ha:a=a':=by rw[<- e1,<- e2,h']
  subst ha
  exact⟨rfl,by omega⟩
 ·rintro ⟨rfl,rfl⟩;rfl
theorem cV {p q:List Nat} (h:q.length=p.length) (hq:∀ c∈q,c < p.length) {i j:Nat} (hi:i < p.length) (hj:j < p.length) :
  (eG p q).getD i 0=(eG p q).getD j 0 ↔ p.getD i 0=p.getD j 0/\q.getD i 0=q.getD j 0:=by
 have h1:i < (bL p q).length:=by rw[sP h];exact hi
 have h0:j < (bL p q).length:=by rw[sP h];exact hj
 rw[eG,rT h1 h0]
 simp only[bL,List.getElem_zipWith]
 rw[iT (Nat.le_of_lt (hq _ (List.getElem_mem _))) (Nat.le_of_lt (hq _ (List.getElem_mem _))),zF hi,zF hj,zF (show i < q.length by omega),zF (show j < q.length by omega)]
theorem pA {d:DfaV} {p:List Nat} {a i:Nat} (hi:i < p.length):(pV d p a).getD i 0=p.getD (nx d i a) 0:=by
 rw[zF (by rw[yT];exact hi)];simp[pV]
theorem rG {p:List Nat} {n i:Nat} (h:∀ c∈p,c < n) (hn:0 < n):p.getD i 0 < n:=by
 by_cases hi:i < p.length
 ·rw[zF hi];exact h _ (List.getElem_mem hi)
 ·rw[List.getD,List.getElem?_eq_none (by omega)];exact hn
theorem vS {d:DfaV} {n k:Nat} (hd:VD d n k) {p:List Nat} (hp:p.length=n) (hlt:∀ c∈p,c < n) {i j:Nat} (hi:i < n) (hj:j < n) :
  ∀ m,m<=k->((sD d p m).getD i 0=(sD d p m).getD j 0 ↔ p.getD i 0=p.getD j 0/\∀ a,a < m->p.getD (nx d i a) 0=p.getD (nx d j a) 0)
 | 0,_=>by simp[sD]
 | m+1,hm=>by
  rw[sD,cV (by rw[yT,yX]) (fun c hc=>?_) (by rw[yX];omega) (by rw[yX];omega),vS hd hp hlt hi hj m (by omega),pA (by omega),pA (by omega)]
  ·constructor
   ·rintro ⟨⟨h1,h2⟩,h3⟩
    refine⟨h1,fun a ha=>?_⟩
    rcases Nat.lt_succ_iff_lt_or_eq.1 ha with ha|rfl
    ·exact h2 a ha
    ·exact h3
   ·rintro ⟨h1,h2⟩
    exact⟨⟨h1,fun a ha=>h2 a (by omega)⟩,h2 m (by omega)⟩
  ·rw[yX,hp]
   obtain⟨q,hq,rfl⟩:=List.mem_map.1 hc
   exact rG hlt hd.n1
theorem mF {d:DfaV} {p:List Nat} (hp:Norm p):∀ m,Norm (sD d p m)
 | 0=>hp
 | m+1=>qR _
def cls (p:List Nat):Nat:=(zV p).length
theorem eB {p q:List Nat} (hl:q.length=p.length) (h:∀ i j,i < p.length->j < p.length->q.getD i 0=q.getD j 0->p.getD i 0=p.getD j 0) :
  cls p<=cls q/\(cls p=cls q->∀ i j,i < p.length->j < p.length->p.getD i 0=p.getD j 0->q.getD i 0=q.getD j 0):=by
 -- the classes of q are mapped onto those of p
 let f:Nat->Nat:=fun c=>p.getD (q.idxOf c) 0
 have hf:∀ i,i < p.length->f (q.getD i 0)=p.getD i 0:=by
  intro i hi
  have h9:i < q.length:=by omega
  have hm:q.getD i 0∈q:=by rw[zF h9];exact List.getElem_mem _
  have h8:=List.idxOf_lt_length_of_mem hm
  refine h _ i (by omega) hi ?_
  rw[zF h8,List.getElem_idxOf]
 have h3:∀ c∈zV p,c∈(zV q).map f:=by
  intro c hc
  obtain⟨i,hi,rfl⟩:=List.getElem_of_mem (xL.1 hc)
  rw[List.mem_map]
  refine⟨q.getD i 0,xL.2 (by rw[zF (by omega)];exact List.getElem_mem _),?_⟩
  rw[hf i hi,zF hi]
 have h5:(zV p).length<=((zV q).map f).length:=(uY p).length_le_of_subset h3
 rw[List.length_map]at h5
 refine⟨h5,fun e i j hi hj hp=>?_⟩
 have h4:∀ x∈zV q,∀ y∈zV q,f x=f y->x=y:=by
  intro x hx y hy h6
  apply Classical.byContradiction
  intro h7
  have h0:∀ c∈zV p,c∈((zV q).erase x).map f:=by
   intro c hc
   obtain⟨z,hz,rfl⟩:=List.mem_map.1 (h3 c hc)
   by_cases e:z=x
   ·subst e
    exact List.mem_map.2 ⟨y,(List.mem_erase_of_ne (Ne.symm h7)).2 hy,h6.symm⟩
   ·exact List.mem_map.2 ⟨z,(List.mem_erase_of_ne e).2 hz,rfl⟩
  have h1:=(uY p).length_le_of_subset h0
  rw[List.length_map,List.length_erase_of_mem hx]at h1
  have h2:=List.length_pos_of_mem hx
  unfold cls at e
  omega
 have mem:∀ i,i < p.length->q.getD i 0∈zV q:=fun i hi=>xL.2 (by rw[zF (by omega)];exact List.getElem_mem _)
 exact h4 _ (mem i hi) _ (mem j hj) (by rw[hf i hi,hf j hj,hp])
end Go.Proofs.Ytjfdomfendbhfaa
