/- Part 20 of the proof: PatLang, BB0. -/
import Derived.Test.YtjfdomfendbhfaaQe11
set_option linter.unusedVariables false
set_option linter.unusedSimpArgs false
namespace Go.Proofs.Ytjfdomfendbhfaa
def TlN:List (List Nat)->List Nat->Prop
 | [],r=>r=[]
 | u :: us,r=>∃ p r',r=p ++ u ++ r'/\TlN us r'
def PatN:List (List Nat)->List Nat->Prop
 | [],_=>False
 | b :: us,s=>∃ r,s=b ++ r/\TlN us r
theorem TlN.more {us:List (List Nat)} {r:List Nat} (p:List Nat) (h0:us≠[]) (h:TlN us r):TlN us (p ++ r):=by
 match us,h0,h with
 | u :: us,_,⟨q,r',h,ht⟩=>exact⟨p ++ q,r',by rw[h];simp only[List.append_assoc],ht⟩
def fP (u t:List Nat):Nat->Nat
 | 0=>0
 | l+1=>if u.take (l+1) <:+ t then l+1 else fP u t l
def kmp (u t:List Nat):Nat:=fP u t u.length
theorem aM (u t:List Nat):∀ l,fP u t l<=l
 | 0=>Nat.le_refl _
 | l+1=>by
  unfold fP
  split
  ·exact Nat.le_refl _
  ·exact Nat.le_succ_of_le (aM u t l)
theorem dS (u t:List Nat):∀ l,u.take (fP u t l) <:+ t
 | 0=>by simp[fP]
 | l+1=>by
  unfold fP
  split
  ·assumption
  ·exact dS u t l
theorem dT (u t:List Nat):∀ l m,m<=l->u.take m <:+ t->m<=fP u t l
 | 0,m,h,_=>by omega
 | l+1,m,h,hs=>by
  unfold fP
  split
  ·omega
  ·rename_i hn
   have:m≠l+1:=fun e=>hn (e ▸ hs)
   exact dT u t l m (by omega) hs
theorem sL (u t:List Nat):kmp u t<=u.length:=aM u t _
theorem tX (u t:List Nat):u.take (kmp u t) <:+ t:=dS u t _
theorem oR {u t:List Nat} {m:Nat} (h:m<=u.length) (hs:u.take m <:+ t):m<=kmp u t:=dT u t _ m h hs
theorem kB {u t:List Nat}:kmp u t=u.length ↔ u <:+ t:=by
 constructor
 ·intro h
  have:=tX u t
  rwa [h,List.take_length]at this
 ·intro h
  exact Nat.le_antisymm (sL u t) (oR (Nat.le_refl _) (by rwa [List.take_length]))
theorem kmp_nil (u:List Nat):kmp u []=0:=by
 have h:=tX u []
 have h1:=List.suffix_nil.1 h
 have h2:=congrArg List.length h1
 rw[List.length_take,List.length_nil]at h2
 have:=sL u []
 omega
theorem suffix_snoc {x t:List Nat} {b a:Nat}:x ++ [b] <:+ t ++ [a] ↔ b=a/\x <:+ t:=by
 constructor
 ·rintro ⟨p,h⟩
  rw[<- List.append_assoc]at h
  obtain⟨h1,h2⟩:=List.append_inj' h rfl
  exact⟨by simpa using h2,⟨p,h1⟩⟩
 ·rintro ⟨rfl,p,rfl⟩
  exact⟨p,by simp⟩
theorem kL {u:List Nat} {l:Nat} (h:l < u.length):u.take (l+1)=u.take l ++ [u.getD l 0]:=zW (d:=0) h
theorem tL {u t:List Nat} {l a:Nat} (h:l < u.length):u.take (l+1) <:+ t ++ [a] ↔ u.getD l 0=a/\u.take l <:+ t:=by
 rw[kL h,suffix_snoc]
theorem fO (u t:List Nat) (a:Nat):kmp u (t ++ [a])=kmp u (u.take (kmp u t) ++ [a]):=by
 refine Nat.le_antisymm ?_ ?_
 ·have hs:=tX u (t ++ [a])
  have hl:=sL u (t ++ [a])
  generalize kmp u (t ++ [a])=m at hs hl ⊢
  cases m with
  | zero=>exact Nat.zero_le _
  | succ l =>
   obtain⟨h1,h2⟩:=(tL (by omega)).1 hs
   refine oR hl ((tL (by omega)).2 ⟨h1,?_⟩)
   have h3:=oR (show l<=u.length by omega) h2
   refine List.suffix_of_suffix_length_le h2 (tX u t) ?_
   rw[List.length_take,List.length_take];omega
 ·refine oR (sL _ _) (List.IsSuffix.trans (tX u _) ?_)
  obtain⟨p,hp⟩:=tX u t
  refine⟨p,?_⟩
  rw[<- List.append_assoc,hp]
theorem qCP {u:List Nat} {j:Nat} (h:j < u.length):kmp u (u.take j ++ [u.getD j 0])=j+1:=by
 rw[<- kL h]
 refine Nat.le_antisymm ?_ (oR h (List.suffix_refl _))
 have h1:=(tX u (u.take (j+1))).length_le
 have h2:=sL u (u.take (j+1))
 rw[List.length_take,List.length_take]at h1
 omega
theorem nU {u:List Nat} {j:Nat} (h:j<=u.length):((u.take j).drop 1).length=j - 1:=by
 rw[List.length_drop,List.length_take];omega
theorem kmp_back {u:List Nat} {j a:Nat} (h0:0 < j) (h:j<=u.length) (hn:j=u.length\/u.getD j 0≠a):kmp u (u.take j ++ [a])=kmp u ((u.take j).drop 1 ++ [a]):=by
 refine Nat.le_antisymm ?_ ?_
 ·have hs:=tX u (u.take j ++ [a])
  have hl:=sL u (u.take j ++ [a])
  refine oR hl ?_
  have h2:kmp u (u.take j ++ [a])<=j:=by
   apply Classical.byContradiction
   intro h3
   have h1:=hs.length_le
   rw[List.length_take,List.length_append,List.length_take]at h1
   simp only[List.length_singleton]at h1
   have e:kmp u (u.take j ++ [a])=j+1:=by omega
   rw[e]at hs
   have:=((tL (by omega)).1 hs).1
   rcases hn with hn|hn
   ·omega
   ·exact hn this
  refine List.suffix_of_suffix_length_le hs (?_:(u.take j).drop 1 ++ [a] <:+ u.take j ++ [a]) ?_
  ·refine⟨(u.take j).take 1,?_⟩
   rw[<- List.append_assoc,List.take_append_drop]
  ·rw[List.length_take,List.length_append,nU h]
   simp only[List.length_singleton]
   omega
 ·refine oR (sL _ _) ((tX u _).trans ?_)
  refine⟨(u.take j).take 1,?_⟩
  rw[<- List.append_assoc,List.take_append_drop]
def pW (u:List Nat) (j:Nat):Nat:=kmp u ((u.take j).drop 1)
theorem eH {u:List Nat} {j:Nat} (h0:0 < j) (h:j<=u.length):pW u j < j:=by
 have h1:=(tX u ((u.take j).drop 1)).length_le
 have h2:=sL u ((u.take j).drop 1)
 rw[nU h,List.length_take]at h1
 unfold pW
 omega
theorem backK_one {u:List Nat} (h:1<=u.length):pW u 1=0:=by have:=eH (u:=u) (j:=1) (by omega) h;omega
theorem backK_next {u:List Nat} {j:Nat} (h0:0 < j) (h:j < u.length):pW u (j+1)=kmp u (u.take (pW u j) ++ [u.getD j 0]):=by
 unfold pW
 rw[kL h,<- fO]
 congr 1
 rw[List.drop_append_of_le_length (by rw[List.length_take];omega)]
theorem aL {u:List Nat} {j a:Nat} (h0:0 < j) (h:j<=u.length) (hn:j=u.length\/u.getD j 0≠a):kmp u (u.take j ++ [a])=kmp u (u.take (pW u j) ++ [a]):=by
 rw[kmp_back h0 h hn,fO];rfl
theorem aK {u:List Nat} {a:Nat} (hn:u=[]\/u.getD 0 0≠a):kmp u (u.take 0 ++ [a])=0:=by
 have hs:=tX u (u.take 0 ++ [a])
 have hl:=sL u (u.take 0 ++ [a])
 have h1:=hs.length_le
 rw[List.length_take]at h1
 simp only[List.take_zero,List.nil_append,List.length_singleton]at h1 hs hl ⊢
 rcases hn with rfl|hn
 ·simpa using hl
 ·apply Classical.byContradiction
  intro h0
  have e:kmp u [a]=0+1:=by omega
  rw[e]at hs
  exact hn ((tL (t:=[]) (by omega)).1 hs).1
def qCJ (d:DfaV) (k c:Nat) (u:List Nat) (m:Nat):Prop:=∀ j a,j < m->a < k->nx d (c+j) a=c+kmp u (u.take j ++ [a])
theorem gY {d:DfaV} {k c:Nat} {u:List Nat} {m:Nat} (h:qCJ d k c u m) (hm:u.length<=m):∀ (n:Nat) (t:List Nat),t.length=n->zX k t->(∀ t1 a t2,t=t1 ++ a :: t2->kmp u t1 < m)->run d c t=c+kmp u t
 | 0,t,hl,_,_=>by
  have:=List.eq_nil_of_length_eq_zero hl
  subst this
  rw[kmp_nil];rfl
 | n+1,t,hl,hw,hn=>by
  have hne:t≠[]:=by intro e;subst e;simp at hl
  have e:=(List.dropLast_concat_getLast hne).symm
  have h0:t.dropLast.length=n:=by rw[List.length_dropLast];omega
  rw[e]at hw hn ⊢
  have h1:=gY h hm n t.dropLast h0 (fun a ha=>hw a (List.mem_append_left _ ha)) (fun t1 a t2 e2=>hn t1 a (t2 ++ [t.getLast hne]) (by rw[e2];simp))
  rw[gW,h1,h _ _ (hn _ _ [] rfl) (hw _ (by simp)),<- fO]
def nZ (d:DfaV) (k:Nat):Nat->List (List Nat)->Nat->Prop
 | c,[],F=>c=F/\∀ a,a < k->nx d c a=0
 | c,[v],F=>F=c+v.length/\qCJ d k c v (v.length+1)
 | c,u :: v :: us,F=>u≠[]/\qCJ d k c u u.length/\nZ d k (c+u.length) (v :: us) F
theorem nZ.le {d:DfaV} {k:Nat}:∀ {us:List (List Nat)} {c F:Nat},nZ d k c us F->c<=F
 | [],c,F,h=>Nat.le_of_eq h.1
 | [v],c,F,h=>by have:=h.1;omega
 | u :: v :: us,c,F,h=>by have:=nZ.le h.2.2;omega
theorem first_end (u r:List Nat):(∀ t,t <+: r->¬ u <:+ t)\/∃ t r',r=t ++ r'/\u <:+ t/\∀ t1 a t2,t=t1 ++ a :: t2->¬ u <:+ t1:=by
 by_cases h:∃ l,u <:+ r.take l
 ·have key:∀ n l,l<=n->u <:+ r.take l->∃ l,u <:+ r.take l/\∀ m,m < l->¬ u <:+ r.take m:=fun n=>by
   induction n with
   | zero=>intro l hl hu;exact⟨l,hu,fun m hm=>by omega⟩
   | succ n ih =>
    intro l hl hu
    by_cases h2:∃ m,m < l/\u <:+ r.take m
    ·obtain⟨m,hm,h0⟩:=h2
     exact ih m (by omega) h0
    ·exact⟨l,hu,fun m hm h0=>h2 ⟨m,hm,h0⟩⟩
  obtain⟨l0,h1⟩:=h
  obtain⟨l,hf,hm⟩:=key l0 l0 (Nat.le_refl _) h1
  refine .inr ⟨r.take l,r.drop l,(List.take_append_drop l r).symm,hf,fun t1 a t2 e hs=>?_⟩
  have hl:t1.length < l:=by
   have:=congrArg List.length e
   rw[List.length_take,List.length_append,List.length_cons]at this
   omega
  refine hm _ hl ?_
  have:r.take t1.length=t1:=by
   have e2:(r.take l).take t1.length=t1:=by rw[e,List.take_left]
   rwa [List.take_take,Nat.min_eq_left (by omega)]at e2
  rwa [this]
 ·refine .inl fun t ht hs=>h ⟨t.length,?_⟩
  rwa [<- List.prefix_iff_eq_take.1 ht]
theorem gX {d:DfaV} {k:Nat} (h:∀ a,a < k->nx d 0 a=0):∀ (w:List Nat),zX k w->run d 0 w=0
 | [],_=>rfl
 | a :: w,hw=>by
  show run d (nx d 0 a) w=0
  rw[h a (hw a (by simp))]
  exact gX h w (fun b hb=>hw b (List.mem_cons_of_mem _ hb))
theorem bV {d:DfaV} {k:Nat} (h0:∀ a,a < k->nx d 0 a=0):∀ {us:List (List Nat)} {c F:Nat},0 < F->nZ d k c us F->∀ r,zX k r->(run d c r=F ↔ TlN us r)
 | [],c,F,hF,h,r,hr=>by
  obtain⟨rfl,h⟩:=h
  cases r with
  | nil=>exact⟨fun _=>rfl,fun _=>rfl⟩
  | cons a r =>
   constructor
   ·intro e
    have:run d (nx d c a) r=c:=e
    rw[h a (hr a (by simp)),gX h0 r (fun b hb=>hr b (List.mem_cons_of_mem _ hb))]at this
    omega
   ·intro e;cases e
 | [v],c,F,hF,h,r,hr=>by
  obtain⟨rfl,h⟩:=h
  rw[gY h (by omega) r.length r rfl hr (fun t1 a t2 _=>by have:=sL v t1;omega)]
  have e:c+kmp v r=c+v.length ↔ kmp v r=v.length:=by omega
  rw[e,kB]
  constructor
  ·rintro ⟨p,rfl⟩;exact⟨p,[],by simp,rfl⟩
  ·rintro ⟨p,r',rfl,rfl⟩;exact⟨p,by simp⟩
 | u :: v :: us,c,F,hF,h,r,hr=>by
  obtain⟨hu,hb,ht⟩:=h
  have h5:=nZ.le ht
  rcases first_end u r with hno|⟨t,r',rfl,hs,hmin⟩
  ·have h1:∀ t,t <+: r->kmp u t < u.length:=fun t ht=>by
    have:=sL u t
    have:kmp u t≠u.length:=fun e=>hno t ht (kB.1 e)
    omega
   rw[gY hb (Nat.le_refl _) r.length r rfl hr (fun t1 a t2 e=>h1 t1 ⟨a :: t2,e.symm⟩)]
   have:=h1 r (List.prefix_refl r)
   constructor
   ·intro e;omega
   ·rintro ⟨p,q,e,_⟩
    exact absurd ⟨p,rfl⟩ (hno (p ++ u) ⟨q,e.symm⟩)
  ·have hk:∀ t1 a t2,t=t1 ++ a :: t2->kmp u t1 < u.length:=fun t1 a t2 e=>by
    have:=sL u t1
    have:kmp u t1≠u.length:=fun e2=>hmin t1 a t2 e (kB.1 e2)
    omega
   have h3:zX k t:=fun a ha=>hr a (List.mem_append_left _ ha)
   have h4:zX k r':=fun a ha=>hr a (List.mem_append_right _ ha)
   rw[run_append,gY hb (Nat.le_refl _) t.length t rfl h3 hk,kB.2 hs,bV h0 hF ht r' h4]
   constructor
   ·intro h
    obtain⟨p,rfl⟩:=hs
    exact⟨p,r',rfl,h⟩
   ·rintro ⟨p,q,e,h⟩
    -- the first place is not behind this one
    have h2:t.length<=(p ++ u).length:=by
     apply Classical.byContradiction
     intro h1
     have e1:p ++ u=t.take (p ++ u).length:=by
      have:=congrArg (List.take (p ++ u).length) e
      rw[List.take_left,List.take_append_of_le_length (by omega)]at this
      exact this.symm
     have e2:t=(p ++ u) ++ t.drop (p ++ u).length:=by
      conv=>lhs;rw[<- List.take_append_drop (p ++ u).length t]
      rw[<- e1]
     cases hd:t.drop (p ++ u).length with
     | nil=>have:=congrArg List.length hd;rw[List.length_drop]at this;simp at this;simp at h1;omega
     | cons a t2 =>
      rw[hd]at e2
      exact hmin (p ++ u) a t2 e2 ⟨p,rfl⟩
    have e3:r'=(p ++ u).drop t.length ++ q:=by
     have:=congrArg (List.drop t.length) e
     rw[List.drop_left,List.drop_append_of_le_length h2]at this
     exact this
    rw[e3]
    exact h.more _ (by simp)
def qCZ (d:DfaV) (k:Nat) (b:List Nat):Prop:=∀ j a,j < b.length->a < k->nx d (1+j) a=if b.getD j 0=a then 2+j else 0
theorem iL {d:DfaV} {k:Nat} {b:List Nat} (h0:∀ a,a < k->nx d 0 a=0) (h:qCZ d k b):∀ (m j:Nat),b.length - j=m->j<=b.length->∀ s,zX k s ->
  (∃ r,s=b.drop j ++ r/\run d (1+j) s=run d (1+b.length) r)\/((¬ ∃ r,s=b.drop j ++ r)/\run d (1+j) s < 1+b.length)
 | 0,j,hm,hj,s,hs=>.inl ⟨s,by rw[show j=b.length by omega];simp,by rw[show j=b.length by omega]⟩
 | m+1,j,hm,hj,s,hs=>by
  have hd:b.drop j=b.getD j 0 :: b.drop (j+1):=by
   rw[List.drop_eq_getElem_cons (show j < b.length by omega),zF (show j < b.length by omega)]
  cases s with
  | nil =>
   refine .inr ⟨?_,?_⟩
   ·rintro ⟨r,e⟩;rw[hd]at e;cases e
   ·show 1+j < _;omega
  | cons a s =>
   have ha:a < k:=hs a (by simp)
   have h3:zX k s:=fun b hb=>hs b (List.mem_cons_of_mem _ hb)
   have e1:run d (1+j) (a :: s)=run d (nx d (1+j) a) s:=rfl
   rw[e1,h j a (by omega) ha]
   by_cases e:b.getD j 0=a
   ·rw[if_pos e]
    rcases iL h0 h m (j+1) (by omega) (by omega) s h3 with ⟨r,e2,e3⟩|⟨h1,h2⟩
    ·refine .inl ⟨r,by rw[hd,e,e2];rfl,?_⟩
     rw[<- e3,show 2+j=1+(j+1) by omega]
    ·refine .inr ⟨?_,by rw[show 2+j=1+(j+1) by omega];exact h2⟩
     rintro ⟨r,e2⟩
     rw[hd]at e2
     simp only[List.cons_append,List.cons.injEq]at e2
     exact h1 ⟨r,e2.2⟩
   ·rw[if_neg e,gX h0 s h3]
    refine .inr ⟨?_,by omega⟩
    rintro ⟨r,e2⟩
    rw[hd]at e2
    simp only[List.cons_append,List.cons.injEq]at e2
    exact e e2.1.symm
theorem pat_run {d:DfaV} {k F:Nat} {b:List Nat} {us:List (List Nat)} (h0:∀ a,a < k->nx d 0 a=0) (hp:qCZ d k b) (ht:nZ d k (1+b.length) us F) (s:List Nat) (hs:zX k s):run d 1 s=F ↔ PatN (b :: us) s:=by
 have hF:=ht.le
 rcases iL h0 hp _ 0 rfl (Nat.zero_le _) s hs with ⟨r,e,e2⟩|⟨h1,h2⟩
 ·rw[List.drop_zero]at e
  subst e
  rw[show (1:Nat)=1+0 by rfl,e2,bV h0 (by omega) ht r (fun a ha=>hs a (List.mem_append_right _ ha))]
  exact⟨fun h=>⟨r,rfl,h⟩,fun⟨q,e,h⟩=>by rw[List.append_cancel_left e];exact h⟩
 ·rw[List.drop_zero]at h1
  constructor
  ·intro e;rw[show (1:Nat)+0=1 by rfl]at h2;omega
  ·rintro ⟨r,e,_⟩;exact absurd ⟨r,e⟩ h1
def hJ (k c:Nat) (u:List Nat) (j:Nat):List Int:=(List.range k).map fun a=>((c+kmp u (u.take j ++ [a]):Nat):Int)
def yS (k c:Nat) (u:List Nat) (m:Nat):List (List Int):=(List.range m).map (hJ k c u)
def dD (k:Nat) (b:List Nat) (j:Nat):List Int:=(List.range k).map fun a=>((if b.getD j 0=a then 2+j else 0:Nat):Int)
def vT (k:Nat) (b:List Nat) (m:Nat):List (List Int):=(List.range m).map (dD k b)
def xC (k:Nat):Nat->List (List Nat)->List (List Int)
 | _,[]=>[List.replicate k 0]
 | c,[v]=>yS k c v (v.length+1)
 | c,u :: v :: us=>yS k c u u.length ++ xC k (c+u.length) (v :: us)
def vV (k:Nat) (bs:List (List Nat)):List (List Int):=match bs with
 | []=>[]
 | b :: us=>List.replicate k 0 :: (vT k b b.length ++ xC k (1+b.length) us)
def patD (k:Nat) (bs:List (List Nat)):DfaV:=⟨k,1,List.replicate ((vV k bs).length - 1) false ++ [true],vV k bs⟩
def yE (us:List (List Nat)):Nat:=(us.map List.length).sum
theorem vR (k:Nat):∀ (us:List (List Nat)) (c:Nat),(xC k c us).length=yE us+1
 | [],c=>rfl
 | [v],c=>by simp[xC,yS,yE]
 | u :: v :: us,c=>by
  have:=vR k (v :: us) (c+u.length)
  simp only[xC,List.length_append,this,yS,List.length_map,List.length_range,yE,List.map_cons,List.sum_cons]
  omega
theorem sU (k:Nat) (b:List Nat) (us:List (List Nat)):(vV k (b :: us)).length=2+b.length+yE us:=by
 simp only[vV,List.length_cons,List.length_append,vR,vT,List.length_map,List.length_range];omega
theorem yQ {α:Type} (f:Nat->α) {m i:Nat} (h:i < m) (x:α):((List.range m).map f).getD i x=f i:=by
 rw[zF (by simpa using h)];simp
theorem xM {α:Type} {l m:List α} {i:Nat} (x:α):(l ++ m).getD (l.length+i) x=m.getD i x:=by
 simp only[List.getD_eq_getElem?_getD]
 rw[List.getElem?_append_right (by omega)]
 congr 2;omega
theorem yC {α:Type} {l m:List α} {i:Nat} (h:i < l.length) (x:α):(l ++ m).getD i x=l.getD i x:=by
 simp only[List.getD_eq_getElem?_getD]
 rw[List.getElem?_append_left h]
def From (d:DfaV) (c:Nat) (l:List (List Int)):Prop:=∀ i,i < l.length->d.next.getD (c+i) []=l.getD i []
theorem From.nx {d:DfaV} {c:Nat} {l:List (List Int)} (h:From d c l) {i:Nat} (hi:i < l.length) (a:Nat):nx d (c+i) a=((l.getD i []).getD a 0).toNat:=by
 unfold Go.Proofs.Ytjfdomfendbhfaa.nx entN
 show (ent d.next (c+i) a).toNat=_
 unfold ent
 rw[h i hi]
theorem From.left {d:DfaV} {c:Nat} {l m:List (List Int)} (h:From d c (l ++ m)):From d c l:=fun i hi=>by
 rw[h i (by rw[List.length_append];omega),yC hi]
theorem From.right {d:DfaV} {c:Nat} {l m:List (List Int)} (h:From d c (l ++ m)):From d (c+l.length) m:=fun i hi=>by
 have:=h (l.length+i) (by rw[List.length_append];omega)
 rw[xM]at this
 rw[<- this];congr 1;omega
theorem mJ {k c j a:Nat} {u:List Nat} (h:a < k):(hJ k c u j).getD a 0=((c+kmp u (u.take j ++ [a]):Nat):Int):=yQ _ h _
theorem From.block {d:DfaV} {k c:Nat} {u:List Nat} {m:Nat} (h:From d c (yS k c u m)):qCJ d k c u m:=fun j a hj ha=>by
 rw[h.nx (by simpa [yS] using hj),yS,yQ _ hj,mJ ha];omega
theorem From.tail {d:DfaV} {k:Nat}:∀ {us:List (List Nat)} {c:Nat},From d c (xC k c us)->(∀ u∈us.dropLast,u≠[])->nZ d k c us (c+yE us)
 | [],c,h,_=>⟨rfl,fun a ha=>by
  have:=h.nx (i:=0) (by simp[xC]) a
  simpa [xC,List.getD,List.getElem?_replicate,ha] using this⟩
 | [v],c,h,_=>⟨by simp[yE],From.block h⟩
 | u :: v :: us,c,h,hne=>by
  refine⟨hne u (by simp),From.block (From.left h),?_⟩
  have h2:=From.right h
  rw[show (yS k c u u.length).length=u.length by simp[yS]]at h2
  have:=From.tail h2 (fun w hw=>hne w (by rw[List.dropLast_cons_of_ne_nil (by simp)];exact List.mem_cons_of_mem _ hw))
  rwa [show c+yE (u :: v :: us)=c+u.length+yE (v :: us) by simp[yE];omega]
theorem fD (k:Nat) (b:List Nat) (us:List (List Nat)):From (patD k (b :: us)) 1 (vT k b b.length ++ xC k (1+b.length) us):=fun i hi=>by
 show (vV k (b :: us)).getD (1+i) []=_
 unfold vV
 rw[Nat.add_comm]
 rfl
theorem pat_pre (k:Nat) (b:List Nat) (us:List (List Nat)):qCZ (patD k (b :: us)) k b:=fun j a hj ha=>by
 rw[(fD k b us).left.nx (by simpa [vT] using hj),vT,yQ _ hj,dD,yQ _ ha];omega
theorem pat_sink (k:Nat) (b:List Nat) (us:List (List Nat)):∀ a,a < k->nx (patD k (b :: us)) 0 a=0:=fun a ha=>by
 show (((List.replicate k (0:Int)).getD a 0)).toNat=0
 simp[List.getD,List.getElem?_replicate,ha]
theorem pat_tail (k:Nat) (b:List Nat) (us:List (List Nat)) (h:∀ u∈us.dropLast,u≠[]):nZ (patD k (b :: us)) k (1+b.length) us (1+b.length+yE us):=by
 have:=(fD k b us).right
 rw[show (vT k b b.length).length=b.length by simp[vT]]at this
 exact From.tail this h
theorem pat_final {k:Nat} {b:List Nat} {us:List (List Nat)} {q:Nat}:(patD k (b :: us)).final.getD q false=decide (q=1+b.length+yE us):=by
 show (List.replicate ((vV k (b :: us)).length - 1) false ++ [true]).getD q false=_
 rw[sU,show 2+b.length+yE us - 1=1+b.length+yE us by omega]
 generalize 1+b.length+yE us=m
 simp only[List.getD_eq_getElem?_getD]
 rcases Nat.lt_trichotomy q m with h|rfl|h
 ·rw[List.getElem?_append_left (by simpa using h),List.getElem?_replicate,if_pos h,decide_eq_false (by omega)];rfl
 ·rw[List.getElem?_append_right (by simp)];simp
 ·rw[List.getElem?_append_right (by simp;omega),decide_eq_false (by omega)]
  rw[List.length_replicate,List.getElem?_eq_none (by simp;omega)];rfl
theorem kM (k:Nat):∀ (us:List (List Nat)) (c i:Nat),i < (xC k c us).length->((xC k c us).getD i []).length=k/\∀ a,a < k->0<=((xC k c us).getD i []).getD a 0/\((xC k c us).getD i []).getD a 0<=((c+yE us:Nat):Int)
 | [],c,i,h=>by
  have:i=0:=by simpa [xC] using h
  subst this
  refine⟨by simp[xC],fun a ha=>?_⟩
  simp[xC,List.getD,List.getElem?_replicate,ha]
  omega
 | [v],c,i,h=>by
  simp only[xC,yS,List.length_map,List.length_range]at h ⊢
  rw[yQ _ h]
  refine⟨by simp[hJ],fun a ha=>?_⟩
  rw[mJ ha]
  have:=sL v (v.take i ++ [a])
  simp only[yE,List.map_cons,List.map_nil,List.sum_cons,List.sum_nil]
  omega
 | u :: v :: us,c,i,h=>by
  simp only[xC]at h ⊢
  have hl:(yS k c u u.length).length=u.length:=by simp[yS]
  by_cases hi:i < u.length
  ·rw[yC (by omega),yS,yQ _ hi]
   refine⟨by simp[hJ],fun a ha=>?_⟩
   rw[mJ ha]
   have:=sL u (u.take i ++ [a])
   simp only[yE,List.map_cons,List.sum_cons]
   omega
  ·have e:i=(yS k c u u.length).length+(i - u.length):=by omega
   rw[e,xM]
   have:=kM k (v :: us) (c+u.length) (i - u.length) (by rw[List.length_append]at h;omega)
   rwa [show c+yE (u :: v :: us)=c+u.length+yE (v :: us) by simp[yE];omega]
theorem pat_vd {k:Nat} {b:List Nat} {us:List (List Nat)} (h1:1<=k) (h6:k<=6) (hl:b.length+yE us<=64):VD (patD k (b :: us)) (2+b.length+yE us) k:=by
 have hn:=sU k b us
 have key:∀ q,q < 2+b.length+yE us->((patD k (b :: us)).next.getD q []).length=k/\∀ a,a < k->0<=((patD k (b :: us)).next.getD q []).getD a 0/\((patD k (b :: us)).next.getD q []).getD a 0 < ((2+b.length+yE us:Nat):Int):=by
  intro q hq
  cases q with
  | zero =>
   refine⟨by simp[patD,vV],fun a ha=>?_⟩
   simp[patD,vV,List.getD,List.getElem?_replicate,ha]
   omega
  | succ q =>
   have e:=fD k b us q (by rw[List.length_append,vR];simp[vT];omega)
   rw[Nat.add_comm]at e
   rw[e]
   have h0:(vT k b b.length).length=b.length:=by simp[vT]
   by_cases hi:q < b.length
   ·rw[yC (by omega),vT,yQ _ hi]
    refine⟨by simp[dD],fun a ha=>?_⟩
    rw[dD,yQ _ ha]
    split <;> omega
   ·rw[show q=(vT k b b.length).length+(q - b.length) by omega,xM]
    have:=kM k us (1+b.length) (q - b.length) (by rw[vR];omega)
    refine⟨this.1,fun a ha=>?_⟩
    have:=this.2 a ha
    omega
 exact⟨rfl,h1,h6,by show (List.replicate _ false ++ [true]).length=_;rw[List.length_append,List.length_replicate,hn];simp;omega,by omega,by omega,hn,by show (0:Int)<=1;omega,by show (1:Int) < _;omega,fun q hq=>(key q hq).1,fun q a hq ha=>((key q hq).2 a ha).1,fun q a hq ha=>((key q hq).2 a ha).2⟩
theorem pat_acc {k:Nat} {b:List Nat} {us:List (List Nat)} (hne:∀ u∈us.dropLast,u≠[]) {s:List Nat} (hs:zX k s):acc (patD k (b :: us)) (st0 (patD k (b :: us))) s=true ↔ PatN (b :: us) s:=by
 unfold acc
 rw[pat_final,decide_eq_true_eq]
 exact pat_run (pat_sink k b us) (pat_pre k b us) (pat_tail k b us hne) s hs
end Go.Proofs.Ytjfdomfendbhfaa
namespace Go.Proofs.Ytjfdomfendbhfaa
open Go.RowKit
theorem cI {gs:List Nat} {i:Nat} (h:i < gs.length):gs.getD i 0∈gs:=by rw[zF h];exact List.getElem_mem h
theorem nodupN_getD {gs:List Nat} (hn:gs.Nodup) {i j:Nat} (hi:i < gs.length) (hj:j < gs.length) (e:gs.getD i 0=gs.getD j 0):i=j:=by
 rw[zF hi,zF hj]at e
 rw[<- hn.idxOf_getElem i hi,e,hn.idxOf_getElem j hj]
theorem set_getD_same {α:Type} {l:List α} {i:Nat} {x y:α} (h:i < l.length):(l.set i x).getD i y=x:=by
 rw[zF (by simpa using h)];simp
theorem set_getD_ne {α:Type} {l:List α} {i j:Nat} {x y:α} (h:i≠j):(l.set i x).getD j y=l.getD j y:=by
 simp only[List.getD_eq_getElem?_getD]
 rw[List.getElem?_set_ne h]
theorem qK {α:Type} {l:List α} {x y:α} {n:Nat} (h:n=l.length):(l ++ [x]).getD n y=x:=by
 subst h
 rw[zF (by simp)];simp
theorem bW {α:Type} {l:List α} {x y:α} {n:Nat} (h:n=l.length):(l ++ [x]).set n y=l ++ [y]:=by
 subst h
 rw[List.set_append_right _ _ (Nat.le_refl _),Nat.sub_self];rfl
def zI (s:ByteArray):List Nat:=s.data.toList.map fun c=>c.toNat - 97
theorem yH (s:ByteArray):(zI s).length=s.size:=by simp[zI]
theorem rY {s:ByteArray} {i:Nat} (h:i < s.size):(zI s).getD i 0=s[i].toNat - 97:=by
 rw[zF (by rw[yH];exact h)]
 simp[zI];rfl
theorem iV {k:Nat} {c:UInt8}:tJ (k:Int) c=true ↔ 97<=c.toNat/\c.toNat - 97 < k:=by
 unfold tJ
 rw[decide_eq_true_eq];omega
theorem wV {s:ByteArray} {k:Nat} (h:zP s (k:Int)=true):zX k (zI s)/\(∀ i (hi:i < s.size),97<=s[i].toNat/\s[i].toNat - 97 < k)/\s.size<=2048:=by
 simp only[zP,Bool.and_eq_true,decide_eq_true_eq,List.all_eq_true]at h
 refine⟨fun a ha=>?_,fun i hi=>?_,h.1.2.2⟩
 ·obtain⟨c,hc,rfl⟩:=List.mem_map.1 ha
  exact(iV.1 (h.2 c hc)).2
 ·have hm:s[i]∈s.data.toList:=by
   have:s[i]=s.data.toList[i]'(by simpa using hi):=by simp;rfl
   rw[this];exact List.getElem_mem _
  exact iV.1 (h.2 _ hm)
theorem qAJ {c:Nat} (h:97<=c) (h2:c < 256):IntKind.u8.wrap ((c:Int) - 97)=((c - 97:Nat):Int):=by
 unfold IntKind.wrap;simp[IntKind.bits,IntKind.signed];omega
theorem byte_facts0 {u:ByteArray} {k i:Nat} (h:∀ i (hi:i < u.size),97<=u[i].toNat/\u[i].toNat - 97 < k) (hi:i < u.size):∃ b a:Nat,(u[i].toNat:Int)=(b:Int)/\IntKind.u8.wrap ((b:Int) - 97)=(a:Int)/\((b:Int) - 97) % 256=(a:Int)/\a < k/\(zI u).getD i 0=a:=by
 have hb:=h i hi
 have h0:u[i].toNat < 256:=u[i].toNat_lt
 exact⟨u[i].toNat,u[i].toNat - 97,rfl,qAJ hb.1 h0,by omega,hb.2,rY hi⟩
end Go.Proofs.Ytjfdomfendbhfaa
