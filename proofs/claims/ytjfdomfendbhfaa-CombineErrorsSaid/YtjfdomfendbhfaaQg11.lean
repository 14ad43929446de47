/- Part 11 of the proof. -/
import Derived.Test.YtjfdomfendbhfaaQg10
import Derived.Laws.IdiomCopy
import Derived.Deep.RegionLaw
import Derived.BigRegion
set_option linter.unusedVariables false
set_option linter.unusedSimpArgs false
set_option maxRecDepth 100000
set_option maxHeartbeats 16000000
namespace Go.Proofs.Ytjfdomfendbhfaa
def TlN:List (List Nat)->List Nat->Prop
 | [],r=>r=[]
 | u::us,r=>∃ p r',r=p++u++r'/\TlN us r'
def PatN:List (List Nat)->List Nat->Prop
 | [],_=>False
 | b::us,s=>∃ r,s=b++r/\TlN us r
theorem TlN.more {us:List (List Nat)}{r:List Nat}(p:List Nat)(h0:us≠[])(h:TlN us r):TlN us (p++r):=by
 match us,h0,h with
 | u::us,_,⟨q,r',h,ht⟩=>exact⟨p++q,r',by rw[h];simp only[List.append_assoc],ht⟩
def aI (u t:List Nat):Nat->Nat
 | 0=>0
 | l+1=>if u.take (l+1) <:+ t then l+1 else aI u t l
def kmp (u t:List Nat):Nat:=aI u t u.length
theorem qEF (u t:List Nat):∀ l,aI u t l<=l
 | 0=>Nat.le_refl _
 | l+1=>by
  unfold aI
  split
  ·exact Nat.le_refl _
  ·exact Nat.le_succ_of_le (qEF u t l)
theorem qBJ (u t:List Nat):∀ l,u.take (aI u t l) <:+ t
 | 0=>by simp[aI]
 | l+1=>by
  unfold aI
  split
  ·assumption
  ·exact qBJ u t l
theorem qBK (u t:List Nat):∀ l m,m<=l->u.take m <:+ t->m<=aI u t l
 | 0,m,h,_=>by omega
 | l+1,m,h,hs=>by
  unfold aI
  split
  ·omega
  ·rename_i hn
   have:m≠l+1:=fun e=>hn (e ▸ hs)
   exact qBK u t l m (by omega) hs
theorem qQ (u t:List Nat):kmp u t<=u.length:=qEF u t _
theorem rX (u t:List Nat):u.take (kmp u t) <:+ t:=qBJ u t _
theorem lQ {u t:List Nat}{m:Nat}(h:m<=u.length)(hs:u.take m <:+ t):m<=kmp u t:=qBK u t _ m h hs
theorem gC {u t:List Nat}:kmp u t=u.length ↔ u <:+ t:=by
 constructor
 ·intro h
  have:=rX u t
  rwa [h,List.take_length]at this
 ·intro h
  exact Nat.le_antisymm (qQ u t) (lQ (Nat.le_refl _) (by rwa [List.take_length]))
theorem kmp_nil (u:List Nat):kmp u []=0:=by
 have h:=rX u [];have h1:=List.suffix_nil.1 h;have h2:=congrArg List.length h1;rw[List.length_take,List.length_nil]at h2;have:=qQ u [];omega
theorem suffix_snoc {x t:List Nat}{b a:Nat}:x++[b] <:+ t++[a] ↔ b=a/\x <:+ t:=by
 constructor
 ·rintro ⟨p,h⟩
  rw[<- List.append_assoc]at h;obtain⟨h1,h2⟩:=List.append_inj' h rfl;exact⟨by simpa using h2,⟨p,h1⟩⟩
 ·rintro ⟨rfl,p,rfl⟩
  exact⟨p,by simp⟩
theorem gJ {u:List Nat}{l:Nat}(h:l<u.length):u.take (l+1)=u.take l++[u.getD l 0]:=zR (d:=0) h
theorem rJ {u t:List Nat}{l a:Nat}(h:l<u.length):u.take (l+1) <:+ t++[a] ↔ u.getD l 0=a/\u.take l <:+ t:=by
 rw[gJ h,suffix_snoc]
theorem aH (u t:List Nat)(a:Nat):kmp u (t++[a])=kmp u (u.take (kmp u t)++[a]):=by
 refine Nat.le_antisymm ?_ ?_
 ·have hs:=rX u (t++[a])
  have hl:=qQ u (t++[a])
  generalize kmp u (t++[a])=m at hs hl ⊢
  cases m with
  | zero=>exact Nat.zero_le _
  | succ l =>
   obtain⟨h1,h2⟩:=(rJ (by omega)).1 hs;refine lQ hl ((rJ (by omega)).2 ⟨h1,?_⟩);have h3:=lQ (show l<=u.length by omega) h2;refine List.suffix_of_suffix_length_le h2 (rX u t) ?_;rw[List.length_take,List.length_take];omega
 ·refine lQ (qQ _ _) (List.IsSuffix.trans (rX u _) ?_)
  obtain⟨p,hp⟩:=rX u t;refine⟨p,?_⟩;rw[<- List.append_assoc,hp]
theorem qHQ {u:List Nat}{j:Nat}(h:j<u.length):kmp u (u.take j++[u.getD j 0])=j+1:=by
 rw[<- gJ h];refine Nat.le_antisymm ?_ (lQ h (List.suffix_refl _));have h1:=(rX u (u.take (j+1))).length_le;have h2:=qQ u (u.take (j+1));rw[List.length_take,List.length_take]at h1;omega
theorem jC {u:List Nat}{j:Nat}(h:j<=u.length):((u.take j).drop 1).length=j - 1:=by
 rw[List.length_drop,List.length_take];omega
theorem kmp_back {u:List Nat}{j a:Nat}(h0:0<j)(h:j<=u.length)(hn:j=u.length\/u.getD j 0≠a):kmp u (u.take j++[a])=kmp u ((u.take j).drop 1++[a]):=by
 refine Nat.le_antisymm ?_ ?_
 ·have hs:=rX u (u.take j++[a])
  have hl:=qQ u (u.take j++[a]);refine lQ hl ?_
  have h2:kmp u (u.take j++[a])<=j:=by
   apply Classical.byContradiction;intro h3;have h1:=hs.length_le;rw[List.length_take,List.length_append,List.length_take]at h1;simp only[List.length_singleton]at h1;have e:kmp u (u.take j++[a])=j+1:=by omega
   rw[e]at hs;have:=((rJ (by omega)).1 hs).1;rcases hn with hn|hn
   ·omega
   ·exact hn this
  refine List.suffix_of_suffix_length_le hs (?_:(u.take j).drop 1++[a] <:+ u.take j++[a]) ?_
  ·refine⟨(u.take j).take 1,?_⟩
   rw[<- List.append_assoc,List.take_append_drop]
  ·rw[List.length_take,List.length_append,jC h]
   simp only[List.length_singleton];omega
 ·refine lQ (qQ _ _) ((rX u _).trans ?_)
  refine⟨(u.take j).take 1,?_⟩;rw[<- List.append_assoc,List.take_append_drop]
def mW (u:List Nat)(j:Nat):Nat:=kmp u ((u.take j).drop 1)
theorem aU {u:List Nat}{j:Nat}(h0:0<j)(h:j<=u.length):mW u j<j:=by
 have h1:=(rX u ((u.take j).drop 1)).length_le;have h2:=qQ u ((u.take j).drop 1);rw[jC h,List.length_take]at h1;unfold mW;omega
theorem backK_one {u:List Nat}(h:1<=u.length):mW u 1=0:=by have:=aU (u:=u) (j:=1) (by omega) h;omega
theorem backK_next {u:List Nat}{j:Nat}(h0:0<j)(h:j<u.length):mW u (j+1)=kmp u (u.take (mW u j)++[u.getD j 0]):=by
 unfold mW;rw[gJ h,<- aH];congr 1;rw[List.drop_append_of_le_length (by rw[List.length_take];omega)]
theorem qEE {u:List Nat}{j a:Nat}(h0:0<j)(h:j<=u.length)(hn:j=u.length\/u.getD j 0≠a):kmp u (u.take j++[a])=kmp u (u.take (mW u j)++[a]):=by
 rw[kmp_back h0 h hn,aH];rfl
theorem qED {u:List Nat}{a:Nat}(hn:u=[]\/u.getD 0 0≠a):kmp u (u.take 0++[a])=0:=by
 have hs:=rX u (u.take 0++[a]);have hl:=qQ u (u.take 0++[a]);have h1:=hs.length_le;rw[List.length_take]at h1;simp only[List.take_zero,List.nil_append,List.length_singleton]at h1 hs hl ⊢;rcases hn with rfl|hn
 ·simpa using hl
 ·apply Classical.byContradiction
  intro h0;have e:kmp u [a]=0+1:=by omega
  rw[e]at hs;exact hn ((rJ (t:=[]) (by omega)).1 hs).1
def qHI (d:DfaV)(k c:Nat)(u:List Nat)(m:Nat):Prop:=∀ j a,j<m->a<k->nx d (c+j) a=c+kmp u (u.take j++[a])
theorem bV {d:DfaV}{k c:Nat}{u:List Nat}{m:Nat}(h:qHI d k c u m)(hm:u.length<=m):∀ (n:Nat) (t:List Nat),t.length=n->yJ k t->(∀ t1 a t2,t=t1++a::t2->kmp u t1<m)->run d c t=c+kmp u t
 | 0,t,hl,_,_=>by
  have:=List.eq_nil_of_length_eq_zero hl
  subst this
  rw[kmp_nil];rfl
 | n+1,t,hl,hw,hn=>by
  have hne:t≠[]:=by intro e;subst e;simp at hl
  have e:=(List.dropLast_concat_getLast hne).symm
  have h0:t.dropLast.length=n:=by rw[List.length_dropLast];omega
  rw[e]at hw hn ⊢
  have h1:=bV h hm n t.dropLast h0 (fun a ha=>hw a (List.mem_append_left _ ha)) (fun t1 a t2 e2=>hn t1 a (t2++[t.getLast hne]) (by rw[e2];simp))
  rw[qDI,h1,h _ _ (hn _ _ [] rfl) (hw _ (by simp)),<- aH]
def jH (d:DfaV)(k:Nat):Nat->List (List Nat)->Nat->Prop
 | c,[],F=>c=F/\∀ a,a<k->nx d c a=0
 | c,[v],F=>F=c+v.length/\qHI d k c v (v.length+1)
 | c,u::v::us,F=>u≠[]/\qHI d k c u u.length/\jH d k (c+u.length) (v::us) F
theorem jH.le {d:DfaV}{k:Nat}:∀ {us:List (List Nat)} {c F:Nat},jH d k c us F->c<=F
 | [],c,F,h=>Nat.le_of_eq h.1
 | [v],c,F,h=>by have:=h.1;omega
 | u::v::us,c,F,h=>by have:=jH.le h.2.2;omega
theorem first_end (u r:List Nat):(∀ t,t <+: r->¬ u <:+ t)\/∃ t r',r=t++r'/\u <:+ t/\∀ t1 a t2,t=t1++a::t2->¬ u <:+ t1:=by
 by_cases h:∃ l,u <:+ r.take l
 ·have key:∀ n l,l<=n->u <:+ r.take l->∃ l,u <:+ r.take l/\∀ m,m<l->¬ u <:+ r.take m:=fun n=>by
   induction n with
   | zero=>intro l hl hu;exact⟨l,hu,fun m hm=>by omega⟩
   | succ n ih =>
    intro l hl hu;by_cases h2:∃ m,m<l/\u <:+ r.take m
    ·obtain⟨m,hm,h0⟩:=h2
     exact ih m (by omega) h0
    ·exact⟨l,hu,fun m hm h0=>h2 ⟨m,hm,h0⟩⟩
  obtain⟨l0,h1⟩:=h;obtain⟨l,hf,hm⟩:=key l0 l0 (Nat.le_refl _) h1;refine .inr ⟨r.take l,r.drop l,(List.take_append_drop l r).symm,hf,fun t1 a t2 e hs=>?_⟩
  have hl:t1.length<l:=by
   have:=congrArg List.length e;rw[List.length_take,List.length_append,List.length_cons]at this;omega
  refine hm _ hl ?_
  have:r.take t1.length=t1:=by
   have e2:(r.take l).take t1.length=t1:=by rw[e,List.take_left]
   rwa [List.take_take,Nat.min_eq_left (by omega)]at e2
  rwa [this]
 ·refine .inl fun t ht hs=>h ⟨t.length,?_⟩
  rwa [<- List.prefix_iff_eq_take.1 ht]
theorem bU {d:DfaV}{k:Nat}(h:∀ a,a<k->nx d 0 a=0):∀ (w:List Nat),yJ k w->run d 0 w=0
 | [],_=>rfl
 | a::w,hw=>by
  show run d (nx d 0 a) w=0
  rw[h a (hw a (by simp))]
  exact bU h w (fun b hb=>hw b (List.mem_cons_of_mem _ hb))
theorem qDF {d:DfaV}{k:Nat}(h0:∀ a,a<k->nx d 0 a=0):∀ {us:List (List Nat)} {c F:Nat},0<F->jH d k c us F->∀ r,yJ k r->(run d c r=F ↔ TlN us r)
 | [],c,F,hF,h,r,hr=>by
  obtain⟨rfl,h⟩:=h
  cases r with
  | nil=>exact⟨fun _=>rfl,fun _=>rfl⟩
  | cons a r =>
   constructor
   ·intro e
    have:run d (nx d c a) r=c:=e
    rw[h a (hr a (by simp)),bU h0 r (fun b hb=>hr b (List.mem_cons_of_mem _ hb))]at this
    omega
   ·intro e;cases e
 | [v],c,F,hF,h,r,hr=>by
  obtain⟨rfl,h⟩:=h
  rw[bV h (by omega) r.length r rfl hr (fun t1 a t2 _=>by have:=qQ v t1;omega)]
  have e:c+kmp v r=c+v.length ↔ kmp v r=v.length:=by omega
  rw[e,gC]
  constructor
  ·rintro ⟨p,rfl⟩;exact⟨p,[],by simp,rfl⟩
  ·rintro ⟨p,r',rfl,rfl⟩;exact⟨p,by simp⟩
 | u::v::us,c,F,hF,h,r,hr=>by
  obtain⟨hu,hb,ht⟩:=h
  have h5:=jH.le ht
  rcases first_end u r with hno|⟨t,r',rfl,hs,hmin⟩
  ·have h1:∀ t,t <+: r->kmp u t<u.length:=fun t ht=>by
    have:=qQ u t
    have:kmp u t≠u.length:=fun e=>hno t ht (gC.1 e)
    omega
   rw[bV hb (Nat.le_refl _) r.length r rfl hr (fun t1 a t2 e=>h1 t1 ⟨a::t2,e.symm⟩)]
   have:=h1 r (List.prefix_refl r)
   constructor
   ·intro e;omega
   ·rintro ⟨p,q,e,_⟩
    exact absurd ⟨p,rfl⟩ (hno (p++u) ⟨q,e.symm⟩)
  ·have hk:∀ t1 a t2,t=t1++a::t2->kmp u t1<u.length:=fun t1 a t2 e=>by
    have:=qQ u t1
    have:kmp u t1≠u.length:=fun e2=>hmin t1 a t2 e (gC.1 e2)
    omega
   have h3:yJ k t:=fun a ha=>hr a (List.mem_append_left _ ha)
   have h4:yJ k r':=fun a ha=>hr a (List.mem_append_right _ ha)
   rw[run_append,bV hb (Nat.le_refl _) t.length t rfl h3 hk,gC.2 hs,qDF h0 hF ht r' h4]
   constructor
   ·intro h
    obtain⟨p,rfl⟩:=hs
    exact⟨p,r',rfl,h⟩
   ·rintro ⟨p,q,e,h⟩
    have h2:t.length<=(p++u).length:=by
     apply Classical.byContradiction;intro h1
     have e1:p++u=t.take (p++u).length:=by
      have:=congrArg (List.take (p++u).length) e;rw[List.take_left,List.take_append_of_le_length (by omega)]at this;exact this.symm
     have e2:t=(p++u)++t.drop (p++u).length:=by
      conv=>lhs;rw[<- List.take_append_drop (p++u).length t]
      rw[<- e1]
     cases hd:t.drop (p++u).length with
     | nil=>have:=congrArg List.length hd;rw[List.length_drop]at this;simp at this;simp at h1;omega
     | cons a t2 =>
      rw[hd]at e2;exact hmin (p++u) a t2 e2 ⟨p,rfl⟩
    have e3:r'=(p++u).drop t.length++q:=by
     have:=congrArg (List.drop t.length) e;rw[List.drop_left,List.drop_append_of_le_length h2]at this;exact this
    rw[e3];exact h.more _ (by simp)
def qIH (d:DfaV)(k:Nat)(b:List Nat):Prop:=∀ j a,j<b.length->a<k->nx d (1+j) a=if b.getD j 0=a then 2+j else 0
theorem dV {d:DfaV}{k:Nat}{b:List Nat}(h0:∀ a,a<k->nx d 0 a=0)(h:qIH d k b):∀ (m j:Nat),b.length - j=m->j<=b.length->∀ s,yJ k s ->
  (∃ r,s=b.drop j++r/\run d (1+j) s=run d (1+b.length) r)\/((¬ ∃ r,s=b.drop j++r)/\run d (1+j) s<1+b.length)
 | 0,j,hm,hj,s,hs=>.inl ⟨s,by rw[show j=b.length by omega];simp,by rw[show j=b.length by omega]⟩
 | m+1,j,hm,hj,s,hs=>by
  have hd:b.drop j=b.getD j 0::b.drop (j+1):=by
   rw[List.drop_eq_getElem_cons (show j<b.length by omega),zG (show j<b.length by omega)]
  cases s with
  | nil =>
   refine .inr ⟨?_,?_⟩
   ·rintro ⟨r,e⟩;rw[hd]at e;cases e
   ·show 1+j<_;omega
  | cons a s =>
   have ha:a<k:=hs a (by simp);have h3:yJ k s:=fun b hb=>hs b (List.mem_cons_of_mem _ hb);have e1:run d (1+j) (a::s)=run d (nx d (1+j) a) s:=rfl;rw[e1,h j a (by omega) ha];by_cases e:b.getD j 0=a
   ·rw[if_pos e]
    rcases dV h0 h m (j+1) (by omega) (by omega) s h3 with ⟨r,e2,e3⟩|⟨h1,h2⟩
    ·refine .inl ⟨r,by rw[hd,e,e2];rfl,?_⟩
     rw[<- e3,show 2+j=1+(j+1) by omega]
    ·refine .inr ⟨?_,by rw[show 2+j=1+(j+1) by omega];exact h2⟩
     rintro ⟨r,e2⟩;rw[hd]at e2;simp only[List.cons_append,List.cons.injEq]at e2;exact h1 ⟨r,e2.2⟩
   ·rw[if_neg e,bU h0 s h3]
    refine .inr ⟨?_,by omega⟩;rintro ⟨r,e2⟩;rw[hd]at e2;simp only[List.cons_append,List.cons.injEq]at e2;exact e e2.1.symm
theorem pat_run {d:DfaV}{k F:Nat}{b:List Nat}{us:List (List Nat)}(h0:∀ a,a<k->nx d 0 a=0)(hp:qIH d k b)(ht:jH d k (1+b.length) us F)(s:List Nat)(hs:yJ k s):run d 1 s=F ↔ PatN (b::us) s:=by
 have hF:=ht.le;rcases dV h0 hp _ 0 rfl (Nat.zero_le _) s hs with ⟨r,e,e2⟩|⟨h1,h2⟩
 ·rw[List.drop_zero]at e
  subst e;rw[show (1:Nat)=1+0 by rfl,e2,qDF h0 (by omega) ht r (fun a ha=>hs a (List.mem_append_right _ ha))];exact⟨fun h=>⟨r,rfl,h⟩,fun⟨q,e,h⟩=>by rw[List.append_cancel_left e];exact h⟩
 ·rw[List.drop_zero]at h1
  constructor
  ·intro e;rw[show (1:Nat)+0=1 by rfl]at h2;omega
  ·rintro ⟨r,e,_⟩;exact absurd ⟨r,e⟩ h1
def bG (k c:Nat)(u:List Nat)(j:Nat):List Int:=(List.range k).map fun a=>((c+kmp u (u.take j++[a]):Nat):Int)
def xL (k c:Nat)(u:List Nat)(m:Nat):List (List Int):=(List.range m).map (bG k c u)
def qAQ (k:Nat)(b:List Nat)(j:Nat):List Int:=(List.range k).map fun a=>((if b.getD j 0=a then 2+j else 0:Nat):Int)
def tT (k:Nat)(b:List Nat)(m:Nat):List (List Int):=(List.range m).map (qAQ k b)
def xV (k:Nat):Nat->List (List Nat)->List (List Int)
 | _,[]=>[List.replicate k 0]
 | c,[v]=>xL k c v (v.length+1)
 | c,u::v::us=>xL k c u u.length++xV k (c+u.length) (v::us)
def tU (k:Nat)(bs:List (List Nat)):List (List Int):=match bs with
 | []=>[]
 | b::us=>List.replicate k 0::(tT k b b.length++xV k (1+b.length) us)
def patD (k:Nat)(bs:List (List Nat)):DfaV:=⟨k,1,List.replicate ((tU k bs).length - 1) false++[true],tU k bs⟩
def yG (us:List (List Nat)):Nat:=(us.map List.length).sum
theorem tR (k:Nat):∀ (us:List (List Nat)) (c:Nat),(xV k c us).length=yG us+1
 | [],c=>rfl
 | [v],c=>by simp[xV,xL,yG]
 | u::v::us,c=>by
  have:=tR k (v::us) (c+u.length)
  simp only[xV,List.length_append,this,xL,List.length_map,List.length_range,yG,List.map_cons,List.sum_cons]
  omega
theorem qZ (k:Nat)(b:List Nat)(us:List (List Nat)):(tU k (b::us)).length=2+b.length+yG us:=by
 simp only[tU,List.length_cons,List.length_append,tR,tT,List.length_map,List.length_range];omega
theorem xH {α:Type}(f:Nat->α){m i:Nat}(h:i<m)(x:α):((List.range m).map f).getD i x=f i:=by
 rw[zG (by simpa using h)];simp
theorem wG {α:Type}{l m:List α}{i:Nat}(x:α):(l++m).getD (l.length+i) x=m.getD i x:=by
 simp only[List.getD_eq_getElem?_getD];rw[List.getElem?_append_right (by omega)];congr 2;omega
theorem yF {α:Type}{l m:List α}{i:Nat}(h:i<l.length)(x:α):(l++m).getD i x=l.getD i x:=by
 simp only[List.getD_eq_getElem?_getD];rw[List.getElem?_append_left h]
def From (d:DfaV)(c:Nat)(l:List (List Int)):Prop:=∀ i,i<l.length->d.next.getD (c+i) []=l.getD i []
theorem From.nx {d:DfaV}{c:Nat}{l:List (List Int)}(h:From d c l){i:Nat}(hi:i<l.length)(a:Nat):nx d (c+i) a=((l.getD i []).getD a 0).toNat:=by
 unfold Go.Proofs.Ytjfdomfendbhfaa.nx entN;show (ent d.next (c+i) a).toNat=_;unfold ent;rw[h i hi]
theorem From.left {d:DfaV}{c:Nat}{l m:List (List Int)}(h:From d c (l++m)):From d c l:=fun i hi=>by
 rw[h i (by rw[List.length_append];omega),yF hi]
theorem From.right {d:DfaV}{c:Nat}{l m:List (List Int)}(h:From d c (l++m)):From d (c+l.length) m:=fun i hi=>by
 have:=h (l.length+i) (by rw[List.length_append];omega)
 rw[wG]at this
 rw[<- this];congr 1;omega
theorem jR {k c j a:Nat}{u:List Nat}(h:a<k):(bG k c u j).getD a 0=((c+kmp u (u.take j++[a]):Nat):Int):=xH _ h _
theorem From.block {d:DfaV}{k c:Nat}{u:List Nat}{m:Nat}(h:From d c (xL k c u m)):qHI d k c u m:=fun j a hj ha=>by
 rw[h.nx (by simpa [xL] using hj),xL,xH _ hj,jR ha];omega
theorem From.tail {d:DfaV}{k:Nat}:∀ {us:List (List Nat)} {c:Nat},From d c (xV k c us)->(∀ u∈us.dropLast,u≠[])->jH d k c us (c+yG us)
 | [],c,h,_=>⟨rfl,fun a ha=>by
  have:=h.nx (i:=0) (by simp[xV]) a
  simpa [xV,List.getD,List.getElem?_replicate,ha] using this⟩
 | [v],c,h,_=>⟨by simp[yG],From.block h⟩
 | u::v::us,c,h,hne=>by
  refine⟨hne u (by simp),From.block (From.left h),?_⟩
  have h2:=From.right h
  rw[show (xL k c u u.length).length=u.length by simp[xL]]at h2
  have:=From.tail h2 (fun w hw=>hne w (by rw[List.dropLast_cons_of_ne_nil (by simp)];exact List.mem_cons_of_mem _ hw))
  rwa [show c+yG (u::v::us)=c+u.length+yG (v::us) by simp[yG];omega]
theorem aA (k:Nat)(b:List Nat)(us:List (List Nat)):From (patD k (b::us)) 1 (tT k b b.length++xV k (1+b.length) us):=fun i hi=>by
 show (tU k (b::us)).getD (1+i) []=_
 unfold tU
 rw[Nat.add_comm]
 rfl
theorem pat_pre (k:Nat)(b:List Nat)(us:List (List Nat)):qIH (patD k (b::us)) k b:=fun j a hj ha=>by
 rw[(aA k b us).left.nx (by simpa [tT] using hj),tT,xH _ hj,qAQ,xH _ ha];omega
theorem pat_sink (k:Nat)(b:List Nat)(us:List (List Nat)):∀ a,a<k->nx (patD k (b::us)) 0 a=0:=fun a ha=>by
 show (((List.replicate k (0:Int)).getD a 0)).toNat=0
 simp[List.getD,List.getElem?_replicate,ha]
theorem pat_tail (k:Nat)(b:List Nat)(us:List (List Nat))(h:∀ u∈us.dropLast,u≠[]):jH (patD k (b::us)) k (1+b.length) us (1+b.length+yG us):=by
 have:=(aA k b us).right;rw[show (tT k b b.length).length=b.length by simp[tT]]at this;exact From.tail this h
theorem pat_final {k:Nat}{b:List Nat}{us:List (List Nat)}{q:Nat}:(patD k (b::us)).final.getD q false=decide (q=1+b.length+yG us):=by
 show (List.replicate ((tU k (b::us)).length - 1) false++[true]).getD q false=_;rw[qZ,show 2+b.length+yG us - 1=1+b.length+yG us by omega]
 generalize 1+b.length+yG us=m
 simp only[List.getD_eq_getElem?_getD];rcases Nat.lt_trichotomy q m with h|rfl|h
 ·rw[List.getElem?_append_left (by simpa using h),List.getElem?_replicate,if_pos h,decide_eq_false (by omega)];rfl
 ·rw[List.getElem?_append_right (by simp)];simp
 ·rw[List.getElem?_append_right (by simp;omega),decide_eq_false (by omega)]
  rw[List.length_replicate,List.getElem?_eq_none (by simp;omega)];rfl
theorem gL (k:Nat):∀ (us:List (List Nat)) (c i:Nat),i<(xV k c us).length->((xV k c us).getD i []).length=k/\∀ a,a<k->0<=((xV k c us).getD i []).getD a 0/\((xV k c us).getD i []).getD a 0<=((c+yG us:Nat):Int)
 | [],c,i,h=>by
  have:i=0:=by simpa [xV] using h
  subst this
  refine⟨by simp[xV],fun a ha=>?_⟩
  simp[xV,List.getD,List.getElem?_replicate,ha]
  omega
 | [v],c,i,h=>by
  simp only[xV,xL,List.length_map,List.length_range]at h ⊢
  rw[xH _ h]
  refine⟨by simp[bG],fun a ha=>?_⟩
  rw[jR ha]
  have:=qQ v (v.take i++[a])
  simp only[yG,List.map_cons,List.map_nil,List.sum_cons,List.sum_nil]
  omega
 | u::v::us,c,i,h=>by
  simp only[xV]at h ⊢
  have hl:(xL k c u u.length).length=u.length:=by simp[xL]
  by_cases hi:i<u.length
  ·rw[yF (by omega),xL,xH _ hi]
   refine⟨by simp[bG],fun a ha=>?_⟩
   rw[jR ha]
   have:=qQ u (u.take i++[a])
   simp only[yG,List.map_cons,List.sum_cons]
   omega
  ·have e:i=(xL k c u u.length).length+(i - u.length):=by omega
   rw[e,wG]
   have:=gL k (v::us) (c+u.length) (i - u.length) (by rw[List.length_append]at h;omega)
   rwa [show c+yG (u::v::us)=c+u.length+yG (v::us) by simp[yG];omega]
theorem pat_vd {k:Nat}{b:List Nat}{us:List (List Nat)}(h1:1<=k)(h6:k<=6)(hl:b.length+yG us<=64):VD (patD k (b::us)) (2+b.length+yG us) k:=by
 have hn:=qZ k b us
 have key:∀ q,q<2+b.length+yG us->((patD k (b::us)).next.getD q []).length=k/\∀ a,a<k->0<=((patD k (b::us)).next.getD q []).getD a 0/\((patD k (b::us)).next.getD q []).getD a 0<((2+b.length+yG us:Nat):Int):=by
  intro q hq;cases q with
  | zero =>
   refine⟨by simp[patD,tU],fun a ha=>?_⟩;simp[patD,tU,List.getD,List.getElem?_replicate,ha];omega
  | succ q =>
   have e:=aA k b us q (by rw[List.length_append,tR];simp[tT];omega);rw[Nat.add_comm]at e;rw[e];have h0:(tT k b b.length).length=b.length:=by simp[tT]
   by_cases hi:q<b.length
   ·rw[yF (by omega),tT,xH _ hi]
    refine⟨by simp[qAQ],fun a ha=>?_⟩;rw[qAQ,xH _ ha]
    split<;>omega
   ·rw[show q=(tT k b b.length).length+(q - b.length) by omega,wG]
    have:=gL k us (1+b.length) (q - b.length) (by rw[tR];omega);refine⟨this.1,fun a ha=>?_⟩;have:=this.2 a ha;omega
 exact⟨rfl,h1,h6,by show (List.replicate _ false++[true]).length=_;rw[List.length_append,List.length_replicate,hn];simp;omega,by omega,by omega,hn,by show (0:Int)<=1;omega,by show (1:Int)<_;omega,fun q hq=>(key q hq).1,fun q a hq ha=>((key q hq).2 a ha).1,fun q a hq ha=>((key q hq).2 a ha).2⟩
theorem qFV {k:Nat}{b:List Nat}{us:List (List Nat)}(hne:∀ u∈us.dropLast,u≠[]){s:List Nat}(hs:yJ k s):acc (patD k (b::us)) (st0 (patD k (b::us))) s=true ↔ PatN (b::us) s:=by
 unfold acc;rw[pat_final,decide_eq_true_eq];exact pat_run (pat_sink k b us) (pat_pre k b us) (pat_tail k b us hne) s hs
open Go.RowKit
theorem qBU {gs:List Nat}{i:Nat}(h:i<gs.length):gs.getD i 0∈gs:=by rw[zG h];exact List.getElem_mem h
theorem nodupN_getD {gs:List Nat}(hn:gs.Nodup){i j:Nat}(hi:i<gs.length)(hj:j<gs.length)(e:gs.getD i 0=gs.getD j 0):i=j:=by
 rw[zG hi,zG hj]at e;rw[<- hn.idxOf_getElem i hi,e,hn.idxOf_getElem j hj]
theorem kE {α:Type}{l:List α}{i:Nat}{x y:α}(h:i<l.length):(l.set i x).getD i y=x:=by
 rw[zG (by simpa using h)];simp
theorem gQ {α:Type}{l:List α}{i j:Nat}{x y:α}(h:i≠j):(l.set i x).getD j y=l.getD j y:=by
 simp only[List.getD_eq_getElem?_getD];rw[List.getElem?_set_ne h]
theorem nG {α:Type}{l:List α}{x y:α}{n:Nat}(h:n=l.length):(l++[x]).getD n y=x:=by
 subst h;rw[zG (by simp)];simp
theorem qDG {α:Type}{l:List α}{x y:α}{n:Nat}(h:n=l.length):(l++[x]).set n y=l++[y]:=by
 subst h;rw[List.set_append_right _ _ (Nat.le_refl _),Nat.sub_self];rfl
def zI (s:ByteArray):List Nat:=s.data.toList.map fun c=>c.toNat - 97
theorem yQ (s:ByteArray):(zI s).length=s.size:=by simp[zI]
theorem kW {s:ByteArray}{i:Nat}(h:i<s.size):(zI s).getD i 0=s[i].toNat - 97:=by
 rw[zG (by rw[yQ];exact h)];simp[zI];rfl
theorem cY {k:Nat}{c:UInt8}:pL (k:Int) c=true ↔ 97<=c.toNat/\c.toNat - 97<k:=by
 unfold pL;rw[decide_eq_true_eq];omega
theorem sQ {s:ByteArray}{k:Nat}(h:zY s (k:Int)=true):yJ k (zI s)/\(∀ i (hi:i<s.size),97<=s[i].toNat/\s[i].toNat - 97<k)/\s.size<=2048:=by
 simp only[zY,Bool.and_eq_true,decide_eq_true_eq,List.all_eq_true]at h;refine⟨fun a ha=>?_,fun i hi=>?_,h.1.2.2⟩
 ·obtain⟨c,hc,rfl⟩:=List.mem_map.1 ha
  exact(cY.1 (h.2 c hc)).2
 ·have hm:s[i]∈s.data.toList:=by
   have:s[i]=s.data.toList[i]'(by simpa using hi):=by simp;rfl
   rw[this];exact List.getElem_mem _
  exact cY.1 (h.2 _ hm)
theorem qHL {c:Nat}(h:97<=c)(h2:c<256):IntKind.u8.wrap ((c:Int) - 97)=((c - 97:Nat):Int):=by
 unfold IntKind.wrap;simp[IntKind.bits,IntKind.signed];omega
def rowv (k g:Nat):Value:=.slice (some ⟨g,0,none⟩) k k
structure BB (W0 W:World)(bb k:Nat)(t:List (List Nat))(gs:List Nat)(sn:Option Addr)(cn:Nat):Prop where
 box:W.heap[bb]?=some (.cells #[.int .i64 (k:Int),.slice sn t.length cn] 162 (0,0))
 own:W.ownsRow bb 34 1 (.slice sn t.length cn) t.length (gs.map (rowv k))
 len:gs.length=t.length
 row:∀ i,i<t.length->Arr W (gs.getD i 0) 3 (nats (t.getD i []))/\(t.getD i []).length=k
 nd:gs.Nodup
 lo:W0.heap.size<=bb
 glo:∀ g∈gs,W0.heap.size<=g
 grown:W0.grownBy W none
section
variable {W0 W W':World} {bb k:Nat} {t:List (List Nat)} {gs:List Nat} {sn:Option Addr} {cn:Nat}
theorem BB.start {bb k:Nat}(hb:W.heap[bb]?=some (.cells #[.int .i64 (k:Int),.slice none 0 0] 162 (0,0)))(h0:W0.heap.size<=bb)(hg:W0.grownBy W none):BB W0 W bb k [] [] none 0 :=
 ⟨hb,World.ownsRow_nil _ _ _ _,rfl,fun i hi=>by simp at hi,by simp,h0,by simp,hg⟩
theorem BB.cells (h:BB W0 W bb k t gs sn cn):W.cell? ⟨bb,0,none⟩=some (.int .i64 (k:Int))/\W.cell? ⟨bb,1,none⟩=some (.slice sn t.length cn)/\W.frozen? ⟨bb,1,none⟩=false:=by
 have c0:=zH h.box 0 (by simp);have c1:=zH h.box 1 (by simp);exact⟨by simpa using c0,by simpa using c1,zE h.box 1⟩
theorem BB.grow (h:BB W0 W bb k t gs sn cn)(hg:W.grownBy W' none):BB W0 W' bb k t gs sn cn where
 box:=zB h.box hg (by simp)
 own:=zP h.own hg
 len:=h.len
 row:=fun i hi=>⟨(h.row i hi).1.kept hg (by simp),(h.row i hi).2⟩
 nd:=h.nd
 lo:=h.lo
 glo:=h.glo
 grown:=zA h.grown hg (by simp)
theorem BB.hd (h:BB W0 W bb k t gs sn cn)(h0:0<t.length):∃ q cap,sn=some ⟨q,0,none⟩/\cn=cap/\t.length<=cap/\cap<=maxLen/\∀ i,i<t.length->W.cell? ⟨q,i,none⟩=some (rowv k (gs.getD i 0)):=by
 rcases id h.own.2 with ⟨e,_⟩|⟨q,cap,cur,e,_,_,hnc,hcm,_⟩
 ·simp only[Value.slice.injEq]at e;omega
 ·simp only[Value.slice.injEq]at e
  obtain⟨rfl,_,rfl⟩:=e;refine⟨q,cn,rfl,rfl,hnc,hcm,fun i hi=>?_⟩;have h1:i<gs.length:=by rw[h.len];exact hi
  rw[h.own.cellAt i (by omega),List.getElem?_map,List.getElem?_eq_getElem h1,zG h1];rfl
theorem BB.set (h:BB W0 W bb k t gs sn cn){i:Nat}(hi:i<t.length){r:List Nat}(hr:r.length=k)(hg:W.grownBy W' (some (gs.getD i 0)))(ha:Arr W' (gs.getD i 0) 3 (nats r)):BB W0 W' bb k (t.set i r) gs sn cn:=by
 obtain⟨cur,rest,hc,_⟩:=(h.row i hi).1
 have h1:gs.getD i 0≠bb:=fun e=>by
  rw[e,h.box]at hc;simp only[Option.some.injEq,Obj.cells.injEq]at hc;exact absurd hc.2.1 (by decide)
 have h0:i<gs.length:=by rw[h.len];exact hi
 refine⟨?_,?_,by rw[List.length_set];exact h.len,fun j hj=>?_,h.nd,h.lo,h.glo,zA h.grown hg (fun q e=>by have:=Oj e;subst this;exact h.glo _ (qBU h0))⟩
 ·rw[List.length_set];exact zB h.box hg (fun e=>h1 (Oj e))
 ·rw[List.length_set];exact h.own.kept hg (.inr (zQ h.own hc (by decide)))
 ·rw[List.length_set]at hj
  by_cases e:i=j
  ·subst e
   rw[kE hi];exact⟨ha,hr⟩
  ·rw[gQ e]
   exact⟨(h.row j hj).1.kept hg (fun e2=>e (nodupN_getD h.nd h0 (by rw[h.len];exact hj) (Oj e2))),(h.row j hj).2⟩
theorem BB.put (h:BB W0 W bb k t gs sn cn){i j:Nat}(hi:i<t.length)(hj:j<k)(c:Nat):BB W0 (W.setCell ⟨gs.getD i 0,j,none⟩ (.int .i64 (c:Int))) bb k (t.set i ((t.getD i []).set j c)) gs sn cn:=by
 have hr:=h.row i hi;exact h.set hi (by rw[List.length_set];exact hr.2) (zC W ⟨gs.getD i 0,j,none⟩ _) (hr.1.nat_set j (by rw[hr.2];exact hj) c)
theorem BB.off (h:BB W0 W bb k t gs sn cn){g:Nat}{c:Array Value}{m:Nat×Nat}(hg:W.grownBy W' (some g))(hc:W.heap[g]?=some (.cells c 3 m))(hn:g ∉ gs)(h0:W0.heap.size<=g):BB W0 W' bb k t gs sn cn where
 box:=zB h.box hg (fun e=>by
  have:=Oj e
  subst this
  rw[h.box]at hc
  simp only[Option.some.injEq,Obj.cells.injEq]at hc
  exact absurd hc.2.1 (by decide))
 own:=h.own.kept hg (.inr (zQ h.own hc (by decide)))
 len:=h.len
 row:=fun i hi=>⟨(h.row i hi).1.kept hg (fun e=>hn (by rw[Oj e];exact qBU (by rw[h.len];exact hi))),(h.row i hi).2⟩
 nd:=h.nd
 lo:=h.lo
 glo:=h.glo
 grown:=zA h.grown hg (fun q e=>by have:=Oj e;omega)
theorem BB.lt (h:BB W0 W bb k t gs sn cn):∀ g∈gs,g<W.heap.size:=fun g hg=>by
 obtain⟨i,hi,rfl⟩:=List.getElem_of_mem hg
 have:=(h.row i (by rw[<- h.len];exact hi)).1.lt
 rwa [zG hi]at this
theorem BB.push (h:BB W0 W bb k t gs sn cn){g:Nat}{r:List Nat}{sn':Option Addr}{cn':Nat}(hr:r.length=k)(ha:Arr W g 3 (nats r))(hgn:∀ x∈gs,x≠g)(hg0:W0.heap.size<=g)(ho:W'.ownsRow bb 34 1 (.slice sn' (t.length+1) cn') (t.length+1) (gs.map (rowv k)++[rowv k g]))(hg:W.grownBy W' (Value.slice sn t.length cn).ownBlock){W2:World}(hW2:W2=W'.setCell ⟨bb,1,none⟩ (.slice sn' (t.length+1) cn')):BB W0 W2 bb k (t++[r]) (gs++[g]) sn' cn':=by
 have hb:=zB h.box hg (zQ h.own h.box (by decide));have h1:=heap_setCell_same W' bb 1 _ _ (.slice sn' (t.length+1) cn') hb;have g2:=zC W' ⟨bb,1,none⟩ (.slice sn' (t.length+1) cn');rw[<- hW2]at h1 g2
 have h0:∀ {q:Nat} {xs:List Value},Arr W q 3 xs->Arr W2 q 3 xs:=fun {q xs} hq=>by
  obtain⟨cu,rs,hc,_⟩:=id hq
  exact(hq.kept hg (zQ h.own hc (by decide))).kept g2 (fun e=>by
   have e:bb=q:=Oj e;subst e;rw[h.box]at hc;simp only[Option.some.injEq,Obj.cells.injEq]at hc
   exact absurd hc.2.1 (by decide))
 have e1:(t++[r]).length=t.length+1:=by simp
 refine⟨?_,?_,by simp[h.len],fun i hi=>?_,?_,h.lo,?_,zA (zA h.grown hg (fun j e=>Nat.le_trans h.lo (h.own.lt j e).1)) g2 (fun j e=>by have e:bb=j:=Oj e;have:=h.lo;omega)⟩
 ·rw[h1,e1];simp
 ·rw[e1,List.map_append];exact ho.kept g2 (.inr (zQ ho hb (by decide)))
 ·rw[e1]at hi
  by_cases hi':i<t.length
  ·rw[yF (by rw[h.len];exact hi'),yF hi']
   exact⟨h0 (h.row i hi').1,(h.row i hi').2⟩
  ·have:i=t.length+0:=by omega
   rw[this,wG];rw[show (gs++[g]).getD (t.length+0) 0=g by rw[<- h.len,wG];rfl];exact⟨h0 ha,hr⟩
 ·rw[List.nodup_append]
  exact⟨h.nd,by simp,fun x hx y hy e=>by simp at hy;subst hy;exact hgn x hx e⟩
 ·intro x hx
  rcases List.mem_append.1 hx with hx|hx
  ·exact h.glo x hx
  ·simp at hx;subst hx;exact hg0
end
section
variable {W0 W W':World} {bb k:Nat} {t:List (List Nat)} {gs:List Nat} {sn:Option Addr} {cn:Nat} {r:List Nat} {g:Nat}
theorem BB.lastlen (h:BB W0 W bb k (t++[r]) (gs++[g]) sn cn):gs.length=t.length:=by have:=h.len;simp at this;exact this
theorem BB.last (h:BB W0 W bb k (t++[r]) (gs++[g]) sn cn):Arr W g 3 (nats r)/\r.length=k:=by
 have:=h.row t.length (by simp)
 rwa [nG rfl,nG h.lastlen.symm]at this
theorem BB.putLast (h:BB W0 W bb k (t++[r]) (gs++[g]) sn cn){j:Nat}(hj:j<k)(c:Nat):BB W0 (W.setCell ⟨g,j,none⟩ (.int .i64 (c:Int))) bb k (t++[r.set j c]) (gs++[g]) sn cn:=by
 have:=h.put (i:=t.length) (by simp) hj c
 rwa [nG rfl,nG h.lastlen.symm,qDG rfl]at this
end
def RowAdded (W0:World)(bb k:Nat)(t:List (List Nat))(gs:List Nat)(u0:Nat)(e:Ending)(W':World):Prop :=
 ∃ g sn cn,e=.returned (.slice (some ⟨g,0,none⟩) k k)/\BB W0 W' bb k (t++[List.replicate k u0]) (gs++[g]) sn cn
theorem oL (W0 W:World)(bb k:Nat)(t:List (List Nat))(gs:List Nat)(sn:Option Addr)(cn u0:Nat)(h:BB W0 W bb k t gs sn cn)(hk1:1<=k)(hk6:k<=6)(ht:t.length<=1000):Calls Try.prog 106 #[.pointer (some ⟨bb,0,none⟩),.int .i64 (u0:Int)] W (RowAdded W0 bb k t gs u0):=by
 obtain⟨c0,c1,f1⟩:=h.cells;have H:=Kh h;clear h;go_enter Try.func106,Try.ntmps106;go_wp2_with (first|(at_make;refine lO rfl _ _ _ rfl yU rfl .i64 .i64 _ _ k rfl rfl rfl rfl ?b1 ?b2 ?_;(case b1=>omega);(case b2=>(unfold maxLen;omega));intro w2 h0 H6 h4)|fail);obtain⟨g,hg⟩:∃ g,g=W.heap.size:=⟨_,rfl⟩;rw[<- hg]at h0 h4 ⊢;have H9:=Kh (H.out.grow H6);have H4:g ∉ gs:=fun hm=>by have:=H.out.lt g hm;omega
 have H7:W0.heap.size<=g:=by have:=H.out.grown.size;omega
 have H3:Hid (Arr w2 g 3 (nats (List.replicate 0 u0++List.replicate (k - 0) 0))):=Kh (by
  rw[show List.replicate 0 u0++List.replicate (k - 0) 0=List.replicate k 0 by simp,xI];exact h0)
 have H8:=Kh H4;clear h0 H6 hg H4 c0 c1 f1 h4
 go_loopg [6,14] k (fun gh a6 i wr=>∃ x:Nat,gh+x=k/\i=.int .i64 x/\Arr wr g 3 (nats (List.replicate x u0++List.replicate (k - x) 0))/\w2.grownBy wr (some g))
 case atStart=>exact⟨0,rfl,rfl,H3.out,zL _ _⟩
 case round =>
  obtain⟨x,H5,rfl,h0,h9⟩:=hrel;have h6:=Kh H5;have HA:=Kh h0;have a7:=Kh h9;clear H5
  have h7:(List.replicate x u0++List.replicate (k - x) 0).length=k:=by
   have:=h6.out;simp;omega
  by_cases hx:x<k
  ·have b0:(x:Int)<k:=by omega
   have cx:=h0.nat x (by omega);have fx:=h0.frozen x
   have h3:(List.replicate x u0++List.replicate (k - x) 0).set x u0=List.replicate (x+1) u0++List.replicate (k - (x+1)) 0:=by
    rw[List.set_append_right _ _ (by simp),List.length_replicate,Nat.sub_self,show k - x=(k - (x+1))+1 by omega,List.replicate_succ,List.set_cons_zero,List.replicate_succ',List.append_assoc];rfl
   have H2:=Kh h3;have a4:=Kh h7;clear h0 h9 h3 h7;go_wp2;go_roundg (k - (x+1))
   case measure=>have:=h6.out;omega
   case rel=>exact⟨x+1,by have:=h6.out;omega,by go_num,by rw[<- H2.out];exact HA.out.nat_set x (by rw[a4.out];exact hx) u0,zD a7.out (zC wr ⟨g,x,none⟩ _)⟩
  ·have a0:x=k:=by have:=h6.out;omega
   subst a0;have hr:List.replicate x u0++List.replicate (x - x) 0=List.replicate x u0:=by simp
   rw[hr]at HA;obtain⟨cur,rest,h5,_⟩:=H3.out;have h2:=Kh (H9.out.off h9 h5 H8.out H7);obtain⟨c0,c1,f1⟩:=h2.out.cells;clear h5 h7 hr h0 H3 H9;have b5:=zK h2.out.box;go_wp2_with (first|(at_builtin;refine qCF rfl _ _ _ rfl uP bb (.slice sn t.length cn) t.length (gs.map (rowv x)) rfl h2.out.own (rowv x g) rfl rfl ?a1 ?a2 ?a3 ?_;(case a1=>(unfold maxLen;omega));(case a2=>omega);(case a3=>omega);intro sn6 cn6 w6 h1 H0 a9 h8;(have a5:=Kh h1);(have a8:=Kh H0);(have H1:=zB h2.out.box H0 (zQ h2.out.own h2.out.box (by decide)));(have b4:w6.cell? ⟨bb,1,none⟩=some (.slice sn t.length cn):=by simpa using zH H1 1 (by simp));(have b3:=zE H1 1);clear h1 H0 h8 H1)|fail);go_ret;exact⟨g,sn6,cn6,rfl,h2.out.push (by simp) HA.out (fun y hy e=>H8.out (e ▸ hy)) H7 a5.out a8.out rfl⟩
def preN (k:Nat)(b:List Nat)(j:Nat):List Nat:=(List.range k).map fun a=>if b.getD j 0=a then 2+j else 0
def qG (k:Nat)(b:List Nat)(m:Nat):List (List Nat):=(List.range m).map (preN k b)
theorem set_replicate {k a c:Nat}:(List.replicate k 0).set a c=(List.range k).map fun i=>if a=i then c else 0:=by
 refine List.ext_getElem (by simp) fun i h1 h2=>?_;rw[List.getElem_set];simp
theorem preNs_succ (k:Nat)(b:List Nat)(m:Nat):qG k b (m+1)=qG k b m++[preN k b m]:=by
 simp[qG,List.range_succ]
def qFC (W0:World)(bb k:Nat)(t:List (List Nat))(e:Ending)(W':World):Prop:=∃ gs sn cn,e=.returned (.tuple #[])/\BB W0 W' bb k t gs sn cn
theorem bprefix_any (W0 W:World)(bb k:Nat)(t:List (List Nat))(gs:List Nat)(sn:Option Addr)(cn:Nat)(u:ByteArray)(h:BB W0 W bb k t gs sn cn)(ht:t.length=1)(hk1:1<=k)(hk6:k<=6)(hu:zY u (k:Int)=true)(hl:u.size<=64):Calls Try.prog 107 #[.pointer (some ⟨bb,0,none⟩),.string u] W (qFC W0 bb k (t++qG k (zI u) u.size)):=by
 have H:=Kh h;have HU:=Kh (sQ hu);have H5:t.length<=1:=by omega
 have HT:=Kh ht;clear h hu ht;go_enter Try.func107,Try.ntmps107;go_wp2_with fail
 go_loopg [4,5,8] u.size (fun gh a4 a5 i wr=>∃ (j:Nat) (gs:List Nat) (sn:Option Addr) (cn:Nat),gh+j=u.size/\i=.int .i64 j/\BB W0 wr bb k (t++qG k (zI u) j) gs sn cn)
 case atStart=>exact⟨0,gs,sn,cn,rfl,rfl,by simpa [qG] using H.out⟩
 case round =>
  clear H;obtain⟨j,gs,sn,cn,h7,rfl,h2⟩:=hrel;have h6:=Kh h7;have H8:=Kh h2;clear h7;by_cases hj:j<u.size
  ·have H6:(j:Int)<u.size:=by omega
   have h4:(t++qG k (zI u) j).length=j+1:=by have:=HT.out;simp[qG];omega
   have H7:=Kh h4;go_wp2_with fail;refine(oL W0 wr bb k _ gs sn cn 0 h2 hk1 hk6 (by omega)).mono ?_;rintro e w1 ⟨g,sn1,cn1,rfl,h3⟩;obtain⟨c0,c1,f1⟩:=h3.cells;have hr:=h3.last;rw[List.length_append,h4]at c1;have hb:=HU.out.2.1 j hj;obtain⟨by0,h1⟩:∃ b,b=u[j].toNat:=⟨_,rfl⟩;have h5:by0<256:=(by rw[h1];exact u[j].toNat_lt);rw[<- h1]at hb;obtain⟨a,ha⟩:∃ a,a=by0 - 97:=⟨_,rfl⟩;have h9:=qHL hb.1 h5;rw[<- ha]at h9;have h8:((by0:Int) - 97) % 256=(a:Int):=by omega
   have H3:a<k:=(by omega);have H2:(a:Int)<k:=(by omega);have ca:=hr.1.nat a (by simp;omega);have fa:=hr.1.frozen a;have h0:(zI u).getD j 0=a:=by rw[kW hj,<- h1,ha]
   have HL:=Kh h0;have H4:=Kh h3;have HR:=Kh hr;have H1:(u[j].toNat:Int)=(by0:Int):=by rw[h1]
   clear hb h1 ha hr h2 h3 h0 h4;go_wp2_with fail
   go_region
   all_goals (try go_frame)
   all_goals go_wp2
   all_goals
    go_roundg (u.size - (j+1))
    case measure=>have:=h6.out;omega
    case rel =>
     have hp:=(H4.out.putLast H3 (2+j)).grow (zO _ none);have e:((2+j:Nat):Int)=(j:Int)+1+1:=by omega
     rw[e,set_replicate,<- HL.out,List.append_assoc]at hp;rw[<- HL.out];exact⟨j+1,gs++[g],sn1,cn1,by have:=h6.out;omega,by go_num,by rw[preNs_succ];exact hp⟩
  ·have H0:j=u.size:=by have:=h6.out;omega
   subst H0;go_wp2;exact bodyPost_ret (v:=.tuple #[]) (by simp[results,Try.results107,go_sem]) rfl ⟨gs,sn,cn,rfl,h2⟩
def kmpN (k c:Nat)(u:List Nat)(j:Nat):List Nat:=(List.range k).map fun a=>c+kmp u (u.take j++[a])
def wJ (k c:Nat)(u:List Nat)(m:Nat):List (List Nat):=(List.range m).map (kmpN k c u)
theorem lR (k c:Nat)(u:List Nat)(j:Nat):(kmpN k c u j).length=k:=by simp[kmpN]
theorem kmpN_get {k c:Nat}{u:List Nat}{j a:Nat}(h:a<k):(kmpN k c u j).getD a 0=c+kmp u (u.take j++[a]):=xH _ h _
theorem vF (k c:Nat)(u:List Nat)(m:Nat):(wJ k c u m).length=m:=by simp[wJ]
theorem iF (k c:Nat)(u:List Nat)(m:Nat):wJ k c u (m+1)=wJ k c u m++[kmpN k c u m]:=by simp[wJ,List.range_succ]
theorem searchN_get {k c:Nat}{u:List Nat}{m j:Nat}(h:j<m):(wJ k c u m).getD j []=kmpN k c u j:=xH _ h _
theorem row_zero {k c:Nat}{u:List Nat}(hu:u≠[]):(List.replicate k c).set (u.getD 0 0) (c+1)=kmpN k c u 0:=by
 have h0:0<u.length:=List.length_pos_iff.2 hu;refine List.ext_getElem (by simp[kmpN]) fun i h1 h2=>?_;rw[List.getElem_set];simp only[kmpN,List.getElem_map,List.getElem_range,List.getElem_replicate];by_cases e:u.getD 0 0=i
 ·rw[if_pos e,<- e,qHQ h0]
 ·rw[if_neg e,qED (.inr e)];rfl
theorem row_next {k c:Nat}{u:List Nat}{i:Nat}(h0:0<i)(h:i<u.length):(kmpN k c u (mW u i)).set (u.getD i 0) (c+i+1)=kmpN k c u i:=by
 refine List.ext_getElem (by simp[kmpN]) fun j h1 h2=>?_;rw[List.getElem_set];simp only[kmpN,List.getElem_map,List.getElem_range];by_cases e:u.getD i 0=j
 ·rw[if_pos e,<- e,qHQ h];omega
 ·rw[if_neg e,qEE h0 (by omega) (.inr e)]
theorem qDL {k c:Nat}{u:List Nat}(h0:0<u.length):kmpN k c u (mW u u.length)=kmpN k c u u.length:=by
 refine List.map_congr_left fun a _=>?_;rw[qEE h0 (Nat.le_refl _) (.inl rfl)]
theorem bR {k:Nat}{t:List (List Nat)}{u:List Nat}{m j:Nat}(h:j<m):(t++wJ k t.length u m).getD (t.length+j) []=kmpN k t.length u j:=by
 rw[wG,searchN_get h]
theorem qEQ {W : World}{g s k : Nat}{r q : List Nat}(hg : Arr W g 3 (nats q))(hq : q.length = k)(hs : Arr W s 3 (nats r))(hr : r.length = k): (Builtin.copy_ #[34, 34] 3 #[.slice (some ⟨g, 0, none⟩) k k, .slice (some ⟨s, 0, none⟩) k k]).run Try.prog W = .ok (.int .i64 (k : Int)) (W.setCells g 0 (nats r)) ∧ Arr (W.setCells g 0 (nats r)) g 3 (nats r) ∧ W.grownBy (W.setCells g 0 (nats r)) (some g) := by
 have hl : (nats r).length = k := by rw [zT, hr]
 refine ⟨?_, ?_, ?_⟩
 ·have := run_copy_cells (P := Try.prog) W 34 34 3 3 g 0 k k ⟨s, 0, none⟩ k k (nats r) Try.underlying34 (by kernel_rfl) (by rw [hl]; simp [Nat.min_def])
   (fun j u hj => by
    obtain ⟨hj1, hj2⟩ := List.getElem?_eq_some_iff.1 hj
    have := hs.cell j hj1
    rw [hj2] at this
    have e : (⟨s, 0, none⟩ : Addr).add j = ⟨s, j, none⟩ := by
     unfold Addr.add; split <;> simp_all
    rw [e]; exact this)
   (fun j hj => by rw [Nat.zero_add, hg.cell j (by rw [zT] at *; omega)]; rfl) (fun j _ => hg.frozen _) (fun v hv => by
    obtain ⟨x, _, rfl⟩ := List.mem_map.1 hv; rfl)
  rw [this, hl]; rfl
 ·have := hg.setCells (nats r) 0 (by rw [Nat.zero_add, hl, zT]; omega)
  rw [List.take_zero, List.nil_append, Nat.zero_add, List.drop_eq_nil_of_le (by rw [hl, zT]; omega), List.append_nil] at this
  exact this
 ·have key : ∀ (vs : List Value) (o : Nat) (W : World), W.grownBy (W.setCells g o vs) (some g) := fun vs => by
   induction vs with
   | nil => intro o W; exact zL _ _
   | cons v vs ih => intro o W; rw [World.setCells]; exact zD (zC W ⟨g, o, none⟩ v) (ih (o + 1) _)
  exact key _ _ _
theorem BB.setLast {W0 W W':World}{bb k:Nat}{t:List (List Nat)}{gs:List Nat}{sn:Option Addr}{cn:Nat}{r r':List Nat}{g:Nat}(h:BB W0 W bb k (t++[r]) (gs++[g]) sn cn)(hr:r'.length=k)(hg:W.grownBy W' (some g))(ha:Arr W' g 3 (nats r')):BB W0 W' bb k (t++[r']) (gs++[g]) sn cn:=by
 have e:(gs++[g]).getD t.length 0=g:=nG h.lastlen.symm;have:=h.set (i:=t.length) (by simp) hr (by rw[e];exact hg) (by rw[e];exact ha)
 rwa [qDG rfl]at this
def Searched (W0:World)(bb k:Nat)(t:List (List Nat))(u:List Nat)(e:Ending)(W':World):Prop :=
 ∃ gs sn cn,e=.returned (.slice (some ⟨gs.getD (t.length+mW u u.length) 0,0,none⟩) k k)/\BB W0 W' bb k (t++wJ k t.length u u.length) gs sn cn
theorem jX {u:ByteArray}{k i:Nat}(h:∀ i (hi:i<u.size),97<=u[i].toNat/\u[i].toNat - 97<k)(hi:i<u.size):∃ b a:Nat,(u[i].toNat:Int)=(b:Int)/\IntKind.u8.wrap ((b:Int) - 97)=(a:Int)/\((b:Int) - 97) % 256=(a:Int)/\a<k/\(zI u).getD i 0=a:=by
 have hb:=h i hi;have h0:u[i].toNat<256:=u[i].toNat_lt;exact⟨u[i].toNat,u[i].toNat - 97,rfl,qHL hb.1 h0,by omega,hb.2,kW hi⟩
theorem eO (W0 W:World)(bb k:Nat)(t:List (List Nat))(gs:List Nat)(sn:Option Addr)(cn:Nat)(u:ByteArray)(h:BB W0 W bb k t gs sn cn)(ht:t.length<=500)(hk1:1<=k)(hk6:k<=6)(hu:zY u (k:Int)=true)(h0:0<u.size)(hl:u.size<=64):Calls Try.prog 108 #[.pointer (some ⟨bb,0,none⟩),.string u] W (Searched W0 bb k t (zI u)):=by
 obtain⟨c0,c1,f1⟩:=h.cells;have H:=Kh h;have HU:=Kh (sQ hu);obtain⟨v,hv⟩:∃ v,v=zI u:=⟨_,rfl⟩;have H3:v.length=u.size:=by rw[hv,yQ]
 have a5:v≠[]:=by intro e;rw[e]at H3;simp at H3;omega
 rw[<- hv];have HV:=Kh hv;have d3:=Kh a5;have H2:=Kh H3;obtain⟨c,hc⟩:∃ c,c=t.length:=⟨_,rfl⟩;rw[<- hc]at c1 ht;have HC:=Kh hc;have d9:(0:Int)<u.size:=by omega
 clear h hu hv H3 a5 hc;go_enter Try.func108,Try.ntmps108;go_wp2_with fail;refine(oL W0 W bb k t gs sn cn c H.out hk1 hk6 (by have:=HC.out;omega)).mono ?_;rintro e w1 ⟨g,sn1,cn1,rfl,a1⟩;obtain⟨b0,a0,d1,c4,c7,h8,H0⟩:=jX HU.out.2.1 h0;have hr:=a1.last;have ca:=hr.1.nat a0 (by simp;omega);have fa:=hr.1.frozen a0;have a2:(a0:Int)<k:=by omega
 have c5:(nats (List.replicate k c)).length=k:=by rw[zT,List.length_replicate]
 have c3:Hid (BB W0 (w1.setCell ⟨g,a0,none⟩ (.int .i64 ((c+1:Nat):Int))) bb k (t++wJ k c v 1) (gs++[g]) sn1 cn1):=Kh (by
  have:=a1.putLast h8 (c+1)
  rw[show wJ k c v 1=[kmpN k c v 0] by rfl,<- row_zero d3.out,HV.out,H0];exact this)
 clear hr a1 H0 c0 c1 f1 H;go_wp2_with fail;obtain⟨w2,H7⟩:∃ w2,w2=w1.setCell ⟨g,a0,none⟩ (.int .i64 ((c:Int)+1)):=⟨_,rfl⟩
 have c2:Hid (BB W0 w2 bb k (t++wJ k c v 1) (gs++[g]) sn1 cn1):=Kh (by
  rw[H7,show ((c:Int)+1)=((c+1:Nat):Int) by omega];exact c3.out)
 rw[<- H7];clear H7 ca fa c3
 go_loopg [7,8,9] (u.size - 1) (fun gh a7 i a9 wr=>∃ (j:Nat) (gs:List Nat) (sn:Option Addr) (cn:Nat),gh+j=u.size/\i=.int .i64 j/\1<=j/\a7=.int .i64 ((c+mW v j:Nat):Int)/\BB W0 wr bb k (t++wJ k c v j) gs sn cn)
 case atStart=>exact⟨1,_,_,_,by omega,rfl,Nat.le_refl _,by rw[backK_one (by rw[H2.out];omega)];rfl,c2.out⟩
 case round =>
  clear c2;obtain⟨j,gs,sn,cn,b2,rfl,d8,rfl,h2⟩:=hrel;have a3:=Kh b2;have c8:j<=u.size:=by omega
  clear b2;have a6:(t++wJ k c v j).length=c+j:=by rw[List.length_append,vF,HC.out]
  have b7:mW v j<j:=aU (by omega) (by rw[H2.out];exact c8);obtain⟨q,hq⟩:∃ q,q=mW v j:=⟨_,rfl⟩;rw[<- hq]at b7 ⊢;have HQ:=Kh hq;have h1:=Kh a6;clear hq a6;by_cases hj:j<u.size
  ·have c9:(j:Int)<u.size:=by omega
   go_wp2_with fail;refine(oL W0 wr bb k _ gs sn cn c h2 hk1 hk6 (by rw[h1.out];omega)).mono ?_;rintro e w4 ⟨g4,sn4,cn4,rfl,h4⟩;obtain⟨c0,c1,f1⟩:=h4.cells;rw[List.length_append,h1.out,List.length_singleton]at c1;obtain⟨h6,cap4,rfl,rfl,H9,h9,h7⟩:=h4.hd (by rw[List.length_append,List.length_singleton];omega);rw[List.length_append,h1.out,List.length_singleton]at H9 h7;have h5:=h4.row (c+q) (by rw[List.length_append,h1.out];omega);have b1:gs.length=c+j:=by rw[h2.len,h1.out]
   have e1:(gs++[g4]).getD (c+q) 0=gs.getD (c+q) 0:=yF (by omega) 0
   have e2:((t++wJ k c v j)++[List.replicate k c]).getD (c+q) []=kmpN k c v q:=by
    rw[yF (by rw[h1.out];omega),HC.out,bR b7]
   rw[e1,e2]at h5;have chd:=h7 (c+q) (by omega);rw[e1]at chd;obtain⟨s,hs⟩:∃ s,s=gs.getD (c+q) 0:=⟨_,rfl⟩;rw[<- hs]at h5 chd;replace chd:w4.cell? ⟨h6,c+q,none⟩=some (.slice (some ⟨s,0,none⟩) k k):=chd;obtain⟨b4,b6,b5⟩:=qEQ h4.last.1 h4.last.2 h5.1 h5.2;have H4:=h4.setLast h5.2 b5 b6;obtain⟨w5,a4⟩:∃ w5,w5=w4.setCells g4 0 (nats (kmpN k c v q)):=⟨_,rfl⟩;rw[<- a4]at b4 H4;obtain⟨b0,a0,d1,c4,c7,h8,H0⟩:=jX HU.out.2.1 hj;have H8:=H4.last;have ca:=H8.1.nat a0 (by rw[lR];exact h8);have fa:=H8.1.frozen a0;have a2:(a0:Int)<k:=(by omega);have c5:(nats (kmpN k c v q)).length=k:=by rw[zT,lR]
   have d0:cn4<=9223372036854775807:=by unfold maxLen at h9;omega
   have d6:=Kh H4;have b8:=Kh H0;have HS:=Kh hs;have b9:=Kh b1;have e4:=Kh h2;have e0:(c:Int)+q<c+j+1:=(by omega);clear h5 b6 b5 h4 H4 H8 H0 hs b1 h7 h9 h2 a4;obtain⟨w6,H6⟩:∃ w6,w6=w5.setCell ⟨g4,a0,none⟩ (.int .i64 ((c:Int)+j+1)):=⟨_,rfl⟩
   have H5:Hid (BB W0 w6 bb k (t++wJ k c v (j+1)) (gs++[g4]) (some ⟨h6,0,none⟩) cn4):=Kh (by
    have:=d6.out.putLast h8 (c+j+1);have ea:v.getD j 0=a0:=by rw[HV.out];exact b8.out
    have er:(kmpN k c v q).set a0 (c+j+1)=kmpN k c v j:=by
     rw[HQ.out,<- ea];exact row_next (by omega) (by rw[H2.out];exact hj)
    rw[er,List.append_assoc,<- iF]at this;rw[H6,show ((c:Int)+j+1)=((c+j+1:Nat):Int) by omega]
    exact this)
   have h3:=H5.out.row (c+q) (by rw[List.length_append,vF,HC.out];omega);rw[yF (by rw[b9.out];omega),HC.out,bR (by omega),<- HC.out,<- HS.out]at h3;have cs6:=h3.1.nat a0 (by rw[lR];exact h8)
   have enx:(kmpN k c v q).getD a0 0=c+mW v (j+1):=by
    have ea:v.getD j 0=a0:=by rw[HV.out];exact b8.out
    rw[kmpN_get h8,backK_next (by omega) (by rw[H2.out];exact hj),<- HQ.out,ea]
   rw[enx]at cs6;obtain⟨c60,c61,f61⟩:=H5.out.cells;rw[List.length_append,vF,<- HC.out]at c61;obtain⟨d7,cap6,e6,e6',e3,c6,b3⟩:=H5.out.hd (by rw[List.length_append,vF];omega);simp only[Option.some.injEq,Addr.mk.injEq,and_true]at e6;have chd6:=b3 (c+q) (by rw[List.length_append,vF,<- HC.out];omega);have e1:(gs++[g4]).getD (c+q) 0=s:=by rw[yF (by rw[b9.out];omega),<- HS.out]
   rw[e1]at chd6;subst e6;replace chd6:w6.cell? ⟨h6,c+q,none⟩=some (.slice (some ⟨s,0,none⟩) k k):=chd6;obtain⟨B,hB⟩:∃ B,B=c+mW v (j+1):=⟨_,rfl⟩;rw[<- hB]at cs6;have d5:=Kh hB;have d2:=Kh H6;clear h3 enx b3 c6 H6 e6' hB e1;go_wp2_with fail;rw[<- d2.out];clear b4 c0 c1 f1 chd ca fa
   go_region
   all_goals (try go_frame)
   all_goals go_wp2
   all_goals
    go_roundg (u.size - 1 - j)
    case measure=>have:=a3.out;omega
    case rel=>exact⟨j+1,_,_,_,by have:=a3.out;omega,by go_num,by omega,by rw[d5.out],H5.out.grow (zO _ none)⟩
  ·have H1:j=u.size:=by have:=a3.out;omega
   have c9:¬ (j:Int)<u.size:=(by omega);obtain⟨c0,c1,f1⟩:=h2.cells;rw[h1.out]at c1;obtain⟨h6,cap4,rfl,rfl,H9,h9,h7⟩:=h2.hd (by rw[h1.out];omega);have chd:=h7 (c+q) (by rw[h1.out];omega);rw[h1.out]at H9;obtain⟨s,hs⟩:∃ s,s=gs.getD (c+q) 0:=⟨_,rfl⟩;rw[<- hs]at chd;replace chd:wr.cell? ⟨h6,c+q,none⟩=some (.slice (some ⟨s,0,none⟩) k k):=chd;have d0:cn<=9223372036854775807:=by unfold maxLen at h9;omega
   have HB:=Kh h2;have HS:=Kh hs;have d4:=Kh H1;clear h2 h7 h9 hs H1;go_wp2;go_ret;have a8:j=v.length:=by rw[d4.out,H2.out]
   refine⟨gs,some ⟨h6,0,none⟩,cn,?_,?_⟩
   ·rw[<- a8,<- HQ.out,<- HC.out,<- HS.out];rfl
   ·rw[<- a8,<- HC.out];exact HB.out
def sufN (k c:Nat)(u:List Nat):List (List Nat):=wJ k c u (u.length+1)
theorem sufN_nil (k c:Nat):sufN k c []=[List.replicate k c]:=by
 have e:kmpN k c [] 0=List.replicate k c:=by
  refine List.ext_getElem (by simp[kmpN]) fun i h1 h2=>?_;simp only[kmpN,List.getElem_map,List.getElem_range,List.getElem_replicate];rw[qED (.inl rfl)];rfl
 show wJ k c [] 1=_;rw[<- e];rfl
theorem bsuffix_any (W0 W:World)(bb k:Nat)(t:List (List Nat))(gs:List Nat)(sn:Option Addr)(cn:Nat)(u:ByteArray)(h:BB W0 W bb k t gs sn cn)(ht:t.length<=500)(hk1:1<=k)(hk6:k<=6)(hu:zY u (k:Int)=true)(hl:u.size<=64):Calls Try.prog 109 #[.pointer (some ⟨bb,0,none⟩),.string u] W (qFC W0 bb k (t++sufN k t.length (zI u))):=by
 obtain⟨c0,c1,f1⟩:=h.cells;have H:=Kh h;obtain⟨c,hc⟩:∃ c,c=t.length:=⟨_,rfl⟩;rw[<- hc]at c1 ht;have HC:=Kh hc;clear h;by_cases h0:u.size=0
 ·have H4:u=⟨#[]⟩:=by
   have:u.data=#[]:=Array.size_eq_zero_iff.1 h0;cases u;simp_all
  subst H4;have H0:zI (⟨#[]⟩:ByteArray)=[]:=rfl;have H8:=Kh H0;clear hu hl h0 H0 hc;go_enter Try.func109,Try.ntmps109;go_wp2_with fail;refine(oL W0 W bb k t gs sn cn c H.out hk1 hk6 (by have:=HC.out;omega)).mono ?_;rintro e w1 ⟨g,sn1,cn1,rfl,h1⟩;go_wp2;refine bodyPost_ret (v:=.tuple #[]) (by simp[results,Try.results109,go_sem]) rfl ⟨gs++[g],sn1,cn1,rfl,?_⟩;rw[H8.out,sufN_nil,<- HC.out];exact h1
 ·have a0:u.toList.isEmpty=false:=by
   rw[ByteArray.toList_eq,List.isEmpty_eq_false_iff];intro e;have:=congrArg List.length e;rw[Array.length_toList]at this;exact h0 this
  have h7:=Kh (eO W0 W bb k t gs sn cn u H.out (by omega) hk1 hk6 hu (by omega) hl);obtain⟨v,hv⟩:∃ v,v=zI u:=⟨_,rfl⟩;have h8:v.length=u.size:=by rw[hv,yQ]
  rw[<- hv]at h7 ⊢;have HV:=Kh hv;have H7:=Kh h8;have h5:0<v.length:=by omega
  clear hu hc hv h8 h0 c0 c1 f1;go_enter Try.func109,Try.ntmps109;go_wp2_with fail;refine h7.out.mono ?_;rintro e w1 ⟨gs1,sn1,cn1,rfl,h1⟩;clear h7 H;rw[<- HC.out]at h1 ⊢;have h9:(t++wJ k c v v.length).length=c+v.length:=by rw[List.length_append,vF,HC.out]
  have H3:=aU h5 (Nat.le_refl v.length);obtain⟨q,hq⟩:∃ q,q=mW v v.length:=⟨_,rfl⟩;rw[<- hq]at H3 ⊢;have HQ:=Kh hq;have h4:=Kh h9;obtain⟨s,hs⟩:∃ s,s=gs1.getD (c+q) 0:=⟨_,rfl⟩;have HS:=Kh hs;rw[<- hs];clear hq h9 hs;go_wp2_with fail;refine(oL W0 w1 bb k _ gs1 sn1 cn1 0 h1 hk1 hk6 (by rw[h4.out,H7.out];omega)).mono ?_;rintro e w2 ⟨g,sn2,cn2,rfl,h3⟩;have H5:gs1.length=c+v.length:=by rw[h1.len,h4.out]
  have e1:(gs1++[g]).getD (c+q) 0=s:=by rw[yF (by omega),<- HS.out]
  have h2:=h3.row (c+q) (by rw[List.length_append,h4.out];omega)
  have e2:((t++wJ k c v v.length)++[List.replicate k 0]).getD (c+q) []=kmpN k c v q:=by
   rw[yF (by rw[h4.out];omega),HC.out,bR H3]
  rw[e1,e2]at h2;obtain⟨H6,H2,H1⟩:=qEQ h3.last.1 h3.last.2 h2.1 h2.2;have h6:=h3.setLast h2.2 H1 H2;rw[HQ.out,qDL h5,List.append_assoc,<- iF]at h6;rw[HQ.out,qDL h5]at H6;have H9:=Kh h6;clear H2 H1 h2 e1 e2 H5 h1 h3 h6;go_wp2;refine bodyPost_ret (v:=.tuple #[]) (by simp[results,Try.results109,go_sem]) rfl ⟨gs1++[g],sn2,cn2,rfl,by unfold sufN;rw[<- HC.out];exact H9.out⟩
def midN (k:Nat):Nat->List (List Nat)->List (List Nat)
 | _,[]=>[]
 | c,u::us=>wJ k c u u.length++midN k (c+u.length) us
theorem vQ (u:List Nat)(us:List (List Nat)):yG (u::us)=u.length+yG us:=by simp[yG]
theorem kX (us vs:List (List Nat)):yG (us++vs)=yG us+yG vs:=by simp[yG]
theorem oI (k:Nat):∀ (us:List (List Nat)) (c:Nat),(midN k c us).length=yG us
 | [],c=>rfl
 | u::us,c=>by rw[midN,List.length_append,vF,oI k us,vQ]
theorem qBF (k:Nat)(u:List Nat):∀ (us:List (List Nat)) (c:Nat),midN k c (us++[u])=midN k c us++wJ k (c+yG us) u u.length
 | [],c=>by simp[midN,yG]
 | v::us,c=>by
  rw[List.cons_append,midN,midN,qBF k u us,vQ,List.append_assoc,Nat.add_assoc]
theorem kmpRow_map (k c:Nat)(u:List Nat)(j:Nat):zl (kmpN k c u j)=bG k c u j:=by simp[zl,kmpN,bG]
theorem lA (k c:Nat)(u:List Nat)(m:Nat):(wJ k c u m).map zl=xL k c u m:=by
 simp only[wJ,xL,List.map_map];exact List.map_congr_left fun j _=>kmpRow_map k c u j
theorem qDE (k:Nat)(v:List Nat):∀ (us:List (List Nat)) (c:Nat),(midN k c us++sufN k (c+yG us) v).map zl=xV k c (us++[v])
 | [],c=>by
  show (sufN k (c+0) v).map zl=_
  rw[sufN,lA];rfl
 | u::us,c=>by
  have:=qDE k v us (c+u.length)
  rw[List.map_append]at this
  rw[midN,List.append_assoc,List.map_append,lA,vQ,<- Nat.add_assoc,List.map_append,this]
  cases us with
  | nil=>rfl
  | cons w us=>rfl
theorem gV (k:Nat)(b:List Nat)(m:Nat):(qG k b m).map zl=tT k b m:=by
 simp only[qG,tT,List.map_map];refine List.map_congr_left fun j _=>?_;simp[preN,qAQ,zl]
def xY (k:Nat)(bs:List (List Nat)):List (List Nat):=match bs with
 | []=>[]
 | [b]=>[List.replicate k 0]++qG k b b.length++[List.replicate k 0]
 | b::us=>[List.replicate k 0]++qG k b b.length++midN k (1+b.length) us.dropLast++sufN k (1+b.length+yG us.dropLast) (us.getLastD [])
theorem qFH (k:Nat):zl (List.replicate k 0)=List.replicate k 0:=by simp[zl]
theorem qCM (k:Nat):∀ (bs:List (List Nat)),(xY k bs).map zl=tU k bs
 | []=>rfl
 | [b]=>by
  simp only[xY,tU,xV,List.map_append,gV,List.map_cons,List.map_nil,qFH]
  simp
 | b::c::us=>by
  have h:(c::us)=(c::us).dropLast++[(c::us).getLastD []]:=by
   rw[List.getLastD_eq_getLast?,List.getLast?_eq_some_getLast (List.cons_ne_nil c us)];exact(List.dropLast_concat_getLast (List.cons_ne_nil c us)).symm
  have ht:=qDE k ((c::us).getLastD []) (c::us).dropLast (1+b.length);rw[<- h]at ht;simp only[xY,tU,List.append_assoc];rw[List.map_append,List.map_append,ht,gV];simp[qFH]
theorem nK (k:Nat)(b:List Nat)(us:List (List Nat)):(xY k (b::us)).length=2+b.length+yG us:=by
 have:=congrArg List.length (qCM k (b::us))
 rwa [List.length_map,qZ]at this
theorem tK (bs:List ByteArray):sG bs=yG (bs.map zI):=by
 simp only[sG,yG,List.map_map];congr 1;exact List.map_congr_left fun s _=>(yQ s).symm
theorem pB (us:List (List Nat))(i:Nat):yG (us.take i)<=yG us:=by
 have h:us.take i++us.drop i=us:=List.take_append_drop i us;have:=kX (us.take i) (us.drop i);rw[h]at this;omega
theorem mF {n:Nat}{letters:Int}:∀ {bs:List ByteArray} {i:Nat},wX n letters i bs=true->∀ j (h:j<bs.length),uU n letters (i+j) bs[j]=true
 | [],_,_,j,h=>by simp at h
 | u::us,i,h,j,hj=>by
  rw[wX,Bool.and_eq_true]at h
  cases j with
  | zero=>exact h.1
  | succ j =>
   have:=mF h.2 j (by simpa using hj)
   rw[show i+(j+1)=i+1+j by omega]
   simpa using this
theorem iI {n i:Nat}{letters:Int}{u:ByteArray}(h:uU n letters i u=true):zY u letters=true/\(0<i->i+1<n->0<u.size):=by
 rw[uU,Bool.and_eq_true,Bool.not_eq_true',Bool.and_eq_false_iff]at h;refine⟨h.1,fun h0 h1=>?_⟩;rcases h.2 with h2|h2
 ·rw[decide_eq_false_iff_not]at h2;exact absurd ⟨h0,h1⟩ h2
 ·rw[ByteArray.toList_eq,List.isEmpty_eq_false_iff]at h2
  have:=List.length_pos_iff.2 h2
  rwa [Array.length_toList]at this
theorem qCN {bs:List ByteArray}{letters:Int}(h:yM bs letters=0):1<=letters/\letters<=6/\0<bs.length/\bs.length<=8/\sG bs<=64/\(∀ i (hi:i<bs.length),zY bs[i] letters=true)/\∀ i (hi:i<bs.length),0<i->i+1<bs.length->0<bs[i].size:=by
 obtain⟨h1,h2,h3,h4,h5,h6⟩:=wT h;refine⟨h1,h2,h5,h3,h4,fun i hi=>?_,fun i hi h0 h1'=>?_⟩
 ·have:=mF h6 i hi
  exact(iI this).1
 ·have:=mF h6 i hi
  rw[Nat.zero_add]at this;exact(iI this).2 h0 h1'
theorem nL {k:Nat}{bs:List ByteArray}(h0:0<bs.length)(ht:sG bs<=64):2<=(xY k (bs.map zI)).length/\(xY k (bs.map zI)).length<=66:=by
 match bs,h0 with
 | b::rest,_ =>
  rw[tK,List.map_cons,vQ]at ht;rw[List.map_cons,nK];omega
theorem total_get {bs:List ByteArray}{i:Nat}(hi:i<bs.length):bs[i].size<=sG bs:=by
 have h:=dP bs i hi
 have h2:sG (bs.take (i+1))<=sG bs:=by
  rw[tK,tK,List.map_take];exact pB _ _
 omega
end Go.Proofs.Ytjfdomfendbhfaa
