/- Part 2 of the proof. -/
import Derived.Test.YtjfdomfendbhfaaQf1
set_option linter.unusedVariables false
set_option linter.unusedSimpArgs false
set_option maxRecDepth 100000
set_option maxHeartbeats 16000000
namespace Go.Proofs.Ytjfdomfendbhfaa
structure ChoV where
 p:Int
 y:Int
 n:Int
deriving Inhabited,DecidableEq
structure DiaV where
 pats:List (List ByteArray)
 chos:List ChoV
 root:Int
def refB (cs:List ChoV)(i:Nat)(p r:Int):Bool:=decide (0<=r/\r<=1+(i:Int)) && decide (r<2\/p<(cs.getD (r.toNat - 2) default).p)
def choB (np:Nat)(cs:List ChoV)(i:Nat):Bool :=
 decide (0<=(cs.getD i default).p/\(cs.getD i default).p<np) && (refB cs i (cs.getD i default).p (cs.getD i default).y && refB cs i (cs.getD i default).p (cs.getD i default).n)
def vM (letters:Int):List (List ByteArray)->Int
 | []=>0
 | p::ps=>if patW p letters=0 then vM letters ps else patW p letters
def dH (np:Nat)(cs:List ChoV)(root:Int):Int:=if (List.range cs.length).all (choB np cs)=true/\0<=root/\root<=1+(cs.length:Int) then 0 else 22
def diaE (g:DiaV)(letters:Int):Int :=
 if letters<1\/6<letters then 1 else if 300<g.pats.length\/20000<g.chos.length then 3
 else if vM letters g.pats=0 then dH g.pats.length g.chos g.root else vM letters g.pats
theorem mO {letters:Int}{ps:List (List ByteArray)}{k:Nat}(hk:k<ps.length)(h:patW (ps.getD k []) letters=0):vM letters (ps.drop (k+1))=vM letters (ps.drop k):=by
 rw[List.drop_eq_getElem_cons hk,vM,if_pos (by rw[zG hk]at h;exact h)]
theorem fY {letters:Int}{ps:List (List ByteArray)}{k:Nat}(hk:k<ps.length)(h:patW (ps.getD k []) letters≠0):vM letters (ps.drop k)=patW (ps.getD k []) letters:=by
 rw[List.drop_eq_getElem_cons hk,vM,if_neg (by rw[zG hk]at h;exact h),zG hk]
theorem jA {letters:Int}{ps:List (List ByteArray)}{k:Nat}(hk:¬ k<ps.length):vM letters (ps.drop k)=0:=by
 rw[List.drop_eq_nil_of_le (by omega)];rfl
theorem uL {letters:Int}:∀ {ps:List (List ByteArray)},vM letters ps=0 ↔ ∀ p∈ps,patW p letters=0
 | []=>by simp[vM]
 | p::ps=>by
  rw[vM]
  split
  ·rename_i h;rw[uL];simp[h]
  ·rename_i h;simp[h]
def wE (np:Nat)(cs:List ChoV)(k:Nat):Prop:=∀ i,i<k->choB np cs i=true
theorem dF (np:Nat)(cs:List ChoV):wE np cs 0:=fun i hi=>by omega
theorem oP {np:Nat}{cs:List ChoV}{k:Nat}(h:wE np cs k)(hk:choB np cs k=true):wE np cs (k+1):=fun i hi=>by
 rcases Nat.lt_succ_iff_lt_or_eq.1 hi with hi|rfl
 ·exact h i hi
 ·exact hk
theorem sC {np:Nat}{cs:List ChoV}{root:Int}{k:Nat}(hk:k<cs.length)(h:choB np cs k=false):dH np cs root=22:=by
 unfold dH;rw[if_neg];rintro ⟨h1,_⟩;rw[List.all_eq_true]at h1;have:=h1 k (List.mem_range.2 hk);rw[h]at this;cases this
theorem dG {np:Nat}{cs:List ChoV}{root:Int}{k:Nat}(hk:¬ k<cs.length)(h:wE np cs k):dH np cs root=if 0<=root/\root<=1+(cs.length:Int) then 0 else 22:=by
 unfold dH;have:(List.range cs.length).all (choB np cs)=true:=List.all_eq_true.2 fun i hi=>h i (by have:=List.mem_range.1 hi;omega);rw[this];simp
theorem chosE_zero {np:Nat}{cs:List ChoV}{root:Int}(h:dH np cs root=0):wE np cs cs.length/\0<=root/\root<=1+(cs.length:Int):=by
 unfold dH at h
 split at h
 ·rename_i h1
  exact⟨fun i hi=>List.all_eq_true.1 h1.1 i (List.mem_range.2 hi),h1.2⟩
 ·omega
theorem chosE_of {np:Nat}{cs:List ChoV}{root:Int}(h:wE np cs cs.length)(h1:0<=root)(h2:root<=1+(cs.length:Int)):dH np cs root=0:=by
 rw[dG (Nat.lt_irrefl _) h,if_pos ⟨h1,h2⟩]
theorem nX {g:DiaV}{letters:Int}(h:diaE g letters=0):1<=letters/\letters<=6/\g.pats.length<=300/\g.chos.length<=20000/\(∀ p∈g.pats,patW p letters=0)/\wE g.pats.length g.chos g.chos.length/\0<=g.root/\g.root<=1+(g.chos.length:Int):=by
 unfold diaE at h
 split at h
 ·omega
 split at h
 ·omega
 split at h
 ·rename_i h3
  obtain⟨h4,h5,h6⟩:=chosE_zero h;exact⟨by omega,by omega,by omega,by omega,uL.1 h3,h4,h5,h6⟩
 ·omega
theorem qHE {g:DiaV}{letters:Int}(h1:1<=letters)(h2:letters<=6)(h3:g.pats.length<=300)(h4:g.chos.length<=20000)(h5:∀ p∈g.pats,patW p letters=0)(h6:wE g.pats.length g.chos g.chos.length)(h7:0<=g.root)(h8:g.root<=1+(g.chos.length:Int)):diaE g letters=0:=by
 unfold diaE;rw[if_neg (by omega),if_neg (by omega),if_pos (uL.2 h5),chosE_of h6 h7 h8]
theorem qAK {g:DiaV}{letters:Int}(h:letters<1\/6<letters):diaE g letters=1:=if_pos h
theorem gW {g:DiaV}{letters:Int}(h:¬ (letters<1\/6<letters))(h2:300<g.pats.length\/20000<g.chos.length):diaE g letters=3:=by
 unfold diaE;rw[if_neg h,if_pos h2]
theorem qFJ {g:DiaV}{letters:Int}(h:¬ (letters<1\/6<letters))(h2:¬ (300<g.pats.length\/20000<g.chos.length)){k:Nat}(hk:k<g.pats.length)(h3:vM letters (g.pats.drop k)=vM letters g.pats)(h4:patW (g.pats.getD k []) letters≠0):diaE g letters=patW (g.pats.getD k []) letters:=by
 have e:=fY hk h4;rw[h3]at e;unfold diaE;rw[if_neg h,if_neg h2,if_neg (by rw[e];exact h4),e]
theorem qFK {g:DiaV}{letters:Int}(h:¬ (letters<1\/6<letters))(h2:¬ (300<g.pats.length\/20000<g.chos.length))(h3:vM letters g.pats=0):diaE g letters=dH g.pats.length g.chos g.root:=by
 unfold diaE;rw[if_neg h,if_neg h2,if_pos h3]
def decF (cs:List ChoV)(m:Nat->Bool):Nat->Int->Bool
 | 0,r=>decide (r=1)
 | f+1,r=>if r<2 then decide (r=1) else decF cs m f (if m (cs.getD (r.toNat - 2) default).p.toNat then (cs.getD (r.toNat - 2) default).y else (cs.getD (r.toNat - 2) default).n)
def decG (cs:List ChoV)(m:Nat->Bool)(r:Int):Bool:=decF cs m r.toNat r
theorem qJ {np:Nat}{cs:List ChoV}{i:Nat}(h:choB np cs i=true):0<=(cs.getD i default).p/\(cs.getD i default).p<np/\0<=(cs.getD i default).y/\(cs.getD i default).y<=1+(i:Int)/\0<=(cs.getD i default).n/\(cs.getD i default).n<=1+(i:Int):=by
 simp only[choB,refB,Bool.and_eq_true,decide_eq_true_eq]at h;omega
theorem dB {np:Nat}{cs:List ChoV}{m:Nat->Bool}(h:wE np cs cs.length):∀ (f:Nat) (r:Int) (e:Nat),r.toNat<=f->r<=1+(cs.length:Int)->decF cs m (f+e) r=decF cs m f r
 | 0,r,e,hf,_=>by
  cases e with
  | zero=>rfl
  | succ e=>rw[Nat.zero_add,decF,decF,if_pos (by omega)]
 | f+1,r,e,hf,hr=>by
  rw[show f+1+e=(f+e)+1 by omega,decF,decF]
  split
  ·rfl
  ·rename_i h2
   have hi:r.toNat - 2<cs.length:=by omega
   have hc:=qJ (h _ hi)
   split
   ·exact dB h f _ e (by omega) (by omega)
   ·exact dB h f _ e (by omega) (by omega)
theorem qAL (cs:List ChoV)(m:Nat->Bool){r:Int}(h:r<2):decG cs m r=decide (r=1):=by
 unfold decG;cases r.toNat with
 | zero=>rfl
 | succ f=>rw[decF,if_pos h]
theorem jP {np:Nat}{cs:List ChoV}{m:Nat->Bool}(h:wE np cs cs.length){r:Int}(h2:2<=r)(hr:r<=1+(cs.length:Int)):decG cs m r=decG cs m (if m (cs.getD (r.toNat - 2) default).p.toNat then (cs.getD (r.toNat - 2) default).y else (cs.getD (r.toNat - 2) default).n):=by
 have hc:=qJ (h (r.toNat - 2) (by omega))
 have hx:∀ x:Int,x.toNat<=r.toNat - 1->x<=1+(cs.length:Int)->decF cs m (r.toNat - 1) x=decG cs m x:=fun x h1 h3=>by
  have:=dB (m:=m) h x.toNat x (r.toNat - 1 - x.toNat) (Nat.le_refl _) h3;rw[show x.toNat+(r.toNat - 1 - x.toNat)=r.toNat - 1 by omega]at this;exact this
 have e:decG cs m r=decF cs m (r.toNat - 1) (if m (cs.getD (r.toNat - 2) default).p.toNat then (cs.getD (r.toNat - 2) default).y else (cs.getD (r.toNat - 2) default).n):=by
  have hf:r.toNat=(r.toNat - 1)+1:=by omega
  show decF cs m r.toNat r=_
  conv=>lhs;rw[hf]
  rw[decF,if_neg (by omega)]
 rw[e];refine hx _ ?_ ?_<;>split<;>omega
end Go.Proofs.Ytjfdomfendbhfaa
namespace Go.Proofs.Ytjfdomfendbhfaa
theorem pB {α:Type}{l m:List α}{x:α}(h:l <+: m){i:Nat}(hi:i<l.length):m.getD i x=l.getD i x:=by
 obtain⟨r,rfl⟩:=h;simp[List.getD,List.getElem?_append_left hi]
theorem qAQ {np:Nat}{cs cs':List ChoV}(h:cs <+: cs'){i:Nat}(hi:i<cs.length):choB np cs' i=choB np cs i:=by
 have e:∀ p r,refB cs' i p r=refB cs i p r:=fun p r=>by
  unfold refB;by_cases h1:0<=r/\r<=1+(i:Int)
  ·by_cases h2:r<2
   ·simp[h2]
   ·rw[pB h (show r.toNat - 2<cs.length by omega)]
  ·simp[h1]
 unfold choB;rw[pB h hi,e,e]
theorem chosTo_pre {np k:Nat}{cs cs':List ChoV}(h:cs <+: cs')(hk:k<=cs.length):wE np cs' k ↔ wE np cs k :=
 ⟨fun hc i hi=>by rw[<- qAQ h (by omega)];exact hc i hi,fun hc i hi=>by rw[qAQ h (by omega)];exact hc i hi⟩
theorem qAM {np:Nat}{cs cs':List ChoV}{m:Nat->Bool}(h:cs <+: cs')(hc:wE np cs cs.length):∀ (f:Nat) (r:Int),r<=1+(cs.length:Int)->decF cs' m f r=decF cs m f r
 | 0,r,_=>rfl
 | f+1,r,hr=>by
  rw[decF,decF]
  split
  ·rfl
  ·rename_i h2
   have hi:r.toNat - 2<cs.length:=by omega
   rw[pB h hi]
   have hf:=qJ (hc _ hi)
   split
   ·exact qAM h hc f _ (by omega)
   ·exact qAM h hc f _ (by omega)
theorem qFO {np:Nat}{cs cs':List ChoV}{m:Nat->Bool}(h:cs <+: cs')(hc:wE np cs cs.length){r:Int}(hr:r<=1+(cs.length:Int)):decG cs' m r=decG cs m r:=qAM h hc _ r hr
structure ClaV where
 m:List Bool
 yes:Int
 no:Int
deriving Inhabited
def ClaV.b (c:ClaV):Bool:=decide (0<=c.yes)
def mF (l:List ClaV)(p:Nat):Prop:=∀ c∈l,∀ c'∈l,∀ q,q<p->c.m.getD q false=c'.m.getD q false
structure ClsOk (np:Nat)(l:List ClaV):Prop where
 len:∀ c∈l,c.m.length=np
 nd:(l.map ClaV.m).Nodup
def yesL (l:List ClaV)(p:Nat):List ClaV:=l.filter fun c=>c.m.getD p false
def noL (l:List ClaV)(p:Nat):List ClaV:=l.filter fun c=>!c.m.getD p false
theorem qAX (l:List ClaV)(p:Nat):(yesL l p).length+(noL l p).length=l.length:=by
 induction l with
 | nil=>rfl
 | cons c l ih =>
  unfold yesL noL at ih ⊢;rw[List.filter_cons,List.filter_cons]
  generalize c.m.getD p false=b
  cases b
  ·rw[if_neg (by decide),if_pos (by decide),List.length_cons,List.length_cons];omega
  ·rw[if_pos (by decide),if_neg (by decide),List.length_cons,List.length_cons];omega
theorem ClsOk.sub {np:Nat}{l l':List ClaV}(h:ClsOk np l)(hs:l'.Sublist l):ClsOk np l' :=
 ⟨fun c hc=>h.len c (hs.mem hc),h.nd.sublist (hs.map _)⟩
theorem mF.sub {l l':List ClaV}{p:Nat}(h:mF l p)(hs:l'.Sublist l):mF l' p:=fun c hc c' hc'=>h c (hs.mem hc) c' (hs.mem hc')
theorem mF.yes {l:List ClaV}{p:Nat}(h:mF l p):mF (yesL l p) (p+1):=fun c hc c' hc' q hq=>by
 have h1:=List.mem_filter.1 hc
 have h2:=List.mem_filter.1 hc'
 rcases Nat.lt_succ_iff_lt_or_eq.1 hq with hq|rfl
 ·exact h c h1.1 c' h2.1 q hq
 ·rw[h1.2,h2.2]
theorem mF.no {l:List ClaV}{p:Nat}(h:mF l p):mF (noL l p) (p+1):=fun c hc c' hc' q hq=>by
 have h1:=List.mem_filter.1 hc
 have h2:=List.mem_filter.1 hc'
 rcases Nat.lt_succ_iff_lt_or_eq.1 hq with hq|rfl
 ·exact h c h1.1 c' h2.1 q hq
 ·have e1:=h1.2;have e2:=h2.2
  simp only[Bool.not_eq_true']at e1 e2
  rw[e1,e2]
theorem mF.skip {l:List ClaV}{p:Nat}(h:mF l p)(he:(yesL l p).length=0\/(noL l p).length=0):mF l (p+1):=fun c hc c' hc' q hq=>by
 rcases Nat.lt_succ_iff_lt_or_eq.1 hq with hq|rfl
 ·exact h c hc c' hc' q hq
 ·rcases he with he|he
  ·have h0:=List.eq_nil_of_length_eq_zero he
   have key:∀ c∈l,c.m.getD q false=false:=fun c hc=>by
    by_cases h1:c.m.getD q false=true
    ·have:c∈yesL l q:=List.mem_filter.2 ⟨hc,h1⟩
     rw[h0]at this;cases this
    ·simpa using h1
   rw[key c hc,key c' hc']
  ·have h0:=List.eq_nil_of_length_eq_zero he
   have key:∀ c∈l,c.m.getD q false=true:=fun c hc=>by
    by_cases h1:c.m.getD q false=true
    ·exact h1
    ·have:c∈noL l q:=List.mem_filter.2 ⟨hc,by simpa using h1⟩
     rw[h0]at this;cases this
   rw[key c hc,key c' hc']
theorem mF.one {np:Nat}{l:List ClaV}(h:mF l np)(hl:ClsOk np l):l.length<=1:=by
 match l,h,hl with
 | [],_,_=>simp
 | [c],_,_=>simp
 | c::c'::r,h,hl =>
  exfalso
  have e:c.m=c'.m:=by
   refine List.ext_getElem (by rw[hl.len c (by simp),hl.len c' (by simp)]) fun i h1 h2=>?_;have:=h c (by simp) c' (by simp) i (by rw[<- hl.len c (by simp)];exact h1)
   rwa [zG h1,zG h2]at this
  have:=hl.nd;simp[e]at this
def qI (l:List ClaV):Bool:=l.all fun c=>c.b == (l.headD default).b
def iN (b:Bool):Int:=if b then 1 else 0
theorem const_of_one {l:List ClaV}(h:l.length<=1):qI l=true:=by
 match l,h with
 | [],_=>rfl
 | [c],_=>simp[qI]
structure DecOk (np:Nat)(cs cs':List ChoV)(l:List ClaV)(p:Nat)(r:Int):Prop where
 pre:cs <+: cs'
 ok:wE np cs' cs'.length
 nd:cs'.Nodup
 lo:0<=r
 hi:r<=1+(cs'.length:Int)
 pat:2<=r->(p:Int)<=(cs'.getD (r.toNat - 2) default).p
 dec:∀ c∈l,decG cs' (fun i=>c.m.getD i false) r=c.b
 few:cs'.length+1<=cs.length+l.length
theorem DecOk.const {np:Nat}{cs:List ChoV}{l:List ClaV}{p:Nat}(hc:wE np cs cs.length)(hn:cs.Nodup)(h0:0<l.length){b:Bool}(h:∀ c∈l,c.b=b):DecOk np cs cs l p (iN b):=by
 have hb:iN b=0\/iN b=1:=by cases b<;>simp[iN]
 refine⟨List.prefix_refl _,hc,hn,by omega,by omega,fun h2=>by omega,fun c hc=>?_,by omega⟩;rw[qAL _ _ (by omega),h c hc];cases b<;>rfl
theorem iG {np:Nat}{cs cs':List ChoV}{l:List ClaV}{p q:Nat}{r:Int}(h:DecOk np cs cs' l p r)(hq:q<=p):DecOk np cs cs' l q r :=
 ⟨h.pre,h.ok,h.nd,h.lo,h.hi,fun h2=>by have:=h.pat h2;omega,h.dec,h.few⟩
section
variable {np:Nat} {cs c1 c2:List ChoV} {l:List ClaV} {p:Nat} {rn ry:Int}
theorem dA (hn:DecOk np cs c1 (noL l p) (p+1) rn)(hy:DecOk np c1 c2 (yesL l p) (p+1) ry):∀ c∈l,decG c2 (fun i=>c.m.getD i false) (if c.m.getD p false then ry else rn)=c.b:=fun c hc=>by
 by_cases h:c.m.getD p false=true
 ·rw[if_pos h];exact hy.dec c (List.mem_filter.2 ⟨hc,h⟩)
 ·rw[if_neg h,qFO hy.pre hn.ok hn.hi]
  exact hn.dec c (List.mem_filter.2 ⟨hc,by simpa using h⟩)
theorem DecOk.same (hn:DecOk np cs c1 (noL l p) (p+1) rn)(hy:DecOk np c1 c2 (yesL l p) (p+1) ry)(e:ry=rn):DecOk np cs c2 l p ry:=by
 have h1:=hn.few;have h2:=hy.few;have h3:=qAX l p;refine⟨hn.pre.trans hy.pre,hy.ok,hy.nd,hy.lo,hy.hi,fun h=>by have:=hy.pat h;omega,fun c hc=>?_,by omega⟩;have:=dA hn hy c hc
 rwa [<- e,ite_self]at this
theorem cho_ok (hp:p<np)(hn:DecOk np cs c1 (noL l p) (p+1) rn)(hy:DecOk np c1 c2 (yesL l p) (p+1) ry):refB c2 c2.length (p:Int) ry=true/\refB c2 c2.length (p:Int) rn=true:=by
 have hl:=hy.pre.length_le;have h1:=hn.hi;have h2:=hy.hi;have h3:=hn.lo;have h4:=hy.lo;constructor
 ·simp only[refB,Bool.and_eq_true,decide_eq_true_eq]
  refine⟨by omega,?_⟩;rcases Int.lt_or_le ry 2 with h|h
  ·exact .inl h
  ·have:=hy.pat h;exact .inr (by omega)
 ·simp only[refB,Bool.and_eq_true,decide_eq_true_eq]
  refine⟨by omega,?_⟩;rcases Int.lt_or_le rn 2 with h|h
  ·exact .inl h
  ·have h5:=hn.pat h
   rw[pB hy.pre (by omega)];exact .inr (by omega)
theorem DecOk.old (hp:p<np)(hn:DecOk np cs c1 (noL l p) (p+1) rn)(hy:DecOk np c1 c2 (yesL l p) (p+1) ry){i:Nat}(hi:i<c2.length)(e:c2.getD i default=⟨p,ry,rn⟩):DecOk np cs c2 l p (2+(i:Int)):=by
 have h1:=hn.few;have h2:=hy.few;have h3:=qAX l p;have e0:(2+(i:Int)).toNat - 2=i:=by omega
 refine⟨hn.pre.trans hy.pre,hy.ok,hy.nd,by omega,by omega,fun h=>by rw[e0,e];exact Int.le_refl _,fun c hc=>?_,by omega⟩;have:=dA hn hy c hc;rw[jP hy.ok (by omega) (by omega),e0,e];exact this
theorem DecOk.new (hp:p<np)(hn:DecOk np cs c1 (noL l p) (p+1) rn)(hy:DecOk np c1 c2 (yesL l p) (p+1) ry)(hm:(⟨p,ry,rn⟩:ChoV) ∉ c2)(hY:0<(yesL l p).length)(hN:0<(noL l p).length):DecOk np cs (c2++[⟨p,ry,rn⟩]) l p (2+(c2.length:Int)):=by
 have h1:=hn.few;have h2:=hy.few;have h3:=qAX l p;have h0:c2 <+: c2++[⟨p,ry,rn⟩]:=List.prefix_append _ _;have e0:(2+(c2.length:Int)).toNat - 2=c2.length:=by omega
 have e1:(c2++[(⟨p,ry,rn⟩:ChoV)]).getD c2.length default=⟨p,ry,rn⟩:=by rw[List.getD_eq_getElem?_getD];simp
 have h8:wE np (c2++[⟨p,ry,rn⟩]) (c2++[(⟨p,ry,rn⟩:ChoV)]).length:=by
  rw[List.length_append,List.length_singleton];refine oP ((chosTo_pre h0 (Nat.le_refl _)).2 hy.ok) ?_;obtain⟨h4,h5⟩:=cho_ok hp hn hy
  have e2:∀ r,refB c2 c2.length (p:Int) r=true->refB (c2++[(⟨p,ry,rn⟩:ChoV)]) c2.length (p:Int) r=true:=fun r h=>by
   simp only[refB,Bool.and_eq_true,decide_eq_true_eq]at h ⊢;refine⟨h.1,?_⟩;rcases Int.lt_or_le r 2 with h6|h6
   ·exact .inl h6
   ·rcases h.2 with h7|h7
    ·omega
    ·rw[pB h0 (by omega)];exact .inr h7
  unfold choB;rw[e1];simp only[Bool.and_eq_true,decide_eq_true_eq];exact⟨by omega,e2 _ h4,e2 _ h5⟩
 refine⟨(hn.pre.trans hy.pre).trans h0,h8,?_,by omega,by simp;omega,fun h=>by rw[e0,e1];exact Int.le_refl _,fun c hc=>?_,by simp;omega⟩
 ·rw[List.nodup_append]
  exact⟨hy.nd,by simp,fun a ha b hb e=>by simp at hb;subst hb;subst e;exact hm ha⟩
 ·have h6:=dA hn hy c hc
  rw[jP h8 (by omega) (by simp;omega),e0,e1];show decG _ _ (if c.m.getD (p:Int).toNat false then ry else rn)=_;rw[Int.toNat_natCast]
  have hr:(if c.m.getD p false then ry else rn)<=1+(c2.length:Int):=by
   have:=hy.hi;have:=hn.hi;have:=hy.pre.length_le
   split<;>omega
  rw[qFO h0 hy.ok hr];exact h6
end
end Go.Proofs.Ytjfdomfendbhfaa
namespace Go.Proofs.Ytjfdomfendbhfaa
structure DfaV where
 letters:Int
 start:Int
 final:List Bool
 next:List (List Int)
def rowD (letters:Int)(n:Nat)(r:List Int):Bool:=decide ((r.length:Int)=letters) && r.all fun x=>decide (0<=x/\x<n)
def vS (d:DfaV):Int :=
 if d.letters<1\/6<d.letters then 1 else if 512<d.final.length then 3
 else if d.final.length=0\/d.next.length≠d.final.length\/d.start<0\/d.final.length<=d.start then 4
 else if d.next.all (rowD d.letters d.final.length) then 0 else 4
structure VD (d:DfaV)(n k:Nat):Prop where
 hk:d.letters=k
 k1:1<=k
 k6:k<=6
 hn:d.final.length=n
 n1:1<=n
 nbig:n<=4194304
 nl:d.next.length=n
 s0:0<=d.start
 sn:d.start<n
 row:∀ q,q<n->(d.next.getD q []).length=k
 lo:∀ q a,q<n->a<k->0<=ent d.next q a
 hi:∀ q a,q<n->a<k->ent d.next q a<n
theorem mJ {k:Int}{n:Nat}{r:List Int}:rowD k n r=true ↔ (r.length:Int)=k/\∀ y,y<r.length->0<=r.getD y 0/\r.getD y 0<n:=by
 simp only[rowD,Bool.and_eq_true,decide_eq_true_eq,List.all_eq_true];refine and_congr_right fun _=>⟨fun h y hy=>?_,fun h x hx=>?_⟩
 ·have:=h (r[y]) (List.getElem_mem hy)
  rwa [<- zG (d:=0) hy]at this
 ·obtain⟨y,hy,rfl⟩:=List.getElem_of_mem hx
  have:=h y hy
  rwa [zG hy]at this
theorem qDK {d:DfaV}(h:vS d=0):VD d d.final.length d.letters.toNat:=by
 unfold vS at h
 split at h
 ·omega
 rename_i h1
 split at h
 ·omega
 rename_i h2
 split at h
 ·omega
 rename_i h3
 split at h
 ·rename_i h4
  rw[List.all_eq_true]at h4
  have hr:∀ q,q<d.next.length->rowD d.letters d.final.length (d.next.getD q [])=true:=fun q hq=>by
   rw[zG hq];exact h4 _ (List.getElem_mem hq)
  have h0:d.next.length=d.final.length:=by
   apply Classical.byContradiction;intro hh;exact h3 (.inr (.inl hh))
  refine⟨by omega,by omega,by omega,rfl,by omega,by omega,h0,by omega,by omega,fun q hq=>?_,fun q a hq ha=>?_,fun q a hq ha=>?_⟩
  ·have:=(mJ.1 (hr q (by omega))).1;omega
  ·obtain⟨e,h⟩:=mJ.1 (hr q (by omega))
   exact(h a (by omega)).1
  ·obtain⟨e,h⟩:=mJ.1 (hr q (by omega))
   exact(h a (by omega)).2
 ·omega
theorem fA {d:DfaV}{n k:Nat}(h:VD d n k)(h5:n<=512):vS d=0:=by
 unfold vS
 rw[if_neg (by have:=h.hk;have:=h.k1;have:=h.k6;omega),if_neg (by have:=h.hn;omega),
  if_neg (by have:=h.hn;have:=h.n1;have:=h.nl;have:=h.s0;have:=h.sn;omega),if_pos]
 rw[List.all_eq_true];intro r hr;obtain⟨q,hq,rfl⟩:=List.getElem_of_mem hr;have h0:q<n:=by have:=h.nl;omega
 rw[mJ];have hl:=h.row q h0;rw[zG hq]at hl;refine⟨by rw[hl,h.hk],fun y hy=>?_⟩;have h1:=h.lo q y h0 (by omega);have h2:=h.hi q y h0 (by omega);unfold ent at h1 h2;rw[zG hq]at h1 h2;rw[h.hn];exact⟨h1,h2⟩
def nx (d:DfaV)(q a:Nat):Nat:=entN d.next q a
theorem qGT {d:DfaV}{n k:Nat}(h:VD d n k){q a:Nat}(hq:q<n)(ha:a<k):(nx d q a:Int)=ent d.next q a:=Int.toNat_of_nonneg (h.lo q a hq ha)
theorem qC {d:DfaV}{n k:Nat}(h:VD d n k){q a:Nat}(hq:q<n)(ha:a<k):nx d q a<n:=by
 have h1:=qGT h hq ha;have h2:=h.hi q a hq ha;omega
def st0 (d:DfaV):Nat:=d.start.toNat
theorem aL {d:DfaV}{n k:Nat}(h:VD d n k):(st0 d:Int)=d.start:=Int.toNat_of_nonneg h.s0
theorem qR {d:DfaV}{n k:Nat}(h:VD d n k):st0 d<n:=by have:=aL h;have:=h.sn;omega
def finB (b:Bool):Int:=if b then 1 else 0
def oE (d:DfaV):List Nat:=numb (d.final.map finB)
def sG (d:DfaV)(p:List Nat)(a:Nat):List Nat:=(List.range p.length).map fun q=>p.getD (nx d q a) 0
def qBQ (m:Nat)(a b:Nat):Int:=(a:Int) * (m+1)+b
def mB (p q:List Nat):List Int:=List.zipWith (qBQ p.length) p q
def gL (p q:List Nat):List Nat:=numb (mB p q)
def uH (d:DfaV)(p:List Nat):Nat->List Nat
 | 0=>p
 | k+1=>gL (uH d p k) (sG d p k)
theorem qU (d:DfaV):(oE d).length=d.final.length:=by simp[oE,yD]
theorem xC (d:DfaV)(p:List Nat)(a:Nat):(sG d p a).length=p.length:=by simp[sG]
theorem rG {p q:List Nat}(h:q.length=p.length):(mB p q).length=p.length:=by simp[mB,h]
theorem gE {p q:List Nat}(h:q.length=p.length):(gL p q).length=p.length:=by rw[gL,yD,rG h]
theorem yW (d:DfaV)(p:List Nat):∀ k,(uH d p k).length=p.length
 | 0=>rfl
 | k+1=>by rw[uH,gE (by rw[xC,yW d p k]),yW d p k]
theorem pI {p:List Nat}(h:Norm p):∀ c∈p,c<p.length:=by
 intro c hc;have h1:=qGU (l:=p);rw[h]at h1;have:=h1 c hc;have:=vZ p;omega
theorem bL {m a b a' b':Nat}(hb:b<=m)(hb':b'<=m):qBQ m a b=qBQ m a' b' ↔ a=a'/\b=b':=by
 unfold qBQ;constructor
 ·intro h
  have h':a * (m+1)+b=a' * (m+1)+b':=by exact_mod_cast h
  have e1:(a * (m+1)+b) / (m+1)=a:=by rw[Nat.mul_comm,Nat.mul_add_div (by omega),Nat.div_eq_of_lt (by omega)];omega
  have e2:(a' * (m+1)+b') / (m+1)=a':=by rw[Nat.mul_comm,Nat.mul_add_div (by omega),Nat.div_eq_of_lt (by omega)];omega
  have ha:a=a':=by rw[<- e1,<- e2,h']
  subst ha;exact⟨rfl,by omega⟩
 ·rintro ⟨rfl,rfl⟩;rfl
theorem qDF {p q:List Nat}(h:q.length=p.length)(hq:∀ c∈q,c<p.length){i j:Nat}(hi:i<p.length)(hj:j<p.length):
  (gL p q).getD i 0=(gL p q).getD j 0 ↔ p.getD i 0=p.getD j 0/\q.getD i 0=q.getD j 0:=by
 have h1:i<(mB p q).length:=by rw[rG h];exact hi
 have h0:j<(mB p q).length:=by rw[rG h];exact hj
 rw[gL,oG h1 h0];simp only[mB,List.getElem_zipWith];rw[bL (Nat.le_of_lt (hq _ (List.getElem_mem _))) (Nat.le_of_lt (hq _ (List.getElem_mem _))),zG hi,zG hj,zG (show i<q.length by omega),zG (show j<q.length by omega)]
theorem pY {d:DfaV}{p:List Nat}{a i:Nat}(hi:i<p.length):(sG d p a).getD i 0=p.getD (nx d i a) 0:=by
 rw[zG (by rw[xC];exact hi)];simp[sG]
theorem tL {p:List Nat}{n i:Nat}(h:∀ c∈p,c<n)(hn:0<n):p.getD i 0<n:=by
 by_cases hi:i<p.length
 ·rw[zG hi];exact h _ (List.getElem_mem hi)
 ·rw[List.getD,List.getElem?_eq_none (by omega)];exact hn
theorem tR {d:DfaV}{n k:Nat}(hd:VD d n k){p:List Nat}(hp:p.length=n)(hlt:∀ c∈p,c<n){i j:Nat}(hi:i<n)(hj:j<n):
  ∀ m,m<=k->((uH d p m).getD i 0=(uH d p m).getD j 0 ↔ p.getD i 0=p.getD j 0/\∀ a,a<m->p.getD (nx d i a) 0=p.getD (nx d j a) 0)
 | 0,_=>by simp[uH]
 | m+1,hm=>by
  rw[uH,qDF (by rw[xC,yW]) (fun c hc=>?_) (by rw[yW];omega) (by rw[yW];omega),tR hd hp hlt hi hj m (by omega),pY (by omega),pY (by omega)]
  ·constructor
   ·rintro ⟨⟨h1,h2⟩,h3⟩
    refine⟨h1,fun a ha=>?_⟩
    rcases Nat.lt_succ_iff_lt_or_eq.1 ha with ha|rfl
    ·exact h2 a ha
    ·exact h3
   ·rintro ⟨h1,h2⟩
    exact⟨⟨h1,fun a ha=>h2 a (by omega)⟩,h2 m (by omega)⟩
  ·rw[yW,hp]
   obtain⟨q,hq,rfl⟩:=List.mem_map.1 hc
   exact tL hlt hd.n1
theorem mK {d:DfaV}{p:List Nat}(hp:Norm p):∀ m,Norm (uH d p m)
 | 0=>hp
 | m+1=>nP _
def cls (p:List Nat):Nat:=(yA p).length
theorem qAO {p q:List Nat} (hl:q.length=p.length) (h:∀ i j,i<p.length->j<p.length->q.getD i 0=q.getD j 0->p.getD i 0=p.getD j 0) :
  cls p<=cls q/\(cls p=cls q->∀ i j,i<p.length->j<p.length->p.getD i 0=p.getD j 0->q.getD i 0=q.getD j 0):=by
 -- the classes of q are mapped onto those of p
 let f:Nat->Nat:=fun c=>p.getD (q.idxOf c) 0
 have hf:∀ i,i<p.length->f (q.getD i 0)=p.getD i 0:=by
  intro i hi
  have h9:i<q.length:=by omega
  have hm:q.getD i 0∈q:=by rw[zG h9];exact List.getElem_mem _
  have h8:=List.idxOf_lt_length_of_mem hm
  refine h _ i (by omega) hi ?_
  rw[zG h8,List.getElem_idxOf]
 have h3:∀ c∈yA p,c∈(yA q).map f:=by
  intro c hc
  obtain⟨i,hi,rfl⟩:=List.getElem_of_mem (wL.1 hc)
  rw[List.mem_map]
  refine⟨q.getD i 0,wL.2 (by rw[zG (by omega)];exact List.getElem_mem _),?_⟩
  rw[hf i hi,zG hi]
 have h5:(yA p).length<=((yA q).map f).length:=(rE p).length_le_of_subset h3
 rw[List.length_map]at h5
 refine⟨h5,fun e i j hi hj hp=>?_⟩
 have h4:∀ x∈yA q,∀ y∈yA q,f x=f y->x=y:=by
  intro x hx y hy h6
  apply Classical.byContradiction
  intro h7
  have h0:∀ c∈yA p,c∈((yA q).erase x).map f:=by
   intro c hc
   obtain⟨z,hz,rfl⟩:=List.mem_map.1 (h3 c hc)
   by_cases e:z=x
   ·subst e
    exact List.mem_map.2 ⟨y,(List.mem_erase_of_ne (Ne.symm h7)).2 hy,h6.symm⟩
   ·exact List.mem_map.2 ⟨z,(List.mem_erase_of_ne e).2 hz,rfl⟩
  have h1:=(rE p).length_le_of_subset h0
  rw[List.length_map,List.length_erase_of_mem hx]at h1
  have h2:=List.length_pos_of_mem hx
  unfold cls at e
  omega
 have mem:∀ i,i<p.length->q.getD i 0∈yA q:=fun i hi=>wL.2 (by rw[zG (by omega)];exact List.getElem_mem _)
 exact h4 _ (mem i hi) _ (mem j hj) (by rw[hf i hi,hf j hj,hp])
end Go.Proofs.Ytjfdomfendbhfaa
namespace Go.Proofs.Ytjfdomfendbhfaa
theorem cls_le (p:List Nat):cls p<=p.length:=vZ p
theorem jZ (d:DfaV):Norm (oE d):=nP _
def yS (d:DfaV)(k:Nat):Nat->List Nat
 | 0=>oE d
 | m+1=>uH d (yS d k m) k
theorem yR (d:DfaV)(k:Nat):∀ m,(yS d k m).length=d.final.length
 | 0=>qU d
 | m+1=>by rw[yS,yW,yR d k m]
theorem uQ (d:DfaV)(k:Nat):∀ m,Norm (yS d k m)
 | 0=>jZ d
 | m+1=>mK (uQ d k m) k
theorem qAP (d:DfaV)(k m:Nat):∀ c∈yS d k m,c<d.final.length:=by
 have:=pI (uQ d k m)
 rwa [yR]at this
theorem kI {p:List Nat}(h:0<p.length):0<cls p:=by
 have hm:p[0]∈yA p:=wL.2 (List.getElem_mem h);exact List.length_pos_of_mem hm
theorem oB {d:DfaV}{n k:Nat}(hd:VD d n k){p:List Nat}(hp:p.length=n)(hn:Norm p)(hne:uH d p k≠p):cls p<cls (uH d p k):=by
 have h0:∀ c∈p,c<n:=by have:=pI hn;rwa [hp]at this
 obtain⟨h1,h2⟩:=qAO (p:=p) (q:=uH d p k) (yW d p k) (fun i j hi hj h=>((tR hd hp h0 (by omega) (by omega) k (Nat.le_refl _)).1 h).1);refine Nat.lt_of_le_of_ne h1 fun e=>hne ?_;refine jD (mK hn k) hn ⟨yW d p k,fun i j hi hj=>?_⟩;rw[yW]at hi hj;exact⟨fun h=>((tR hd hp h0 (by omega) (by omega) k (Nat.le_refl _)).1 h).1,fun h=>h2 e i j hi hj h⟩
def zU (d:DfaV)(k:Nat):List Nat:=yS d k d.final.length
theorem qDC {d:DfaV}{k m:Nat}(h:uH d (yS d k m) k=yS d k m):∀ j,m<=j->yS d k j=yS d k m
 | 0,hj=>by rw[show m=0 by omega]
 | j+1,hj=>by
  by_cases e:m=j+1
  ·rw[e]
  ·rw[yS,qDC h j (by omega),h]
theorem pM {d:DfaV}{k m:Nat}(hm:m<=d.final.length)(h:uH d (yS d k m) k=yS d k m):zU d k=yS d k m:=qDC h _ hm
theorem qFR {d:DfaV}{n k:Nat}(hd:VD d n k):∀ m,(∃ j,j<=m/\uH d (yS d k j) k=yS d k j)\/m<cls (yS d k m)
 | 0=>.inr (kI (by rw[yR,hd.hn];exact hd.n1))
 | m+1=>by
  rcases qFR hd m with ⟨j,hj,h⟩|h
  ·exact .inl ⟨j,by omega,h⟩
  ·by_cases e:uH d (yS d k m) k=yS d k m
   ·exact .inl ⟨m,by omega,e⟩
   ·have:=oB hd (by rw[yR,hd.hn]) (uQ d k m) e
    exact .inr (by rw[yS];omega)
theorem nZ {d:DfaV}{n k:Nat}(hd:VD d n k):uH d (zU d k) k=zU d k:=by
 rcases qFR hd d.final.length with ⟨j,hj,h⟩|h
 ·rw[pM hj h,h]
 ·have:=cls_le (yS d k d.final.length)
  rw[yR]at this;omega
theorem xW (d:DfaV)(k:Nat):(zU d k).length=d.final.length:=yR _ _ _
theorem vJ (d:DfaV)(k:Nat):Norm (zU d k):=uQ _ _ _
theorem firsts_norm {p:List Nat}(h:Norm p):yA p=List.range (cls p):=by
 refine List.ext_getElem (by simp[cls]) fun i h1 h2=>?_;rw[List.getElem_range];have hm:=List.getElem_mem h1;obtain⟨q,hq,e⟩:=List.getElem_of_mem (wL.1 hm);have hh:(numb p)[q]'(by rw[yD];exact hq)=p[q]:=by simp only[show numb p=p from h]
 rw[qW hq,e]at hh;have h3:=List.idxOf_lt_length_of_mem hm;have h4:=List.getElem_idxOf h3;have:=(List.getElem_inj (rE p)).1 h4;omega
theorem oZ {p:List Nat}(h:Norm p)(k:Nat):yA (p.take k)=List.range (cls (p.take k)):=by
 have h1:=tY p k;rw[firsts_norm h]at h1;obtain⟨r,hr⟩:=h1;refine List.ext_getElem (by simp[cls]) fun i h1 h2=>?_;rw[List.getElem_range];have:(yA (p.take k)++r)[i]'(by rw[List.length_append];omega)=i:=by simp only[hr,List.getElem_range]
 rwa [List.getElem_append_left h1]at this
theorem mS {p:List Nat}(h:Norm p){q:Nat}(hq:q<p.length):p.getD q 0<=cls (p.take q)/\(p.getD q 0=cls (p.take q)->cls (p.take (q+1))=cls (p.take q)+1)/\(p.getD q 0≠cls (p.take q)->cls (p.take (q+1))=cls (p.take q)):=by
 have h1:=oZ h (q+1);have e:yA (p.take (q+1))=xP (yA (p.take q)) p[q]:=by rw[List.take_succ_eq_append_getElem hq,tE]
 have h0:=oZ h q;rw[zG hq];by_cases hm:p[q]∈yA (p.take q)
 ·have h2:p[q]<cls (p.take q):=by rw[h0]at hm;exact List.mem_range.1 hm
  rw[uE hm]at e;have:cls (p.take (q+1))=cls (p.take q):=by unfold cls;rw[e]
  exact⟨by omega,fun h=>by omega,fun _=>this⟩
 ·rw[wO hm]at e
  have hc:cls (p.take (q+1))=cls (p.take q)+1:=by unfold cls;rw[e];simp
  have hl:p[q]=cls (p.take q):=by
   rw[h1,h0,hc,List.range_succ]at e;have:=List.append_cancel_left e;simpa using this.symm
  exact⟨by omega,fun _=>hc,fun h=>absurd hl h⟩
def uV (p:List Nat)(k:Nat):List Nat:=(List.range k).filter fun q=>p.getD q 0 == cls (p.take q)
theorem vO {p:List Nat}{k:Nat}(h:p.getD k 0=cls (p.take k)):uV p (k+1)=uV p k++[k]:=by
 rw[uV,List.range_succ,List.filter_append,List.filter_cons,if_pos (beq_iff_eq.2 h)];rfl
theorem vN {p:List Nat}{k:Nat}(h:p.getD k 0≠cls (p.take k)):uV p (k+1)=uV p k:=by
 rw[uV,List.range_succ,List.filter_append,List.filter_cons,if_neg (fun e=>h (beq_iff_eq.1 e)),List.filter_nil,List.append_nil];rfl
theorem wH {p:List Nat}(h:Norm p):∀ k,k<=p.length->(uV p k).length=cls (p.take k)
 | 0,_=>by simp[uV,cls,yA]
 | k+1,hk=>by
  obtain⟨h0,h1,h2⟩:=mS h (show k<p.length by omega)
  have ih:=wH h k (by omega)
  by_cases e:p.getD k 0=cls (p.take k)
  ·rw[vO e,List.length_append,ih,h1 e];rfl
  ·rw[vN e,ih,h2 e]
theorem jY {p:List Nat}(h:Norm p):∀ k,k<=p.length->∀ c,c<cls (p.take k)->p.getD ((uV p k).getD c 0) 0=c/\(uV p k).getD c 0<k
 | 0,_,c,hc=>by simp[cls,yA]at hc
 | k+1,hk,c,hc=>by
  obtain⟨h0,h1,h2⟩:=mS h (show k<p.length by omega)
  have hl:=wH h k (by omega)
  by_cases e:p.getD k 0=cls (p.take k)
  ·rw[h1 e]at hc
   rw[vO e]
   by_cases hc':c<cls (p.take k)
   ·have ih:=jY h k (by omega) c hc'
    rw[show (uV p k++[k]).getD c 0=(uV p k).getD c 0 from by simp[List.getD,List.getElem?_append_left (show c<(uV p k).length by omega)]]
    exact⟨ih.1,by omega⟩
   ·have hc2:c=(uV p k).length:=by omega
    rw[show (uV p k++[k]).getD c 0=k from by simp[List.getD,hc2]]
    exact⟨by omega,by omega⟩
  ·rw[h2 e]at hc
   rw[vN e]
   have ih:=jY h k (by omega) c hc
   exact⟨ih.1,by omega⟩
def reps (p:List Nat):List Nat:=uV p p.length
def wT (p:List Nat)(r:List Int):List Int:=r.map fun s=>((p.getD s.toNat 0:Nat):Int)
def vE (d:DfaV)(p:List Nat):DfaV :=
 ⟨d.letters,((p.getD (st0 d) 0:Nat):Int),(reps p).map fun q=>d.final.getD q false,(reps p).map fun q=>wT p (d.next.getD q [])⟩
theorem uY {α β:Type}{l:List α}{f:α->β}{i:Nat}{x:α}{y:β}(h:i<l.length):(l.map f).getD i y=f (l.getD i x):=by
 rw[zG (by simpa using h),zG h];simp
theorem iA {p:List Nat}{r:List Int}{a:Nat}(h:a<r.length):(wT p r).getD a 0=((p.getD (r.getD a 0).toNat 0:Nat):Int):=by
 rw[wT,uY (x:=0) h]
theorem rZ {p:List Nat}(h:Norm p):(reps p).length=cls p:=by
 have:=wH h p.length (Nat.le_refl _)
 rwa [List.take_length]at this
theorem qT {p:List Nat}(h:Norm p){c:Nat}(hc:c<cls p):p.getD ((reps p).getD c 0) 0=c/\(reps p).getD c 0<p.length :=
 jY h p.length (Nat.le_refl _) c (by rwa [List.take_length])
theorem tB {p:List Nat}(h:Norm p){i:Nat}(hi:i<p.length):p.getD i 0<cls p:=by
 have:=qGU (l:=p);rw[h]at this;rw[zG hi];exact this _ (List.getElem_mem hi)
section
variable {d:DfaV} {n k:Nat} {p:List Nat}
theorem aU (hd:VD d n k)(hp:p.length=n)(hn:Norm p){c a:Nat}(hc:c<cls p)(ha:a<k):ent (vE d p).next c a=((p.getD (nx d ((reps p).getD c 0) a) 0:Nat):Int):=by
 have hr:=qT hn hc;unfold ent vE;rw[uY (x:=0) (by rw[rZ hn];exact hc),iA (by rw[hd.row _ (by omega)];exact ha)];rfl
theorem aS (hd:VD d n k)(hp:p.length=n)(hn:Norm p):VD (vE d p) (cls p) k where
 hk:=hd.hk
 k1:=hd.k1
 k6:=hd.k6
 hn:=by simp[vE,rZ hn]
 n1:=kI (by rw[hp];exact hd.n1)
 nbig:=Nat.le_trans (cls_le p) (by rw[hp];exact hd.nbig)
 nl:=by simp[vE,rZ hn]
 s0:=by simp[vE]
 sn:=by
  have:=tB hn (i:=st0 d) (by rw[hp];exact qR hd);simp only[vE];omega
 row:=fun c hc=>by
  simp only[vE];rw[uY (x:=0) (by rw[rZ hn];exact hc)];have hr:=qT hn hc;rw[wT,List.length_map,hd.row _ (by omega)]
 lo:=fun c a hc ha=>by rw[aU hd hp hn hc ha];omega
 hi:=fun c a hc ha=>by
  rw[aU hd hp hn hc ha];have hr:=qT hn hc;have:=tB hn (i:=nx d ((reps p).getD c 0) a) (by rw[hp];exact qC hd (by omega) ha);omega
theorem quot_nx (hd:VD d n k)(hp:p.length=n)(hn:Norm p)(hst:uH d p k=p){q a:Nat}(hq:q<n)(ha:a<k):nx (vE d p) (p.getD q 0) a=p.getD (nx d q a) 0:=by
 have h0:∀ c∈p,c<n:=by have:=pI hn;rwa [hp]at this
 have hc:=tB hn (i:=q) (by omega);have hr:=qT hn hc;have h1:=tR hd hp h0 (i:=(reps p).getD (p.getD q 0) 0) (j:=q) (by omega) hq k (Nat.le_refl _);rw[hst]at h1;have h2:=(h1.1 hr.1).2 a ha;show (ent (vE d p).next (p.getD q 0) a).toNat=_;rw[aU hd hp hn hc ha,h2];simp
end
def run (d:DfaV)(q:Nat)(w:List Nat):Nat:=w.foldl (nx d) q
def yI (k:Nat)(w:List Nat):Prop:=∀ a∈w,a<k
theorem qEK {d:DfaV}{n k:Nat}(hd:VD d n k):∀ (w:List Nat) {q:Nat},q<n->yI k w->run d q w<n
 | [],q,hq,_=>hq
 | a::w,q,hq,hw=>qEK hd w (qC hd hq (hw a (by simp))) (fun b hb=>hw b (by simp[hb]))
theorem qEJ (d:DfaV)(q:Nat)(w:List Nat)(a:Nat):run d q (w++[a])=nx d (run d q w) a:=by simp[run]
theorem run_append (d:DfaV)(q:Nat)(u v:List Nat):run d q (u++v)=run d (run d q u) v:=by simp[run]
theorem aT {d:DfaV}{n k:Nat}{p:List Nat}(hd:VD d n k)(hp:p.length=n)(hn:Norm p)(hst:uH d p k=p):∀ (w:List Nat) {q:Nat},q<n->yI k w->run (vE d p) (p.getD q 0) w=p.getD (run d q w) 0
 | [],q,_,_=>rfl
 | a::w,q,hq,hw=>by
  have ha:=hw a (by simp)
  show run (vE d p) (nx (vE d p) (p.getD q 0) a) w=p.getD (run d (nx d q a) w) 0
  rw[quot_nx hd hp hn hst hq ha]
  exact aT hd hp hn hst w (qC hd hq ha) (fun b hb=>hw b (by simp[hb]))
def wV (d:DfaV)(l:List Nat)(i:Nat):Nat->List Nat
 | 0=>l
 | a+1=>xP (wV d l i a) (nx d (l.getD i 0) a)
def rM (d:DfaV)(k:Nat):Nat->Nat->List Nat->List Nat
 | 0,_,l=>l
 | f+1,i,l=>if i<l.length then rM d k f (i+1) (wV d l i k) else l
def zX (d:DfaV)(k:Nat):List Nat:=rM d k d.final.length 0 [st0 d]
theorem uS (d:DfaV)(l:List Nat)(i:Nat):∀ a,l <+: wV d l i a
 | 0=>List.prefix_refl _
 | a+1=>(uS d l i a).trans (oT _ _)
theorem mD {d:DfaV}{l:List Nat}(h:l.Nodup)(i:Nat):∀ a,(wV d l i a).Nodup
 | 0=>h
 | a+1=>gG (mD h i a)
theorem tJ {d:DfaV}{l:List Nat}{i:Nat}{y:Nat}:∀ {a},y∈wV d l i a ↔ y∈l\/∃ b,b<a/\y=nx d (l.getD i 0) b
 | 0=>by simp[wV]
 | a+1=>by
  rw[wV,mW,tJ,or_assoc]
  refine or_congr_right ⟨?_,?_⟩
  ·rintro (⟨b,hb,h⟩|h)
   ·exact⟨b,by omega,h⟩
   ·exact⟨a,by omega,h⟩
  ·rintro ⟨b,hb,h⟩
   rcases Nat.lt_succ_iff_lt_or_eq.1 hb with hb|rfl
   ·exact .inl ⟨b,hb,h⟩
   ·exact .inr h
structure AccI (d:DfaV)(n k i:Nat)(l:List Nat):Prop where
 nd:l.Nodup
 lt:∀ q∈l,q<n
 hd:0<l.length/\l.getD 0 0=st0 d
 cl:∀ j a,j<i->j<l.length->a<k->nx d (l.getD j 0) a∈l
 re:∀ q∈l,∃ w,yI k w/\run d (st0 d) w=q
theorem qH {l m:List Nat}(h:l <+: m){i:Nat}(hi:i<l.length):m.getD i 0=l.getD i 0:=by
 obtain⟨r,rfl⟩:=h;simp[List.getD,List.getElem?_append_left hi]
theorem AccI.row {d:DfaV}{n k i:Nat}{l:List Nat}(hd:VD d n k)(h:AccI d n k i l)(hi:i<l.length):AccI d n k (i+1) (wV d l i k):=by
 have hp:=uS d l i k;have h2:=hp.length_le;have h0:l.getD i 0∈l:=by rw[zG hi];exact List.getElem_mem _
 have h1:=h.lt _ h0;refine⟨mD h.nd i k,fun q hq=>?_,⟨by have:=h.hd.1;omega,by rw[qH hp h.hd.1];exact h.hd.2⟩,fun j a hj hjl ha=>?_,fun q hq=>?_⟩
 ·rcases tJ.1 hq with hq|⟨b,hb,rfl⟩
  ·exact h.lt q hq
  ·exact qC hd h1 hb
 ·rw[qH hp (show j<l.length by omega)]
  rcases Nat.lt_succ_iff_lt_or_eq.1 hj with hj|rfl
  ·exact tJ.2 (.inl (h.cl j a hj (by omega) ha))
  ·exact tJ.2 (.inr ⟨a,ha,rfl⟩)
 ·rcases tJ.1 hq with hq|⟨b,hb,rfl⟩
  ·exact h.re q hq
  ·obtain⟨w,hw,e⟩:=h.re _ h0
   refine⟨w++[b],fun c hc=>?_,by rw[qEJ,e]⟩;rcases List.mem_append.1 hc with hc|hc
   ·exact hw c hc
   ·rw[List.mem_singleton]at hc;subst hc;exact hb
theorem mU {l:List Nat}{n:Nat}(h:l.Nodup)(hl:∀ q∈l,q<n):l.length<=n:=by
 have:=h.length_le_of_subset (fun q hq=>List.mem_range.2 (hl q hq));simpa using this
theorem AccI.start {d : DfaV}{n k : Nat}(hd : VD d n k): AccI d n k 0 [st0 d] :=
 ⟨by simp, fun q hq => by rw[List.mem_singleton]at hq; subst hq; exact qR hd, ⟨by simp, by simp⟩, fun j a hj => by omega, fun q hq => by
  rw[List.mem_singleton]at hq; subst hq; exact⟨[], fun a ha => by simp at ha, rfl⟩⟩
theorem qFW {d:DfaV}{n k:Nat}(hd:VD d n k):∀ f i l,AccI d n k i l->n<=i+f->AccI d n k n (rM d k f i l)/\(rM d k f i l).length<=n
 | 0,i,l,h,hf=>by
  have hl:=mU h.nd h.lt
  exact⟨⟨h.nd,h.lt,h.hd,fun j a hj hjl ha=>h.cl j a (by omega) hjl ha,h.re⟩,hl⟩
 | f+1,i,l,h,hf=>by
  rw[rM]
  split
  ·rename_i hi
   exact qFW hd f (i+1) _ (h.row hd hi) (by omega)
  ·rename_i hi
   have hl:=mU h.nd h.lt
   exact⟨⟨h.nd,h.lt,h.hd,fun j a hj hjl ha=>h.cl j a (by omega) hjl ha,h.re⟩,hl⟩
theorem xK {d:DfaV}{n k:Nat}(hd:VD d n k):AccI d n k n (zX d k)/\(zX d k).length<=n:=qFW hd _ _ _ (AccI.start hd) (by rw[hd.hn];omega)
theorem dV {d:DfaV}{k f i:Nat}{l:List Nat}(h:¬ i<l.length):rM d k f i l=l:=by
 cases f with
 | zero=>rfl
 | succ f=>rw[rM,if_neg h]
def rI (l:List Nat)(q:Nat):Int:=if q∈l then (l.idxOf q:Int) else -1
def xQ (l:List Nat)(r:List Int):List Int:=r.map fun s=>rI l s.toNat
def xT (d:DfaV)(k:Nat):DfaV:=⟨d.letters,0,(zX d k).map fun q=>d.final.getD q false,(zX d k).map fun q=>xQ (zX d k) (d.next.getD q [])⟩
section
variable {d:DfaV} {n k:Nat}
theorem kS (hd:VD d n k){i a:Nat}(hi:i<(zX d k).length)(ha:a<k):ent (xT d k).next i a=(((zX d k).idxOf (nx d ((zX d k).getD i 0) a):Nat):Int):=by
 have hA:=(xK hd).1;have hq:=hA.lt _ (show (zX d k).getD i 0∈zX d k by rw[zG hi];exact List.getElem_mem _);have hn:=(xK hd).2;unfold ent xT;rw[uY (x:=0) hi,xQ,uY (x:=0) (by rw[hd.row _ hq];exact ha),rI,if_pos]
 ·rfl
 ·exact hA.cl i a (by omega) hi ha
theorem lT (hd:VD d n k):VD (xT d k) (zX d k).length k where
 hk:=hd.hk
 k1:=hd.k1
 k6:=hd.k6
 hn:=by simp[xT]
 n1:=(xK hd).1.hd.1
 nbig:=Nat.le_trans (xK hd).2 hd.nbig
 nl:=by simp[xT]
 s0:=by simp[xT]
 sn:=by have:=(xK hd).1.hd.1;simp only[xT];omega
 row:=fun i hi=>by
  have hA:=(xK hd).1
  have hq:=hA.lt _ (show (zX d k).getD i 0∈zX d k by rw[zG hi];exact List.getElem_mem _)
  simp only[xT]
  rw[uY (x:=0) hi,xQ,List.length_map,hd.row _ hq]
 lo:=fun i a hi ha=>by rw[kS hd hi ha];omega
 hi:=fun i a hi ha=>by
  have hn:=(xK hd).2
  rw[kS hd hi ha]
  have:=List.idxOf_lt_length_of_mem ((xK hd).1.cl i a (by omega) hi ha)
  omega
theorem qGC (hd:VD d n k){i a:Nat}(hi:i<(zX d k).length)(ha:a<k):nx (xT d k) i a=(zX d k).idxOf (nx d ((zX d k).getD i 0) a):=by
 show (ent (xT d k).next i a).toNat=_;rw[kS hd hi ha];simp
theorem qEB (hd:VD d n k):∀ (w:List Nat) {i:Nat},i<(zX d k).length->yI k w->(zX d k).getD (run (xT d k) i w) 0=run d ((zX d k).getD i 0) w
 | [],i,_,_=>rfl
 | a::w,i,hi,hw=>by
  have ha:=hw a (by simp)
  have hn:=(xK hd).2
  have hm:=(xK hd).1.cl i a (by omega) hi ha
  have hlt:=List.idxOf_lt_length_of_mem hm
  have h:=qEB hd w (i:=nx (xT d k) i a) (by rw[qGC hd hi ha];exact hlt) (fun b hb=>hw b (by simp[hb]))
  show (zX d k).getD (run (xT d k) (nx (xT d k) i a) w) 0=run d (nx d ((zX d k).getD i 0) a) w
  rw[h,qGC hd hi ha,zG hlt,List.getElem_idxOf]
theorem jV (hd:VD d n k){i:Nat}(hi:i<(zX d k).length):(xT d k).final.getD i false=d.final.getD ((zX d k).getD i 0) false:=by
 simp only[xT];rw[uY (x:=0) hi]
end
def minD (d:DfaV)(k:Nat):DfaV:=xT (vE d (zU d k)) k
def minN (d:DfaV)(k:Nat):Nat:=(zX (vE d (zU d k)) k).length
section
variable {d:DfaV} {n k:Nat}
theorem oC (hd:VD d n k):VD (vE d (zU d k)) (cls (zU d k)) k:=aS hd (by rw[xW,hd.hn]) (vJ d k)
theorem pS (hd:VD d n k):VD (minD d k) (minN d k) k:=lT (oC hd)
theorem qGX (hd:VD d n k):minN d k<=n:=Nat.le_trans (xK (oC hd)).2 (Nat.le_trans (cls_le _) (by rw[xW,hd.hn];exact Nat.le_refl _))
end
end Go.Proofs.Ytjfdomfendbhfaa
namespace Go.Proofs.Ytjfdomfendbhfaa
def acc (d:DfaV)(q:Nat)(w:List Nat):Bool:=d.final.getD (run d q w) false
theorem finB_inj {a b:Bool}(h:finB a=finB b):a=b:=by cases a<;>cases b<;>simp[finB]at h<;>rfl
section
variable {d:DfaV} {n k:Nat}
theorem pQ (hd:VD d n k){q q':Nat}(hq:q<n)(hq':q'<n):(oE d).getD q 0=(oE d).getD q' 0 ↔ d.final.getD q false=d.final.getD q' false:=by
 have hn:=hd.hn;rw[oE,oG (by rw[List.length_map];omega) (by rw[List.length_map];omega),List.getElem_map,List.getElem_map,<- zG (d:=false),<- zG (d:=false)];exact⟨finB_inj,fun h=>by rw[h]⟩
theorem kK (hd:VD d n k):∀ m {q q':Nat},q<n->q'<n->(yS d k m).getD q 0=(yS d k m).getD q' 0->d.final.getD q false=d.final.getD q' false
 | 0,q,q',hq,hq',h=>(pQ hd hq hq').1 h
 | m+1,q,q',hq,hq',h=>kK hd m hq hq' ((tR hd (by rw[yR,hd.hn]) (by rw[<- hd.hn];exact qAP d k m) hq hq' k (Nat.le_refl _)).1 h).1
theorem dD (hd:VD d n k):∀ m {q q':Nat},q<n->q'<n->(yS d k m).getD q 0≠(yS d k m).getD q' 0->∃ w,yI k w/\acc d q w≠acc d q' w
 | 0,q,q',hq,hq',h=>⟨[],fun a ha=>by simp at ha,fun e=>h ((pQ hd hq hq').2 e)⟩
 | m+1,q,q',hq,hq',h=>by
  by_cases h1:(yS d k m).getD q 0=(yS d k m).getD q' 0
  ·have hx:¬ ∀ a,a<k->(yS d k m).getD (nx d q a) 0=(yS d k m).getD (nx d q' a) 0:=fun ha=>h ((tR hd (by rw[yR,hd.hn]) (by rw[<- hd.hn];exact qAP d k m) hq hq' k (Nat.le_refl _)).2 ⟨h1,ha⟩)
   obtain⟨a,ha⟩:=Classical.not_forall.1 hx
   obtain⟨ha,hne⟩:=Classical.not_imp.1 ha
   obtain⟨w,hw,e⟩:=dD hd m (qC hd hq ha) (qC hd hq' ha) hne
   exact⟨a::w,fun b hb=>by
    rcases List.mem_cons.1 hb with rfl|hb
    ·exact ha
    ·exact hw b hb,e⟩
  ·exact dD hd m hq hq' h1
theorem kY (d:DfaV)(p:List Nat):st0 (vE d p)=p.getD (st0 d) 0:=by simp[st0,vE]
theorem mL (hd:VD d n k){q:Nat}(hq:q<n){w:List Nat}(hw:yI k w):acc (vE d (zU d k)) ((zU d k).getD q 0) w=acc d q w:=by
 have hl:(zU d k).length=n:=by rw[xW,hd.hn]
 have hN:=vJ d k;have hr:=qEK hd w hq hw;unfold acc;rw[aT hd hl hN (nZ hd) w hq hw];have hc:=tB hN (show run d q w<(zU d k).length by omega);have hg:=qT hN hc;show ((reps (zU d k)).map fun q=>d.final.getD q false).getD _ false=_;rw[uY (x:=0) (by rw[rZ hN];exact hc)];exact kK hd _ (by omega) hr hg.1
theorem qEN (hd:VD d n k){c c':Nat}(hc:c<cls (zU d k))(hc':c'<cls (zU d k))(h:∀ w,yI k w->acc (vE d (zU d k)) c w=acc (vE d (zU d k)) c' w):c=c':=by
 have hl:(zU d k).length=n:=by rw[xW,hd.hn]
 have hN:=vJ d k;obtain⟨h1,h2⟩:=qT hN hc;obtain⟨h3,h4⟩:=qT hN hc';rw[hl]at h2 h4;rcases Decidable.em (c=c') with e|e
 ·exact e
 exfalso;obtain⟨w,hw,h0⟩:=dD hd d.final.length h2 h4 (by rw[show yS d k d.final.length=zU d k from rfl,h1,h3];exact e);have a1:=mL hd h2 hw;have a2:=mL hd h4 hw;rw[h1]at a1;rw[h3]at a2;exact h0 (a1.symm.trans ((h w hw).trans a2))
theorem qEC (hd:VD d n k){w:List Nat}(hw:yI k w):acc (xT d k) 0 w=acc d (st0 d) w:=by
 have hA:=(xK hd).1;have hr:=qEK (lT hd) w (lT hd).n1 hw;unfold acc;rw[jV hd hr,qEB hd w hA.hd.1 hw,hA.hd.2]
theorem qGW (hd:VD d n k){w:List Nat}(hw:yI k w):acc (minD d k) 0 w=acc d (st0 d) w:=by
 rw[show acc (minD d k) 0 w=acc (vE d (zU d k)) (st0 (vE d (zU d k))) w from qEC (oC hd) hw,kY];exact mL hd (qR hd) hw
end
inductive Side (R:Nat->Nat->Prop):List Nat->List Nat->Prop
 | nil:Side R [] []
 | snoc {l l':List Nat} {q q':Nat}:Side R l l'->R q q'->Side R (l++[q]) (l'++[q'])
theorem Side.len {R:Nat->Nat->Prop}{l l':List Nat}(h:Side R l l'):l.length=l'.length:=by
 induction h with
 | nil=>rfl
 | snoc _ _ ih=>simp[ih]
theorem Side.get {R:Nat->Nat->Prop}{l l':List Nat}(h:Side R l l'):∀ i,i<l.length->R (l.getD i 0) (l'.getD i 0):=by
 induction h with
 | nil=>intro i hi;simp at hi
 | @snoc l l' q q' hs hr ih =>
  intro i hi;have hl:=hs.len;simp at hi;by_cases e:i<l.length
  ·rw[qH (List.prefix_append _ _) e,qH (List.prefix_append _ _) (by omega)];exact ih i e
  ·have e1:i=l.length:=by omega
   subst e1;have a1:(l++[q]).getD l.length 0=q:=by simp[List.getD]
   have a2:(l'++[q']).getD l.length 0=q':=by rw[hl];simp[List.getD]
   rw[a1,a2];exact hr
structure One (R:Nat->Nat->Prop):Prop where
 l:∀ {q q' r'},R q q'->R q r'->q'=r'
 r:∀ {q r q'},R q q'->R r q'->q=r
theorem Side.mem {R:Nat->Nat->Prop}(hR:One R){l l':List Nat}(h:Side R l l'){q q':Nat}(hq:R q q'):q∈l ↔ q'∈l':=by
 have hl:=h.len;constructor
 ·intro hm
  obtain⟨i,hi,rfl⟩:=List.getElem_of_mem hm;have:=h.get i hi;rw[zG hi]at this;rw[hR.l hq this,zG (by omega)];exact List.getElem_mem _
 ·intro hm
  obtain⟨i,hi,rfl⟩:=List.getElem_of_mem hm;have:=h.get i (by omega);rw[zG hi,zG (show i<l.length by omega)]at this;rw[hR.r hq this];exact List.getElem_mem _
theorem Side.add {R:Nat->Nat->Prop}(hR:One R){l l':List Nat}(h:Side R l l'){q q':Nat}(hq:R q q'):Side R (xP l q) (xP l' q'):=by
 unfold xP;by_cases e:q∈l
 ·rw[if_pos e,if_pos ((h.mem hR hq).1 e)];exact h
 ·rw[if_neg e,if_neg (fun e'=>e ((h.mem hR hq).2 e'))];exact .snoc h hq
theorem Side.idx {R:Nat->Nat->Prop}(hR:One R){l l':List Nat}(h:Side R l l')(hn:l.Nodup)(hn':l'.Nodup){q q':Nat}(hq:R q q')(hm:q∈l):l.idxOf q=l'.idxOf q':=by
 have hi:=List.idxOf_lt_length_of_mem hm;have hl:=h.len;have:=h.get _ hi;rw[zG hi,List.getElem_idxOf,zG (show l.idxOf q<l'.length by omega)]at this;have e:=hR.l hq this;have h0:=(h.mem hR hq).1 hm;have h1:=List.idxOf_lt_length_of_mem h0;have e2:l'[l'.idxOf q']=l'[l.idxOf q]'(by omega):=by rw[List.getElem_idxOf];exact e
 exact((List.getElem_inj hn').1 e2).symm
section
variable {x x':DfaV} {n n' k:Nat} {R:Nat->Nat->Prop}
theorem qEI (hR:One R)(hs:∀ {q q' a},R q q'->a<k->R (nx x q a) (nx x' q' a)){l l':List Nat}(h:Side R l l'){i:Nat}(hi:i<l.length):∀ a,a<=k->Side R (wV x l i a) (wV x' l' i a)
 | 0,_=>h
 | a+1,ha=>(qEI hR hs h hi a (by omega)).add hR (hs (h.get i hi) (by omega))
theorem qGG (hR:One R)(hs:∀ {q q' a},R q q'->a<k->R (nx x q a) (nx x' q' a)):∀ f i {l l':List Nat},Side R l l'->Side R (rM x k f i l) (rM x' k f i l')
 | 0,_,_,_,h=>h
 | f+1,i,l,l',h=>by
  rw[rM,rM,h.len]
  by_cases e:i<l'.length
  ·rw[if_pos e,if_pos e]
   exact qGG hR hs f (i+1) (qEI hR hs h (by rw[h.len];exact e) k (Nat.le_refl _))
  ·rw[if_neg e,if_neg e];exact h
end
theorem aG {d:DfaV}{n k:Nat}(hd:VD d n k):∀ f i l m,AccI d n k i l->n<=i+f->rM d k (f+m) i l=rM d k f i l
 | 0,i,l,m,h,hf=>by
  have hl:=mU h.nd h.lt
  rw[dV (f:=0+m) (by omega),rM]
 | f+1,i,l,m,h,hf=>by
  rw[show f+1+m=(f+m)+1 by omega,rM,rM]
  by_cases e:i<l.length
  ·rw[if_pos e,if_pos e]
   exact aG hd f (i+1) _ m (h.row hd e) (by omega)
  ·rw[if_neg e,if_neg e]
theorem dU {d:DfaV}{n k:Nat}(hd:VD d n k)(m:Nat):rM d k (n+m) 0 [st0 d]=zX d k:=by
 rw[zX,hd.hn];exact aG hd n 0 _ m (AccI.start hd) (by omega)
theorem trim_congr {x x':DfaV}{n n' k:Nat}(hx:VD x n k)(hx':VD x' n' k)(hr:∀ {c c'},c<n->c'<n->(∀ w,yI k w->acc x c w=acc x c' w)->c=c')(hr':∀ {c c'},c<n'->c'<n'->(∀ w,yI k w->acc x' c w=acc x' c' w)->c=c')(hl:∀ w,yI k w->acc x (st0 x) w=acc x' (st0 x') w):xT x k=xT x' k:=by
 obtain⟨R,h8⟩:∃ R:Nat->Nat->Prop,∀ q q',R q q' ↔ q<n/\q'<n'/\∀ w,yI k w->acc x q w=acc x' q' w:=⟨fun q q'=>q<n/\q'<n'/\∀ w,yI k w->acc x q w=acc x' q' w,fun _ _=>Iff.rfl⟩
 have hR:One R:=by
  refine⟨fun {q q' r'} h1 h2=>?_,fun {q r q'} h1 h2=>?_⟩
  ·obtain⟨_,h3,h4⟩:=(h8 _ _).1 h1
   obtain⟨_,h5,h6⟩:=(h8 _ _).1 h2;exact hr' h3 h5 (fun w hw=>(h4 w hw).symm.trans (h6 w hw))
  ·obtain⟨h3,_,h4⟩:=(h8 _ _).1 h1
   obtain⟨h5,_,h6⟩:=(h8 _ _).1 h2;exact hr h3 h5 (fun w hw=>(h4 w hw).trans (h6 w hw).symm)
 have hs:∀ {q q' a},R q q'->a<k->R (nx x q a) (nx x' q' a):=fun {q q' a} h ha=>by
  obtain⟨h1,h2,h3⟩:=(h8 _ _).1 h
  exact(h8 _ _).2 ⟨qC hx h1 ha,qC hx' h2 ha,fun w hw=>h3 (a::w) (fun b hb=>by
   rcases List.mem_cons.1 hb with rfl|hb
   ·exact ha
   ·exact hw b hb)⟩
 have h0:R (st0 x) (st0 x'):=(h8 _ _).2 ⟨qR hx,qR hx',hl⟩
 have h7:Side R (zX x k) (zX x' k):=by
  have:=qGG (x:=x) (x':=x') (k:=k) hR hs (n+n') 0 (Side.snoc .nil h0);rw[List.nil_append,List.nil_append,dU hx n']at this;rw[Nat.add_comm n n',dU hx' n]at this;exact this
 have hA:=(xK hx).1;have H2:=(xK hx').1;have h9:=h7.len;have hm:∀ i,i<(zX x k).length->(zX x k).getD i 0∈zX x k:=fun i hi=>by rw[zG hi];exact List.getElem_mem _
 have key:∀ i,i<(zX x k).length->(xT x k).final.getD i false=(xT x' k).final.getD i false:=fun i hi=>by
  rw[jV hx hi,jV hx' (by omega)];obtain⟨_,_,h⟩:=(h8 _ _).1 (h7.get i hi);exact h [] (fun a ha=>by simp at ha)
 have hv:=lT hx;have H0:=lT hx';have e1:(xT x k).letters=(xT x' k).letters:=hx.hk.trans hx'.hk.symm
 have e3:(xT x k).final=(xT x' k).final:=by
  refine List.ext_getElem (by rw[hv.hn,H0.hn,h9]) fun i h1 h2=>?_;have:=key i (by rw[hv.hn]at h1;exact h1);rw[zG h1,zG h2]at this;exact this
 have e4:(xT x k).next=(xT x' k).next:=by
  refine List.ext_getElem (by rw[hv.nl,H0.nl,h9]) fun i h1 h2=>?_;have hi:i<(zX x k).length:=by rw[hv.nl]at h1;exact h1
  have r1:=hv.row i hi;have r2:=H0.row i (by omega);rw[zG h1]at r1;rw[zG h2]at r2;refine List.ext_getElem (by rw[r1,r2]) fun a h3 h4=>?_;have ha:a<k:=by omega
  have t1:=kS hx hi ha;have t2:=kS hx' (show i<(zX x' k).length by omega) ha;have hq:=h7.get i hi;have H3:=(xK hx).2;have H1:=hA.cl i a (by omega) hi ha;rw[h7.idx hR hA.nd H2.nd (hs hq ha) H1,<- t2]at t1;unfold ent at t1;rw[zG h1,zG h2,zG h3,zG h4]at t1;exact t1
 show (⟨_,0,(xT x k).final,(xT x k).next⟩:DfaV)=⟨_,0,(xT x' k).final,(xT x' k).next⟩;rw[e3,e4];exact congrArg (fun z=>(⟨z,0,(xT x' k).final,(xT x' k).next⟩:DfaV)) e1
theorem jF {d d':DfaV}{n n' k:Nat}(hd:VD d n k)(hd':VD d' n' k)(h:∀ w,yI k w->acc d (st0 d) w=acc d' (st0 d') w):minD d k=minD d' k:=by
 refine trim_congr (oC hd) (oC hd') (fun h1 h2=>qEN hd h1 h2) (fun h1 h2=>qEN hd' h1 h2) fun w hw=>?_;rw[kY,kY,mL hd (qR hd) hw,mL hd' (qR hd') hw];exact h w hw
theorem min_trim {d:DfaV}{n k:Nat}(hd:VD d n k):minD (xT d k) k=minD d k:=jF (lT hd) hd (fun w hw=>by rw[show st0 (xT d k)=0 from rfl];exact qEC hd hw)
end Go.Proofs.Ytjfdomfendbhfaa
namespace Go.Proofs.Ytjfdomfendbhfaa
section
variable {α:Type} (nxt:α->Nat->α) (k:Nat) (s0:α)
def sE (x:α)(w:List Nat):α:=w.foldl nxt x
structure BfsI (l:List α)(i a:Nat):Prop where
 nd:l.Nodup
 hd:l[0]?=some s0
 le:i<=l.length
 cl:∀ j x,j<i->l[j]?=some x->∀ b,b<k->nxt x b∈l
 row:∀ x,l[i]?=some x->∀ b,b<a->b<k->nxt x b∈l
 re:∀ x∈l,∃ w,yI k w/\sE nxt s0 w=x
variable {nxt k s0}
theorem BfsI.start:BfsI nxt k s0 [s0] 0 0 :=
 ⟨by simp,rfl,by simp,fun j x h=>by omega,fun x _ b hb=>by omega,fun x hx=>⟨[],fun a ha=>by simp at ha,by simp at hx;exact hx.symm⟩⟩
theorem BfsI.old {l : List α}{i a : Nat}(h : BfsI nxt k s0 l i a){x : α}(hx : l[i]? = some x)(hm : nxt x a ∈ l): BfsI nxt k s0 l i (a + 1) :=
 ⟨h.nd, h.hd, h.le, h.cl, fun y hy b hb hbk => by
  rcases Nat.lt_succ_iff_lt_or_eq.1 hb with hb | rfl
  ·exact h.row y hy b hb hbk
  ·rw[hx]at hy; rw[<- Oj hy]; exact hm, h.re⟩
theorem BfsI.new {l:List α}{i a:Nat}(h:BfsI nxt k s0 l i a)(ha:a<k){x:α}(hx:l[i]?=some x)(hm:nxt x a ∉ l):BfsI nxt k s0 (l++[nxt x a]) i (a+1):=by
 have hi:i<l.length:=(List.getElem?_eq_some_iff.1 hx).1;have h0:∀ j,j<l.length->(l++[nxt x a])[j]?=l[j]?:=fun j hj=>List.getElem?_append_left hj;refine⟨?_,?_,by simp;omega,fun j y hj hy b hb=>?_,fun y hy b hb hbk=>?_,fun y hy=>?_⟩
 ·rw[List.nodup_append]
  exact⟨h.nd,by simp,fun y hy z hz e=>by simp at hz;subst hz;subst e;exact hm hy⟩
 ·rw[h0 0 (by omega)];exact h.hd
 ·rw[h0 j (by omega)]at hy
  exact List.mem_append_left _ (h.cl j y hj hy b hb)
 ·rw[h0 i hi]at hy
  rcases Nat.lt_succ_iff_lt_or_eq.1 hb with hb|rfl
  ·exact List.mem_append_left _ (h.row y hy b hb hbk)
  ·rw[hx]at hy;rw[<- Oj hy];simp
 ·rcases List.mem_append.1 hy with hy|hy
  ·exact h.re y hy
  ·simp at hy
   subst hy;obtain⟨w,hw,e⟩:=h.re x (List.mem_of_getElem? hx);refine⟨w++[a],fun b hb=>?_,?_⟩
   ·rcases List.mem_append.1 hb with hb|hb
    ·exact hw b hb
    ·simp at hb;omega
   ·simp[sE]at e ⊢;rw[e]
theorem BfsI.next {l : List α}{i : Nat}(h : BfsI nxt k s0 l i k)(hi : i < l.length): BfsI nxt k s0 l (i + 1) 0 :=
 ⟨h.nd, h.hd, hi, fun j x hj hx b hb => by
  rcases Nat.lt_succ_iff_lt_or_eq.1 hj with hj | rfl
  ·exact h.cl j x hj hx b hb
  ·exact h.row x hx b hb hb, fun x _ b hb => by omega, h.re⟩
structure BfsD (nxt:α->Nat->α)(k:Nat)(s0:α)(l:List α):Prop where
 nd:l.Nodup
 hd:l[0]?=some s0
 cl:∀ x∈l,∀ b,b<k->nxt x b∈l
 re:∀ x∈l,∃ w,yI k w/\sE nxt s0 w=x
theorem BfsI.done {l : List α}{i : Nat}(h : BfsI nxt k s0 l i 0)(hi : ¬ i < l.length): BfsD nxt k s0 l :=
 ⟨h.nd, h.hd, fun x hx b hb => by
  obtain⟨j, hj, e⟩ := List.getElem_of_mem hx
  exact h.cl j x (by omega) (by rw[List.getElem?_eq_getElem hj, e]) b hb, h.re⟩
theorem BfsD.all {l:List α}(h:BfsD nxt k s0 l):∀ (w:List Nat) {x:α},x∈l->yI k w->sE nxt x w∈l
 | [],x,hx,_=>hx
 | a::w,x,hx,hw=>BfsD.all h w (h.cl x hx a (hw a (by simp))) (fun b hb=>hw b (List.mem_cons_of_mem _ hb))
theorem BfsD.mem0 {l:List α}(h:BfsD nxt k s0 l):s0∈l:=List.mem_of_getElem? h.hd
theorem BfsD.sub {l:List α}(h:BfsD nxt k s0 l){m:List α}(hm:m.Nodup)(hr:∀ x∈m,∃ w,yI k w/\sE nxt s0 w=x):m.length<=l.length :=
 hm.length_le_of_subset fun x hx=>by
  obtain⟨w,hw,rfl⟩:=hr x hx
  exact h.all w h.mem0 hw
def sD {α:Type}[BEq α](nxt:α->Nat->α)(k:Nat)(l:List α)(x:α):List Int:=(List.range k).map fun a=>((l.idxOf (nxt x a):Nat):Int)
def bfsA {α:Type}[BEq α](nxt:α->Nat->α)(k:Nat)(fin:α->Bool)(l:List α):DfaV:=⟨k,0,l.map fin,l.map (sD nxt k l)⟩
theorem bfsRow_more [BEq α][LawfulBEq α]{l m:List α}{x:α}(h:∀ b,b<k->nxt x b∈l):sD nxt k (l++m) x=sD nxt k l x:=by
 refine List.map_congr_left fun a ha=>?_;rw[List.idxOf_append,if_pos (h a (List.mem_range.1 ha))]
variable {fin:α->Bool}
theorem jS [BEq α]{l:List α}{i:Nat}(hi:i<l.length):(bfsA nxt k fin l).next.getD i []=sD nxt k l l[i]:=by
 show (l.map (sD nxt k l)).getD i []=_;rw[zG (by simpa using hi)];simp
theorem qHO [BEq α]{l:List α}{i a:Nat}(hi:i<l.length)(ha:a<k):nx (bfsA nxt k fin l) i a=l.idxOf (nxt l[i] a):=by
 unfold nx entN ent;rw[jS hi,sD,zG (by simpa using ha)];simp
theorem BfsD.vd [BEq α][LawfulBEq α]{l:List α}(h:BfsD nxt k s0 l)(h1:1<=k)(h6:k<=6)(hl:l.length<=4194304):VD (bfsA nxt k fin l) l.length k:=by
 have h0:0<l.length:=(List.getElem?_eq_some_iff.1 h.hd).1;have hr:∀ q,q<l.length->((bfsA nxt k fin l).next.getD q []).length=k:=fun q hq=>by rw[jS hq];simp[sD]
 refine⟨rfl,h1,h6,by simp[bfsA],h0,hl,by simp[bfsA],by show (0:Int)<=0;omega,by show (0:Int)<_;omega,hr,fun q a hq ha=>?_,fun q a hq ha=>?_⟩
 ·unfold ent
  rw[jS hq,sD,zG (by simpa using ha)];simp
 ·unfold ent
  rw[jS hq,sD,zG (by simpa using ha)];simp only[List.getElem_map,List.getElem_range];have:=List.idxOf_lt_length_of_mem (h.cl l[q] (List.getElem_mem hq) a ha);omega
theorem BfsD.run [BEq α][LawfulBEq α]{l:List α}(h:BfsD nxt k s0 l):∀ (w:List Nat) {i:Nat} (hi:i<l.length),yI k w->Go.Proofs.Ytjfdomfendbhfaa.run (bfsA nxt k fin l) i w=l.idxOf (sE nxt l[i] w)
 | [],i,hi,_=>by
  show i=l.idxOf l[i]
  exact(h.nd.idxOf_getElem i hi).symm
 | a::w,i,hi,hw=>by
  have ha:=hw a (by simp)
  have hm:=h.cl l[i] (List.getElem_mem hi) a ha
  have hj:=List.idxOf_lt_length_of_mem hm
  show Go.Proofs.Ytjfdomfendbhfaa.run (bfsA nxt k fin l) (nx (bfsA nxt k fin l) i a) w=_
  rw[qHO hi ha,BfsD.run h w hj (fun b hb=>hw b (List.mem_cons_of_mem _ hb)),List.getElem_idxOf]
  rfl
theorem BfsD.acc [BEq α][LawfulBEq α]{l:List α}(h:BfsD nxt k s0 l){w:List Nat}(hw:yI k w):Go.Proofs.Ytjfdomfendbhfaa.acc (bfsA nxt k fin l) (st0 (bfsA nxt k fin l)) w=fin (sE nxt s0 w):=by
 obtain⟨h0,e⟩:=List.getElem?_eq_some_iff.1 h.hd;show (l.map fin).getD (Go.Proofs.Ytjfdomfendbhfaa.run (bfsA nxt k fin l) 0 w) false=_;rw[h.run w h0 hw,e];have hm:=h.all w h.mem0 hw;have hj:=List.idxOf_lt_length_of_mem hm;rw[zG (by simpa using hj)];simp[List.getElem_map]
end
theorem dP:∀ (n:Nat) (l:List (List Bool)),l.Nodup->(∀ x∈l,x.length=n)->l.length<=2 ^ n
 | 0,l,hn,hl=>by
  have:l ⊆ [[]]:=fun x hx=>by simp[List.eq_nil_of_length_eq_zero (hl x hx)]
  simpa using hn.length_le_of_subset this
 | n+1,l,hn,hl=>by
  have key:∀ b:Bool,(l.filter fun x=>x.headD false == b).length<=2 ^ n:=fun b=>by
   have h0:∀ x∈l.filter (fun x=>x.headD false == b),x=b::x.tail/\x.length=n+1:=fun x hx=>by
    obtain⟨h1,h2⟩:=List.mem_filter.1 hx
    have h3:=hl x h1
    cases x with
    | nil=>simp at h3
    | cons c x=>simp at h2;exact⟨by rw[h2];rfl,h3⟩
   have h1:=dP n ((l.filter fun x=>x.headD false == b).map List.tail) (by
    rw[List.Nodup,List.pairwise_map]
    refine List.Pairwise.imp_of_mem ?_ (hn.filter _)
    intro x y hx hy hne e
    exact hne (by rw[(h0 x hx).1,(h0 y hy).1,e])) (fun x hx=>by
    obtain⟨y,hy,rfl⟩:=List.mem_map.1 hx
    rw[List.length_tail,(h0 y hy).2];omega)
   rwa [List.length_map]at h1
  have h1:=key true
  have h2:=key false
  have h3:∀ l:List (List Bool),l.length=(l.filter fun x=>x.headD false == true).length+(l.filter fun x=>x.headD false == false).length:=fun l=>by
   induction l with
   | nil=>rfl
   | cons x l ih =>
    rw[List.filter_cons,List.filter_cons]
    generalize x.headD false=b
    cases b
    ·rw[if_neg (by decide),if_pos (by decide),List.length_cons,List.length_cons];omega
    ·rw[if_pos (by decide),if_neg (by decide),List.length_cons,List.length_cons];omega
  have:=h3 l
  rw[Nat.pow_succ];omega
end Go.Proofs.Ytjfdomfendbhfaa
