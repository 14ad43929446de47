/- Part 8 of the proof. -/
import Derived.Test.YtobakifdllameaaQc7
import Derived.BigQuiet
set_option linter.unusedVariables false
set_option linter.unusedSimpArgs false
set_option maxRecDepth 100000
set_option maxHeartbeats 16000000
namespace Go.Proofs.Ytobakifdllameaa
theorem kI {n:Nat}{g:List Nat}(hg:IsT n g):wK (List.range n) g=g:=by
 refine List.ext_getElem (by rw[rD,List.length_range,hg.1]) fun i h1 h2=>?_;have hi:i<n:=by rw[<-hg.1];exact h2
 simp only[wK,List.getElem_map,List.getElem_range];rw[zK h2]
theorem mZ (n:Nat):IsT n (List.range n):=⟨List.length_range,fun x hx=>List.mem_range.1 hx⟩
theorem qDC {n:Nat}{f:List Nat}(hf:IsT n f):wK f (List.range n)=f:=by
 refine List.ext_getElem (by rw[rD]) fun i h1 h2=>?_;simp only[wK,List.getElem_map];have:=hf.2 _ (List.getElem_mem h2);rw[zK (by simpa using this)];simp
theorem eZ {n:Nat}{f g h:List Nat}(hf:IsT n f)(hg:IsT n g):wK (wK f g) h=wK f (wK g h):=by
 refine List.ext_getElem (by simp[rD]) fun i h1 h2=>?_;simp only[wK,List.getElem_map];have hi:i<f.length:=by simpa [wK] using h1
 have:=hf.2 _ (List.getElem_mem hi);rw[xR (x:=0) (by rw[hg.1];exact this)]
theorem iH {α:Type}{a b:List α}(h:a <+: b){i:Nat}(hi:i<a.length)(d:α):b.getD i d=a.getD i d:=by
 obtain⟨c,rfl⟩:=h;rw[List.getD_eq_getElem?_getD,List.getElem?_append_left hi,<-List.getD_eq_getElem?_getD]
theorem gI {α:Type}[BEq α][LawfulBEq α]{l:List α}{x d:α}(h:x∈l):l.getD (l.idxOf x) d=x:=by
 rw[zK (List.idxOf_lt_length_of_mem h),List.getElem_idxOf]
theorem rX {α:Type}{l:List α}(h:l.Nodup){i j:Nat}{d:α}(hi:i<l.length)(hj:j<l.length)(e:l.getD i d=l.getD j d):i=j:=by
 rw[zK hi,zK hj]at e;exact(List.getElem_inj h).1 e
structure EnI (gs:List (List Nat))(n:Nat)(el:List (List Nat))(pr la:List Int):Prop where
 l2:pr.length=el.length
 l3:la.length=el.length
 it:∀f∈el,IsT n f
 words:qA pr la el.length gs.length
 nodup:el.Nodup
 pos:0<el.length
 one:el.getD 0 []=List.range n
 val:∀i,i<el.length->(la.getD i 0<0/\i=0)\/(¬la.getD i 0<0/\el.getD i []=wK (el.getD (pr.getD i 0).toNat []) (gs.getD (la.getD i 0).toNat []))
theorem EnI.add {gs:List (List Nat)}{n d x:Nat}{el:List (List Nat)}{pr la:List Int}(h:EnI gs n el pr la)(hg:∀g∈gs,IsT n g)(hd:d<el.length)(hx:x<gs.length)(a9:wK (el.getD d []) (gs.getD x []) ∉ el):
  EnI gs n (el++[wK (el.getD d []) (gs.getD x [])]) (pr++[(d:Int)]) (la++[(x:Int)]) where
 l2:=by simp[h.l2]
 l3:=by simp[h.l3]
 it:=fun f hf=>by
  rcases List.mem_append.1 hf with hf|hf
  ·exact h.it f hf
  ·rw[List.mem_singleton]at hf;subst hf
   exact nG (h.it _ (uP hd)) (hg _ (uP hx))
 words:=by
  have:=qBA h.words h.l2 h.l3 hd hx;simpa using this
 nodup:=by
  rw[List.nodup_append];exact⟨h.nodup,by simp,fun a ha b hb=>by rw[List.mem_singleton]at hb;subst hb;exact fun e=>a9 (e ▸ ha)⟩
 pos:=by simp
 one:=by rw[xQ h.pos];exact h.one
 val:=fun i hi=>by
  rcases Nat.lt_or_ge i el.length with h1|h1
  ·rw[xQ (l:=la) (by rw[h.l3];exact h1),xQ (l:=el) (i:=i) h1,xQ (l:=pr) (by rw[h.l2];exact h1)]
   rcases h.val i h1 with h2|⟨h2,h3⟩
   ·exact .inl h2
   ·refine .inr ⟨h2,?_⟩
    rcases h.words i h1 with h4|⟨_,_,h5,h6⟩
    ·exact absurd h4 h2
    ·rw[xQ (show (pr.getD i 0).toNat<el.length by omega)];exact h3
  ·have e:i=el.length:=by simp at hi;omega
   rw[wJ (l:=la) (by rw[h.l3];exact e),wJ (l:=el) (i:=i) e,wJ (l:=pr) (by rw[h.l2];exact e)];refine .inr ⟨by omega,?_⟩;rw[Int.toNat_natCast,Int.toNat_natCast,xQ (l:=el) hd]
theorem iK {gs:List (List Nat)}{n:Nat}(hg:∀g∈gs,IsT n g):∀x,x<=gs.length->EnI gs n (yK gs n x).1 (yK gs n x).2.1 (yK gs n x).2.2
 | 0,_=>by
  refine⟨rfl,rfl,fun f hf=>?_,fun i hi=>?_,by simp[yK],by simp[yK],rfl,fun i hi=>?_⟩
  ·simp only[yK,List.mem_singleton]at hf;subst hf;exact mZ n
  ·have hi:i=0:=by simp[yK]at hi;omega
   subst hi;exact .inl (by simp[yK])
  ·have hi:i=0:=by simp[yK]at hi;omega
   subst hi;exact .inl ⟨by simp[yK],rfl⟩
 | x+1,hx=>by
  have ih:=iK hg x (by omega)
  rw[yK]
  by_cases h:gs.getD x []∈(yK gs n x).1
  ·rw[if_pos h];exact ih
  ·rw[if_neg h]
   have e:wK ((yK gs n x).1.getD 0 []) (gs.getD x [])=gs.getD x []:=by
    rw[ih.one];exact kI (hg _ (uP (show x<gs.length by omega)))
   have:=ih.add (d:=0) (x:=x) hg ih.pos (by omega) (by rw[e];exact h);rw[e]at this;exact this
structure RowI (gs:List (List Nat))(n d:Nat)(s0:List (List Nat))(x:Nat)(t:List (List Nat)×List Int×List Int×List Nat):Prop where
 en:EnI gs n t.1 t.2.1 t.2.2.1
 pre:s0 <+: t.1
 len:t.2.2.2.length=x
 ent:∀a,a<x->t.2.2.2.getD a 0<t.1.length/\t.1.getD (t.2.2.2.getD a 0) []=wK (s0.getD d []) (gs.getD a [])
theorem qDV {gs:List (List Nat)}{n d:Nat}{s:List (List Nat)×List Int×List Int}(hg:∀g∈gs,IsT n g)(h:EnI gs n s.1 s.2.1 s.2.2)(hd:d<s.1.length):∀x,x<=gs.length->RowI gs n d s.1 x (rV gs d s x)
 | 0,_=>⟨h,List.prefix_refl _,rfl,fun a ha=>by omega⟩
 | x+1,hx=>by
  have ih:=qDV hg h hd x (by omega)
  rw[rV]
  obtain⟨⟨el,pr,la,ro⟩,ht⟩:∃t,t=rV gs d s x:=⟨_,rfl⟩
  rw[<-ht]at ih⊢
  obtain⟨he,hp,hl,hn⟩:=ih
  simp only at he hp hl hn
  have hdl:d<el.length:=Nat.lt_of_lt_of_le hd hp.length_le
  have hed:el.getD d []=s.1.getD d []:=iH hp hd _
  unfold dM
  simp only
  rw[hed]
  by_cases hin:wK (s.1.getD d []) (gs.getD x [])∈el
  ·rw[if_pos hin]
   refine⟨he,hp,by simp[hl],fun a ha=>?_⟩
   rcases Nat.lt_or_ge a x with h1|h1
   ·simp only;rw[xQ (by rw[hl];exact h1)];exact hn a h1
   ·have:a=x:=by omega
    subst this
    simp only;rw[wJ hl.symm]
    exact⟨List.idxOf_lt_length_of_mem hin,gI hin⟩
  ·rw[if_neg hin]
   refine⟨?_,hp.trans (List.prefix_append _ _),by simp[hl],fun a ha=>?_⟩
   ·have:=he.add (d:=d) (x:=x) hg hdl (by omega) (by rw[hed];exact hin)
    rw[hed]at this;exact this
   ·simp only
    rcases Nat.lt_or_ge a x with h1|h1
    ·rw[xQ (by rw[hl];exact h1)]
     have:=hn a h1
     rw[xQ this.1]
     exact⟨by rw[List.length_append];exact Nat.lt_of_lt_of_le this.1 (Nat.le_add_right _ _),this.2⟩
    ·have:a=x:=by omega
     subst this
     rw[wJ hl.symm,wJ rfl]
     exact⟨by simp,rfl⟩
theorem aT (gs:List (List Nat))(d:Nat)(s:List (List Nat)×List Int×List Int):∀x,s.1 <+: (rV gs d s x).1
 | 0=>List.prefix_refl _
 | x+1=>by
  have ih:=aT gs d s x
  rw[rV]
  unfold dM
  split
  ·exact ih
  ·exact ih.trans (List.prefix_append _ _)
theorem qJL (gs:List (List Nat))(d:Nat)(s:List (List Nat)×List Int×List Int)(hd:s.1.length<=d)(hk:1<=gs.length):∀x,1<=x->([]:List Nat)∈(rV gs d s x).1
 | 1,_=>by
  rw[rV,rV]
  unfold dM
  have e:s.1.getD d []=[]:=by rw[List.getD_eq_getElem?_getD,List.getElem?_eq_none hd];rfl
  simp only[e,wK,List.map_nil]
  split
  ·assumption
  ·simp
 | x+2,_=>by
  have ih:=qJL gs d s hd hk (x+1) (by omega)
  rw[rV]
  unfold dM
  split
  ·exact ih
  ·exact List.mem_append_left _ ih
theorem aZ (gs:List (List Nat))(s:List (List Nat)×List Int×List Int)(d:Nat):∀e,(xZ gs s d).1.1 <+: (xZ gs s (d+e)).1.1
 | 0=>List.prefix_refl _
 | e+1=>(aZ gs s d e).trans (by rw[Nat.add_succ,xZ];exact aT gs (d+e) (xZ gs s (d+e)).1 gs.length)
theorem qAB {gs:List (List Nat)}{n d:Nat}{s:List (List Nat)×List Int×List Int}(h1:1<=n)(hk:1<=gs.length)(a9:∀f∈(xZ gs s d).1.1,IsT n f)(d':Nat)(hd:d'<d):d'<(xZ gs s d').1.1.length:=by
 rcases Nat.lt_or_ge d' (xZ gs s d').1.1.length with h|h
 ·exact h
 exfalso;have hm:=qJL gs d' (xZ gs s d').1 h hk gs.length hk;have hp:=aZ gs s (d'+1) (d-(d'+1));rw[show d'+1+(d-(d'+1))=d by omega,xZ]at hp;have:=a9 [] (hp.subset hm);have:=this.1;simp at this;omega
structure Enm (gs:List (List Nat))(n:Nat)(el:List (List Nat))(pr la:List Int)(ri:List (List Nat))(d:Nat):Prop where
 en:EnI gs n el pr la
 rl:ri.length=d
 row:∀q,q<d->q<el.length/\(ri.getD q []).length=gs.length/\∀a,a<gs.length->(ri.getD q []).getD a 0<el.length/\el.getD ((ri.getD q []).getD a 0) []=wK (el.getD q []) (gs.getD a [])
theorem qAA {gs:List (List Nat)}{n:Nat}{s:List (List Nat)×List Int×List Int}(hg:∀g∈gs,IsT n g)(h:EnI gs n s.1 s.2.1 s.2.2):∀d,(∀d',d'<d->d'<(xZ gs s d').1.1.length)->Enm gs n (xZ gs s d).1.1 (xZ gs s d).1.2.1 (xZ gs s d).1.2.2 (xZ gs s d).2 d
 | 0,_=>⟨h,rfl,fun q hq=>by omega⟩
 | d+1,hlt=>by
  have ih:=qAA hg h d (fun d' hd=>hlt d' (by omega))
  have hr:=qDV hg (s:=(xZ gs s d).1) ih.en (hlt d (by omega)) gs.length (Nat.le_refl _)
  rw[xZ]
  refine⟨hr.en,by simp[ih.rl],fun q hq=>?_⟩
  simp only
  rcases Nat.lt_or_ge q d with h1|h1
  ·rw[xQ (by rw[ih.rl];exact h1)]
   obtain⟨h2,h3,h4⟩:=ih.row q h1
   refine⟨Nat.lt_of_lt_of_le h2 hr.pre.length_le,h3,fun a ha=>?_⟩
   obtain⟨h5,h6⟩:=h4 a ha
   exact⟨Nat.lt_of_lt_of_le h5 hr.pre.length_le,by rw[iH hr.pre h5,iH hr.pre h2];exact h6⟩
  ·have:q=d:=by omega
   subst this
   rw[wJ ih.rl.symm]
   refine⟨Nat.lt_of_lt_of_le (hlt q (by omega)) hr.pre.length_le,hr.len,fun a ha=>?_⟩
   obtain⟨h5,h6⟩:=hr.ent a ha
   exact⟨h5,by rw[iH hr.pre (hlt q (by omega))];exact h6⟩
theorem qSP {gs:List (List Nat)}{n d:Nat}{el:List (List Nat)}{pr la:List Int}{ri:List (List Nat)}(hg:∀g∈gs,IsT n g)(h1:1<=n)(hk:1<=gs.length)(hp:xZ gs (yK gs n gs.length) d=((el,pr,la),ri))(a9:∀f∈el,IsT n f):Enm gs n el pr la ri d:=by
 have:=qAA hg (iK hg gs.length (Nat.le_refl _)) d (qAB h1 hk (by rw[hp];exact a9));rw[hp]at this;exact this
def valW (gs:List (List Nat))(n:Nat)(w:List Nat):List Nat:=w.foldl (fun f a=>wK f (gs.getD a [])) (List.range n)
theorem qBF (gs:List (List Nat))(n:Nat)(w:List Nat)(a:Nat):valW gs n (w++[a])=wK (valW gs n w) (gs.getD a []):=by simp[valW,List.foldl_append]
theorem fJ {gs:List (List Nat)}{n:Nat}(hg:∀g∈gs,IsT n g)(w:List Nat)(hw:∀a∈w,a<gs.length):IsT n (valW gs n w):=by
 suffices h:∀(v:List Nat) (f:List Nat),IsT n f->(∀a∈v,a<gs.length)->IsT n (v.foldl (fun f a=>wK f (gs.getD a [])) f) from h w _ (mZ n) hw
 intro v
 induction v with
 | nil=>intro f hf _;exact hf
 | cons a v ih=>intro f hf hv;exact ih _ (nG hf (hg _ (uP (hv a (by simp))))) (fun b hb=>hv b (by simp[hb]))
section
variable {gs:List (List Nat)} {n:Nat} {el:List (List Nat)} {pr la:List Int} {ri:List (List Nat)}
theorem EnI.word (h:EnI gs n el pr la):∀i,i<el.length->el.getD i []=valW gs n (vJ pr la i):=by
 intro i
 induction i using Nat.strongRecOn with
 | ind i ih =>
  intro hi;rcases h.val i hi with ⟨h1,h2⟩|⟨h1,h2⟩
  ·subst h2;rw[oM h1,h.one];rfl
  rcases h.words i hi with h3|⟨_,_,h4,h5⟩
  ·exact absurd h3 h1
  rw[oO h.words hi h1,qBF,h2,ih (pr.getD i 0).toNat (by omega) (by omega)]
theorem Enm.right (h:Enm gs n el pr la ri el.length):qFF ri el.length gs.length:=⟨h.rl,fun q hq=>⟨(h.row q hq).2.1,fun a ha=>((h.row q hq).2.2 a ha).1⟩⟩
theorem Enm.at (h:Enm gs n el pr la ri el.length)(hg:∀g∈gs,IsT n g){x:Nat}(hx:x<el.length)(w:List Nat)(hw:∀a∈w,a<gs.length):atW ri x w<el.length/\el.getD (atW ri x w) []=wK (el.getD x []) (valW gs n w):=by
 suffices hs:∀(m:Nat) (w:List Nat),w.length=m->(∀a∈w,a<gs.length)->atW ri x w<el.length/\el.getD (atW ri x w) []=wK (el.getD x []) (valW gs n w) from hs _ w rfl hw
 intro m
 induction m with
 | zero =>
  intro w hl _;have:w=[]:=List.eq_nil_of_length_eq_zero hl;subst this;exact⟨hx,(qDC (h.en.it _ (uP hx))).symm⟩
 | succ m ih =>
  intro w hl hw;obtain⟨v,a,rfl⟩:∃v a,w=v++[a]:=⟨w.dropLast,w.getLast (by intro e;rw[e]at hl;simp at hl),(List.dropLast_concat_getLast _).symm⟩;have hv:∀b∈v,b<gs.length:=fun b hb=>hw b (by simp[hb]);have ha:=hw a (by simp);obtain⟨h1,h2⟩:=ih v (by simpa using hl) hv;rw[fY,qBF];obtain⟨h3,h4⟩:=(h.row _ h1).2.2 a ha;refine⟨h3,?_⟩;rw[h4,h2,eZ (h.en.it _ (uP hx)) (fJ hg v hv)]
theorem Enm.tab (h:Enm gs n el pr la ri el.length)(hg:∀g∈gs,IsT n g){x y:Nat}(hx:x<el.length)(hy:y<el.length):((tabE pr la ri el.length).getD x []).getD y 0<el.length/\el.getD (((tabE pr la ri el.length).getD x []).getD y 0) []=wK (el.getD x []) (el.getD y []):=by
 have e:((tabE pr la ri el.length).getD x []).getD y 0=atW ri x (vJ pr la y):=by
  rw[zK (l:=tabE pr la ri el.length) (by rw[wH];exact hx)];simp only[tabE,List.getElem_map,List.getElem_range];rw[zK (by rw[sF];exact hy)];simp only[rowE,List.getElem_map,List.getElem_range]
 rw[e,h.en.word y hy];exact h.at hg hx _ (pT h.en.words y hy).1
theorem Enm.image (h:Enm gs n el pr la ri el.length)(hg:∀g∈gs,IsT n g){a:Nat}(ha:a<gs.length):gs.getD a []∈el:=by
 obtain⟨h1,h2⟩:=(h.row 0 h.en.pos).2.2 a ha;rw[h.en.one,kI (hg _ (uP ha))]at h2;rw[<-h2];exact uP h1
end
open Go.RowKit
theorem aM {W:World}{g e:Nat}{u:Value}{m:Nat×Nat}(h:W.heap[g]?=some (.cells #[u] e m)):tB W 1 (.slice (some ⟨g,0,none⟩) 1 1) 1 [u]:=by
 have c0:=zG h 0;simp only[List.getElem_toArray,List.getElem_cons_zero]at c0;refine .inr ⟨g,0,1,rfl,rfl,by unfold maxLen;omega,fun j u' hj=>?_⟩
 match j,hj with
 | 0,hj=>simp at hj;subst hj;simpa using c0
theorem zY {w:World}{p e:Nat}{x0 x1 x2 x3 x4 x5:Value}(h:w.heap[p]?=some (.cells #[x0,x1,x2,x3,x4,x5] e (0,0))):w.cell? ⟨p,0,none⟩=some x0/\w.cell? ⟨p,1,none⟩=some x1/\w.cell? ⟨p,2,none⟩=some x2/\w.cell? ⟨p,3,none⟩=some x3/\w.cell? ⟨p,4,none⟩=some x4/\w.cell? ⟨p,5,none⟩=some x5:=by
 have c0:=zG h 0;have c1:=zG h 1;have c2:=zG h 2;have c3:=zG h 3;have c4:=zG h 4;have c5:=zG h 5;exact⟨by simpa using c0,by simpa using c1,by simpa using c2,by simpa using c3,by simpa using c4,by simpa using c5⟩
theorem uL {w:World}{p e:Nat}{z0 z1 z2 z3 z4 z5:Value}(h:w.heap[p]?=some (.cells #[z0,z1,z2,z3,z4,z5] e (0,0)))(x0 x1 x2 x3 x4 x5:Value):((((((w.setCell ⟨p,0,none⟩ x0).setCell ⟨p,1,none⟩ x1).setCell ⟨p,2,none⟩ x2).setCell ⟨p,3,none⟩ x3).setCell ⟨p,4,none⟩ x4).setCell ⟨p,5,none⟩ x5).heap[p]?=some (.cells #[x0,x1,x2,x3,x4,x5] e (0,0))/\w.grownBy ((((((w.setCell ⟨p,0,none⟩ x0).setCell ⟨p,1,none⟩ x1).setCell ⟨p,2,none⟩ x2).setCell ⟨p,3,none⟩ x3).setCell ⟨p,4,none⟩ x4).setCell ⟨p,5,none⟩ x5) (some p):=by
 have s0:=heap_setCell_same w p 0 _ _ x0 h;have s1:=heap_setCell_same _ p 1 _ _ x1 s0;have s2:=heap_setCell_same _ p 2 _ _ x2 s1;have s3:=heap_setCell_same _ p 3 _ _ x3 s2;have s4:=heap_setCell_same _ p 4 _ _ x4 s3;have s5:=heap_setCell_same _ p 5 _ _ x5 s4;refine⟨by rw[s5];simp,?_⟩;have t:=fun(W:World) (i:Nat) (u:Value)=>zF W ⟨p,i,none⟩ u;exact zH (zH (zH (zH (zH (t _ 0 _) (t _ 1 _)) (t _ 2 _)) (t _ 3 _)) (t _ 4 _)) (t _ 5 _)
structure BoxS (B:Nat)(X:Nat->Prop)(o ty:Nat)(w0 wk:World)(rs:List RowS)(c:Array Value)(w:World):Prop where
 mem:EMem X w rs
 typ:∀r∈rs,r.base=B/\r.e≠ty
 box:w.heap[o]?=some (.cells c ty (0,0))
 off:¬X o
 size:w0.heap.size<=B
 old:w0.heap.size<=o
 base:B<=wk.heap.size
 grown:w0.grownBy w none
 kept:xX X wk w
 wk:wk.heap.size<=w.heap.size
section
variable {B:Nat} {X:Nat->Prop} {o ty:Nat} {w0 wk w:World} {rs:List RowS} {c:Array Value}
theorem BoxS.grow (h:BoxS B X o ty w0 wk rs c w){w':World}(hg:w.grownBy w' none):BoxS B X o ty w0 wk rs c w' :=
 ⟨h.mem.grow hg,h.typ,zB h.box hg,h.off,h.size,h.old,h.base,zC h.grown hg,h.kept.trans (h.mem.keep hg),Nat.le_trans h.wk hg.size⟩
theorem BoxS.set (h:BoxS B X o ty w0 wk rs c w)(f:Nat)(u:Value):BoxS B X o ty w0 wk rs (c.setIfInBounds f u) (w.setCell ⟨o,f,none⟩ u):=by
 have hs:=heap_setCell_same w o f _ _ u h.box;have hg:=zF w ⟨o,f,none⟩ u;exact⟨h.mem.far hg (fun r hr=>zS (h.mem.own r hr) h.box (h.typ r hr).2),h.typ,hs,h.off,h.size,h.old,h.base,yM h.grown hg (by show _<=o;have:=h.old;omega),h.kept.trans (xX.of_grown h.mem.lt hg (fun j e hx=>by have e:o=j:=Oj e;subst e;exact h.off hx)),Nat.le_trans h.wk hg.size⟩
theorem BoxS.own (h:BoxS B X o ty w0 wk rs c w){r:RowS}(hr:r∈rs):w.ownsRow r.base r.e r.sz r.v r.n r.xs:=h.mem.own r hr
theorem BoxS.nil (h:BoxS B X o ty w0 wk rs c w){e sz:Nat}(he:e≠ty):BoxS B X o ty w0 wk (rs++[⟨B,e,.slice none 0 0,0,[],sz⟩]) c w :=
 ⟨h.mem.add (zV _ none) (World.ownsRow_nil _ _ _ _) (fun j e=>by simp[Value.ownBlock]at e),fun r hr=>by
  rcases List.mem_append.1 hr with hr|hr
  ·exact h.typ r hr
  ·rw[List.mem_singleton]at hr;subst hr;exact⟨rfl,he⟩,h.box,h.off,h.size,h.old,h.base,h.grown,h.kept,h.wk⟩
theorem BoxS.add (h:BoxS B X o ty w0 wk rs c w){w':World}(hg:w.grownBy w' none){e sz n:Nat}{v:Value}{xs:List Value}(ho:w'.ownsRow w.heap.size e sz v n xs)(he:e≠ty):BoxS B X o ty w0 wk (rs++[⟨B,e,v,n,xs,sz⟩]) c w' :=
 ⟨h.mem.add hg (wT ho (Nat.le_trans h.base h.wk)) (fun k hk=>(ho.lt k hk).1),fun r hr=>by
  rcases List.mem_append.1 hr with hr|hr
  ·exact h.typ r hr
  ·rw[List.mem_singleton]at hr;subst hr;exact⟨rfl,he⟩,zB h.box hg,h.off,h.size,h.old,h.base,zC h.grown hg,h.kept.trans (h.mem.keep hg),Nat.le_trans h.wk hg.size⟩
theorem BoxS.push (h:BoxS B X o ty w0 wk rs c w):Many w (qM rs) w rs [] []/\B<=w.heap.size/\∀(wM:World) (j:Nat) (r:RowS) (v':Value) (n':Nat) (us:List Value),rs[j]?=some r->Many w (qM rs) wM (rs.set j ⟨r.base,r.e,v',n',r.xs++us,r.sz⟩) [] []->BoxS B X o ty w0 wk (rs.set j ⟨r.base,r.e,v',n',r.xs++us,r.sz⟩) c wM:=by
 refine⟨h.mem.many _ (fun _ h=>h),Nat.le_trans h.base h.wk,fun wM j r v' n' us hr hMM=>?_⟩
 have hf:∀k,qM rs k->B<=k/\k≠o/\¬X k:=fun k hk=>by
  obtain⟨r,hr,hk⟩:=hk;have h0:=h.mem.own r hr;refine⟨by have:=(h0.lt k hk).1;rw[(h.typ r hr).1]at this;exact this,fun e=>?_,h.mem.offX r hr k hk⟩;subst e;exact zS h0 h.box (h.typ r hr).2 hk
 refine⟨h.mem.after hMM (fun k hk=>(hf k hk).2.2),fun s hs=>?_,hMM.but.heap h.box (fun hj=>(hf o hj).2.1 rfl),h.off,h.size,h.old,h.base,hMM.but.grown h.grown (fun k hk=>.inr (Nat.le_trans h.size (hf k hk).1)),h.kept.trans (h.mem.keepMany hMM (fun k hk=>(hf k hk).2.2)),Nat.le_trans h.wk hMM.but.size⟩;rcases List.mem_or_eq_of_mem_set hs with hs|rfl
 ·exact h.typ s hs
 exact h.typ r (List.mem_of_getElem? hr)
theorem qJZ {w:World}{b e n g cap i:Nat}{xs:List Value}(h:w.ownsRow b e 1 (.slice (some ⟨g,0,none⟩) n cap) n xs)(hi:i<n)(u:Value):(w.setCell ⟨g,i,none⟩ u).ownsRow b e 1 (.slice (some ⟨g,0,none⟩) n cap) n (xs.set i u):=by
 refine⟨by rw[List.length_set];exact h.1,?_⟩;rcases h.2 with ⟨hv,_⟩|⟨g',cap',cur,hv,hb,hg,hnc,hcm,hcs,htake⟩
 ·simp at hv
 simp only[Value.slice.injEq,Option.some.injEq,Addr.mk.injEq]at hv;obtain⟨⟨rfl,_⟩,_,rfl⟩:=hv;have hs:=heap_setCell_same w g i _ _ u hg;refine .inr ⟨g,cap,_,rfl,hb,hs,hnc,hcm,by simpa using hcs,?_⟩;rw[<-htake];simp[List.take_set]
theorem BoxS.put (h:BoxS B X o ty w0 wk rs c w){j g n cap b e i:Nat}{xs:List Value}(hr:rs[j]?=some ⟨b,e,.slice (some ⟨g,0,none⟩) n cap,n,xs,1⟩)(hi:i<n)(u:Value):BoxS B X o ty w0 wk (rs.set j ⟨b,e,.slice (some ⟨g,0,none⟩) n cap,n,xs.set i u,1⟩) c (w.setCell ⟨g,i,none⟩ u):=by
 have h0:=List.mem_of_getElem? hr;have ho:=h.mem.own _ h0;have ht:=h.typ _ h0;simp only at ho ht;have hg:=zF w ⟨g,i,none⟩ u;have h7:g≠o:=fun e1=>by subst e1;exact zS ho h.box ht.2 rfl
 obtain⟨h4,h2⟩:=List.getElem?_eq_some_iff.1 hr;have h3:=List.pairwise_iff_getElem.1 h.mem.apart;refine⟨⟨fun r hr'=>?_,?_,fun r hr' k hk=>?_,fun k hk=>Nat.lt_of_lt_of_le (h.mem.lt k hk) hg.size⟩,fun r hr'=>?_,zB h.box hg (fun e1=>h7 (Oj e1)),h.off,h.size,h.old,h.base,zC h.grown hg (fun k e1=>?_),h.kept.trans (xX.of_grown h.mem.lt hg (fun k e1 hx=>?_)),Nat.le_trans h.wk hg.size⟩
 ·obtain⟨q,hq,rfl⟩:=List.getElem_of_mem hr'
  rw[List.getElem_set];have h1:q<rs.length:=by simpa using hq
  split
  ·exact qJZ ho hi u
  rename_i hne
  refine(h.mem.own _ (List.getElem_mem h1)).kept hg (.inr (fun e1=>?_));rcases Nat.lt_or_gt_of_ne hne with hlt|hlt
  ·exact h3 j q h4 h1 hlt g (by rw[h2];rfl) e1
  exact h3 q j h1 h4 hlt g e1 (by rw[h2];rfl)
 ·rw[List.pairwise_iff_getElem]
  intro p q hp hq h5;have h6:p<rs.length:=by simpa using hp
  have h1:q<rs.length:=by simpa using hq
  have:=h3 p q h6 h1 h5;rw[List.getElem_set,List.getElem_set]
  split<;>split
  ·omega
  ·rename_i e1 e2;subst e1;rw[h2]at this;exact this
  ·rename_i e1 e2;subst e2;rw[h2]at this;exact this
  exact this
 ·rcases List.mem_or_eq_of_mem_set hr' with hr'|rfl
  ·exact h.mem.offX r hr' k hk
  exact h.mem.offX _ h0 k hk
 ·rcases List.mem_or_eq_of_mem_set hr' with hr'|rfl
  ·exact h.typ r hr'
  exact ht
 ·have e1:g=k:=Oj e1
  have:=(ho.lt g rfl).1;have:=h.size;omega
 have e1:g=k:=Oj e1;subst e1;exact h.mem.offX _ h0 g rfl hx
end
def tabI (ts:List (List Nat)):List (List Int):=ts.map fun r=>r.map fun(x:Nat)=>(x:Int)
theorem yX (ts:List (List Nat)):(tabI ts).length=ts.length:=by simp[tabI]
theorem qCI (l:List Nat):nats l=ints (l.map fun(x:Nat)=>(x:Int)):=by simp[nats,ints]
theorem nK (ts:List (List Nat))(x:Nat):(tabI ts).getD x []=(ts.getD x []).map fun(y:Nat)=>(y:Int):=by
 rcases Nat.lt_or_ge x ts.length with h|h
 ·rw[zK (by rw[yX];exact h),zK h];simp[tabI]
 rw[List.getD_eq_getElem?_getD,List.getD_eq_getElem?_getD,List.getElem?_eq_none (by rw[yX];exact h),List.getElem?_eq_none h];rfl
theorem lR (ts:List (List Nat))(x y:Nat):ent (tabI ts) x y=((ts.getD x []).getD y 0:Nat):=by
 rw[ent,nK];obtain⟨r,hr⟩:=Nm (ts.getD x []);rw[<-hr];rcases Nat.lt_or_ge y r.length with h|h
 ·rw[zK (by simpa using h),zK h];simp
 rw[List.getD_eq_getElem?_getD,List.getD_eq_getElem?_getD,List.getElem?_eq_none (by simpa using h),List.getElem?_eq_none h];rfl
theorem qBH (ts:List (List Nat))(x y:Nat):entN (tabI ts) x y=(ts.getD x []).getD y 0:=by rw[entN,lR];rfl
theorem TMat.mat {B:Nat}{w:World}{v:Value}{ts:List (List Nat)}(h:TMat B w v ts):Mat B w v (tabI ts):=by
 by_cases h0:0<ts.length
 ·obtain⟨b,off,cap,rfl,hc,hm,hb,h4,h3⟩:=h.head h0
  have h2:∀x,∃a c,x<ts.length->w.cell? ⟨b,off+x,none⟩=some (.slice a (ts.getD x []).length c)/\RowT B 3 w (.slice a (ts.getD x []).length c) (nats (ts.getD x [])):=by
   intro x;by_cases hx:x<ts.length
   ·obtain⟨a,c,h1⟩:=h3 x hx
    exact⟨a,c,fun _=>h1⟩
   exact⟨none,0,fun h=>absurd h hx⟩
  obtain⟨A,hA⟩:=Classical.axiomOfChoice h2;obtain⟨C,hC⟩:=Classical.axiomOfChoice hA;refine .inr ⟨b,off,cap,A,C,by rw[yX],by rw[yX];exact hc,hm,hb,h4,fun x hx=>?_,fun x hx=>?_⟩
  ·rw[yX]at hx
   rw[nK,List.length_map];exact(hC x hx).1
  rw[yX]at hx;have h1:=(hC x hx).2.row;rw[nK,List.length_map];rw[qCI]at h1;exact h1
 have:ts=[]:=List.eq_nil_of_length_eq_zero (by omega);subst this;obtain⟨a,c,rfl⟩:=h.shape;exact .inl ⟨a,c,rfl,rfl⟩
theorem qBK {P:Program}{ops:Array Oper}{o:Oper}{a:Act}{w:World}{K:Act->World->Prop}{Q:Exit->Act->World->Prop}{R:Prop}(a4:o.guard=none)(s x:Operand)(t:TypeId)(ho:o.op=.call { callee:=.builtin .append,args:=#[s,x],argTypes:=#[t,t] }){e:TypeId}{z:Value}{a9:Nat}(E:ElemOk P t e z a9)(base:Nat)(v:Value)(n:Nat)(xs:List Value)(hs:a.eval s=v)(a6:w.ownsRow base e 1 v n xs)(u:Value)(blk:Nat)(m:Nat×Nat)(hx:a.eval x=.slice (some ⟨blk,0,none⟩) 1 1)(a5:w.heap[blk]?=some (.cells #[u] e m))(h1:u.oneCell'=true)(a3:n+1<=maxLen)(a8:(n+1)*a9<=140737488355328)(a7:base<=w.heap.size)(h:∀sa sc w',w'.ownsRow base e 1 (.slice sa (n+1) sc) (n+1) (xs++[u])->w.grownBy w' v.ownBlock->K (a.put o.dst (.slice sa (n+1) sc)) w'):
  if Region.wanted o (yielded ops a.tmps)=true then Oper.wp P o a w K Q else R:=by
 have hw:Region.wanted o (yielded ops a.tmps)=true:=by simp[Region.wanted,a4]
 rw[if_pos hw];obtain⟨i,hi,hz,h0,h3⟩:=info_parts E.hi;refine wp_append_own w s x t ho base e i z 1 a9 E.ht hi hz h0 h3 E.hz (by decide) v n xs hs a6 ⟨blk,0,none⟩ 1 1 [u] hx rfl ?_ ?_ a3 a8 a7 ?_
 ·intro j u' hj
  match j,hj with
  | 0,hj=>simp at hj;subst hj;simpa [Addr.add] using zG a5 0
 ·intro u' hu;simp at hu;subst hu;exact h1
 ·intro v' w' h1 h2 _
  obtain⟨sa,sc,rfl⟩:=pB h1;exact h sa sc w' h1 h2
theorem qIS {P:Program}{w:World}{o:Oper}{a:Act}{K:Act->World->Prop}{Q:Exit->Act->World->Prop}(s x:Operand)(t:TypeId)(ho:o.op=.call { callee:=.builtin .append,args:=#[s,x],argTypes:=#[t,t] }){e:TypeId}{sz:Nat}{z:Value}{a9:Nat}(E:ElemN P t e sz z a9)(base:Nat)(v:Value)(n:Nat)(xs:List Value)(hs:a.eval s=v)(a6:w.ownsRow base e sz v n xs)(us:List Value)(g:Nat)(hx:a.eval x=.slice (some ⟨g,0,none⟩) 1 1)(m:Nat×Nat)(a4:us.length=sz)(hg:w.heap[g]?=some (.cells us.toArray e m))(h1:∀u∈us,u.oneCell'=true)(a5:n+1<=maxLen)(a8:(n+1)*a9<=140737488355328)(a7:base<=w.heap.size)(h:∀sa sc w',w'.ownsRow base e sz (.slice sa (n+1) sc) (n+1) (xs++us)->w.grownBy w' v.ownBlock->jO w w' v (.slice sa (n+1) sc)->K (a.put o.dst (.slice sa (n+1) sc)) w'):o.wp P a w K Q:=by
 have h5:∀j,(⟨g,0,none⟩:Addr).add j=⟨g,j,none⟩:=fun j=>by unfold Addr.add;split<;>simp_all
 have h0:tB w sz (.slice (some ⟨g,0,none⟩) 1 1) 1 us:=.inr ⟨g,0,1,rfl,by omega,by unfold maxLen;omega,fun i u hi=>by
  obtain⟨hl,e⟩:=List.getElem?_eq_some_iff.1 hi;have:=zG hg i (by simpa using hl)
  rw[Nat.zero_add,this];simpa using e⟩
 obtain⟨v',w',hr,h2,h3,h4⟩:=rU (P:=P) base t o.type E v n xs a6 _ 1 us h0 h1 a5 a8 a7;obtain⟨sa,sc,rfl⟩:=gU h2;unfold Oper.wp execOp;simp only[ho,resolve,invoke,builtin,Sem.run_bind,Sem.run_pure,Result.andThen_ok,List.map_toArray,List.map_cons,List.map_nil,hs,hx,hr];exact h sa sc w' h2 h3 h4
theorem qK {P:Program}{ops:Array Oper}{w:World}{o:Oper}{a:Act}{K:Act->World->Prop}{Q:Exit->Act->World->Prop}{R:Prop}(a4:o.guard=none)(s x:Operand)(t:TypeId)(ho:o.op=.call { callee:=.builtin .append,args:=#[s,x],argTypes:=#[t,t] }){e:TypeId}{sz:Nat}{z:Value}{a9:Nat}(E:ElemN P t e sz z a9)(base:Nat)(v:Value)(n:Nat)(xs:List Value)(hs:a.eval s=v)(a6:w.ownsRow base e sz v n xs)(us:List Value)(g:Nat)(hx:a.eval x=.slice (some ⟨g,0,none⟩) 1 1)(m:Nat×Nat)(a5:us.length=sz)(hg:w.heap[g]?=some (.cells us.toArray e m))(h1:∀u∈us,u.oneCell'=true)(a3:n+1<=maxLen)(a8:(n+1)*a9<=140737488355328)(a7:base<=w.heap.size)(h:∀sa sc w',w'.ownsRow base e sz (.slice sa (n+1) sc) (n+1) (xs++us)->w.grownBy w' v.ownBlock->jO w w' v (.slice sa (n+1) sc)->K (a.put o.dst (.slice sa (n+1) sc)) w'):if Region.wanted o (yielded ops a.tmps)=true then Oper.wp P o a w K Q else R:=by
 have hw:Region.wanted o (yielded ops a.tmps)=true:=by simp[Region.wanted,a4]
 rw[if_pos hw];exact qIS s x t ho E base v n xs hs a6 us g hx m a5 hg h1 a3 a8 a7 h
theorem qX {P:Program}{w:World}{ops:Array Oper}{a7:List Oper}{o:Oper}{a:Act}{Q:Exit->Act->World->Prop}(a3:o.guard=none)(s x:Operand)(t:TypeId)(ho:o.op=.call { callee:=.builtin .append,args:=#[s,x],argTypes:=#[t,t] }){e:TypeId}{sz:Nat}{z:Value}{a9:Nat}(E:ElemN P t e sz z a9)(base:Nat)(v:Value)(n:Nat)(xs:List Value)(hs:a.eval s=v)(a6:w.ownsRow base e sz v n xs)(us:List Value)(hx:a.eval x=.slice (some ⟨w.heap.size,0,none⟩) 1 1)(a4:us.length=sz)(h1:∀u∈us,u.oneCell'=true)(a2:n+1<=maxLen)(a8:(n+1)*a9<=140737488355328)(a5:base<=w.heap.size)(h:∀sa sc w',w'.ownsRow base e sz (.slice sa (n+1) sc) (n+1) (xs++us)->w.grownBy w' v.ownBlock->jO w w' v (.slice sa (n+1) sc)->wpList P ops Q a7 (a.put o.dst (.slice sa (n+1) sc)) w'):
  wpList P ops Q (o::a7) a (w.alloc (.cells us.toArray e)) :=
 wpList_plain a3 fun _ hK=>qIS s x t ho E base v n xs hs (a6.alloc _) us w.heap.size hx (0,0) a4 (heap_alloc_new w _) h1 a2 a8 (by simp;omega) fun sa sc w' h2 h3 h4=>hK _ _ (h sa sc w' h2 (zH (Ga w _ _) h3) (by
  rcases h4 with h4|⟨h4,h5⟩
  ·exact .inl h4
  ·exact .inr ⟨zH (Ga w _ none) h4,fun k hk=>by have:=h5 k hk;rw[zX]at this;omega⟩))
open Go.Maps
structure KeyK {α:Type}(mt kt:TypeId)(V:α->Prop)(kv:α->Value):Prop where
 key:Keyed Try.prog kt
 und:Try.prog.underlying mt=some (.map kt 3)
 of:∀a,V a->(keyOf Try.prog kt (kv a)).isSome=true
 inj:∀a b,V a->V b->kv a=kv b->a=b
section
variable {α:Type} {mt kt:TypeId} {V:α->Prop} {kv:α->Value}
def MapK (kt:TypeId)(V:α->Prop)(kv:α->Value)(w:World)(b n c:Nat)(f:α->Option Nat):Prop :=
 ∃D:DataW Unit,w.ownsMap Try.prog kt (plainElem Try.prog 3) b n D/\size D=c /\
  ∀a l,V a->keyOf Try.prog kt (kv a)=some l->has D l=(f a).isSome/\D.atKey l (.lit (.int .i64 0))=.lit (.int .i64 (((f a).getD 0:Nat):Int))
theorem MapK.made (kt:TypeId)(V:α->Prop)(kv:α->Value)(w:World):MapK kt V kv (w.alloc (.map #[] 0)) w.heap.size 0 0 (fun _=>none):=by
 refine⟨.map [],World.ownsMap_made _ _ _ _,rfl,fun x _ _ _=>⟨by simp[has_eq],?_⟩⟩;rw[WideAt.atKey_none _ (by simp)];simp
variable {w w':World} {b n c:Nat} {f:α->Option Nat}
theorem MapK.kept {row:Option Nat}(h:MapK kt V kv w b n c f)(hg:w.grownBy w' row)(a9:row≠some b):MapK kt V kv w' b n c f:=by
 obtain⟨D,h1,h2,h3⟩:=h;exact⟨D,h1.kept hg (fun e=>a9 e.symm),h2,h3⟩
theorem MapK.mono {n':Nat}(h:MapK kt V kv w b n c f)(hn:n<=n'):MapK kt V kv w b n' c f:=by
 obtain⟨D,h1,h2,h3⟩:=h;exact⟨D,h1.mono hn,h2,h3⟩
theorem MapK.lt (h:MapK kt V kv w b n c f):b<w.heap.size:=by
 obtain⟨D,h1,_⟩:=h;exact h1.lt
theorem MapK.obj (h:MapK kt V kv w b n c f):∃es clock,w.heap[b]?=some (.map es clock):=by
 obtain⟨D,⟨es,clock,hb,_⟩,_⟩:=h;exact⟨es,clock,hb⟩
theorem MapK.lookup (h:MapK kt V kv w b n c f)(K:KeyK mt kt V kv){x:α}(hx:V x):(Instr.lookup mt (.map (some b)) (kv x) true).run Try.prog w=.ok (.tuple #[.int .i64 (((f x).getD 0:Nat):Int),.bool (f x).isSome]) w:=by
 obtain⟨D,h1,h2,h3⟩:=h;obtain⟨kl,h4⟩:=Option.isSome_iff_exists.1 (K.of x hx);obtain⟨v,ps,h0,hv⟩:=h1.look_ok K.key K.und (fI w) (plainElem_int tM (by decide)) h4;obtain⟨c,rfl,hc,_⟩:=plainElem_int_inv tM hv;obtain⟨e1,e2⟩:=h3 x kl hx h4;have e3:=congrArg Prod.fst hc;simp only[e2]at e3;rw[h0,e1]
 have e4:(((f x).getD 0:Nat):Int)=c:=by
  simp only[Lit.int.injEq,DataW.lit.injEq,true_and]at e3;exact e3
 rw[e4]
theorem MapK.len (h:MapK kt V kv w b n c f)(K:KeyK mt kt V kv):(Builtin.len_ #[mt] 3 #[.map (some b)]).run Try.prog w=.ok (.int .i64 (c:Nat)) w:=by
 obtain⟨D,h1,h2,h3⟩:=h;have h0:=h1.len K.und 3;rw[h2]at h0;exact h0
theorem qJA [DecidableEq α]{ops:Array Oper}{a9:List Oper}{o:Oper}{a:Act}{Q:Exit->Act->World->Prop}(K:KeyK mt kt V kv)(hg:o.guard=none)(m x v:Operand)(a8:o.op=Op.mapUpdate mt m x v)(b n c:Nat)(f:α->Option Nat)(z:α)(y:Nat)(hm:a.eval m=.map (some b))(hx:a.eval x=kv z)(hv:a.eval v=.int .i64 (y:Int))(h:MapK kt V kv w b n c f)(hn:n<maxLen)(hz:V z)(hy:y<4611686018427387904)(hK:∀w',MapK kt V kv w' b (n+1) (if (f z).isSome then c else c+1) (fun q=>if q=z then some y else f q)->w.grownBy w' (some b)->wpList Try.prog ops Q a9 (a.put o.dst undef) w'):wpList Try.prog ops Q (o::a9) a w:=by
 obtain⟨D,h1,h2,h3⟩:=h;obtain⟨kl,h0⟩:=Option.isSome_iff_exists.1 (K.of z hz);obtain⟨w',h4,h5,h7⟩:=h1.update K.key K.und hn h0 (plainElem_int tM (bM (x:=(y:Int)) ⟨by omega,by omega⟩));refine wpList_plain hg fun K' hK'=>?_;unfold Oper.wp;simp[execOp,a8,hm,hx,hv,h4,Result.andThen];refine hK' _ _ (hK w' ⟨_,h5,?_,fun q ql hq hql=>?_⟩ h7)
 ·rw[size_put (h1.tidy K.key),(h3 z kl hz h0).1,h2]
 by_cases e:q=z
 ·subst e
  rw[h0]at hql;cases hql;refine⟨by rw[has_put_same h1.isMap (K.key.key h0)];simp,?_⟩;simp only[if_pos];rw[atKey_put_same h1.isMap (K.key.key h0)];rfl
 have h6:ql≠kl:=fun h=>e (K.inj q z hq hz (K.key.inj (hql.trans (congrArg some h)) h0));obtain⟨e1,e2⟩:=h3 q ql hq hql;simp only[if_neg e];exact⟨by rw[has_put_other h6,e1],by rw[atKey_put_other h6,e2]⟩
end
section
variable {B:Nat} {X:Nat->Prop} {o ty:Nat} {w0 wk w w':World} {rs:List RowS} {c:Array Value}
theorem BoxS.rebase (h:BoxS B X o ty w0 wk rs c w):BoxS B X o ty w0 w rs c w :=
 ⟨h.mem,h.typ,h.box,h.off,h.size,h.old,Nat.le_trans h.base h.wk,h.grown,xX.refl _ _,Nat.le_refl _⟩
theorem BoxS.fresh (h:BoxS B X o ty w0 wk rs c w)(hg:w.grownBy w' none){Y:Nat->Prop}(hY:∀k,Y k->w.heap.size<=k/\k<w'.heap.size):BoxS B (fun k=>X k\/Y k) o ty w0 w' rs c w' :=
 ⟨h.mem.fresh hg hY,h.typ,zB h.box hg,fun e=>by
  rcases e with e|e
  ·exact h.off e
  ·have:=(hY o e).1
   have:=zQ h.box
   omega,h.size,h.old,Nat.le_trans (Nat.le_trans h.base h.wk) hg.size,zC h.grown hg,xX.refl _ _,Nat.le_refl _⟩
theorem BoxS.far (h:BoxS B X o ty w0 wk rs c w){mb:Nat}(hg:w.grownBy w' (some mb))(hr:∀r∈rs,r.v.ownBlock≠some mb)(hx:¬X mb)(ho:o≠mb)(hold:w0.heap.size<=mb):BoxS B X o ty w0 wk rs c w' :=
 ⟨h.mem.far hg hr,h.typ,zB h.box hg (fun e=>ho (Oj e).symm),h.off,h.size,h.old,h.base,yM h.grown hg (by show _<=mb;omega),h.kept.trans (xX.of_grown h.mem.lt hg (fun j e hxx=>by have e:mb=j:=Oj e;subst e;exact hx hxx)),Nat.le_trans h.wk hg.size⟩
theorem BoxS.appAt (h:BoxS B X o ty w0 wk rs c w){j:Nat}{r:RowS}(hr:rs[j]?=some r){v':Value}{n':Nat}{us:List Value}(ho:w'.ownsRow r.base r.e r.sz v' n' (r.xs++us))(hg:w.grownBy w' r.v.ownBlock)(hm:jO w w' r.v v'):BoxS B X o ty w0 wk (rs.set j ⟨r.base,r.e,v',n',r.xs++us,r.sz⟩) c w':=by
 have h0:=List.mem_of_getElem? hr;have h1:=h.mem.own _ h0;have ht:=h.typ _ h0;have h2:∀k,r.v.ownBlock=some k->B<=k/\k≠o/\¬X k:=fun k hk=>⟨by have:=(h1.lt k hk).1;rw[ht.1]at this;exact this,fun e=>by subst e;exact zS h1 h.box ht.2 hk,h.mem.offX r h0 k hk⟩;refine⟨h.mem.appAt hr ho hg hm,fun s hs=>?_,zB h.box hg (fun e=>(h2 o e).2.1 rfl),h.off,h.size,h.old,h.base,zC h.grown hg (fun k e=>Nat.le_trans h.size (h2 k e).1),h.kept.trans (xX.of_grown h.mem.lt hg (fun k e=>(h2 k e).2.2)),Nat.le_trans h.wk hg.size⟩;rcases List.mem_or_eq_of_mem_set hs with hs|rfl
 ·exact h.typ s hs
 exact ht
theorem BoxS.stand (h:BoxS B X o ty w0 wk rs c w){mb:Nat}(hb:mb<w.heap.size)(hr:∀r∈rs,r.v.ownBlock≠some mb)(ho:o≠mb):BoxS B (fun q=>X q\/q=mb) o ty w0 w rs c w :=
  ⟨⟨h.mem.own,h.mem.apart,fun r hr' k hk hx=>by
    rcases hx with hx|hx
    · exact h.mem.offX r hr' k hk hx
    · subst hx;exact hr r hr' hk,fun k hk=>by
    rcases hk with hk|hk
    · exact h.mem.lt k hk
    · subst hk;exact hb⟩,h.typ,h.box,fun e=>by
    rcases e with e|e
    · exact h.off e
    · exact ho e,h.size,h.old,Nat.le_trans h.base h.wk,h.grown,xX.refl _ _,Nat.le_refl _⟩
theorem BoxS.less {X':Nat->Prop}(h:BoxS B X' o ty w0 wk rs c w)(hX:∀q,X q->X' q):BoxS B X o ty w0 wk rs c w :=
 ⟨⟨h.mem.own,h.mem.apart,fun r hr k hk hx=>h.mem.offX r hr k hk (hX k hx),fun k hk=>h.mem.lt k (hX k hk)⟩,h.typ,h.box,fun e=>h.off (hX o e),h.size,h.old,h.base,h.grown,fun k hk=>h.kept k (hX k hk),h.wk⟩
end
theorem MapK.of_block {α:Type}{kt:TypeId}{V:α->Prop}{kv:α->Value}{w w':World}{b n c:Nat}{f:α->Option Nat}(h:MapK kt V kv w b n c f)(hb:w'.heap[b]?=w.heap[b]?):MapK kt V kv w' b n c f:=by
 obtain⟨D,⟨es,clock,h1,h2⟩,h3⟩:=h;exact⟨D,⟨es,clock,hb.trans h1,h2⟩,h3⟩
theorem uU {w:World}{base e sz n b:Nat}{v:Value}{xs:List Value}{es:Array (Value×Value)}{clock:Nat}(h:w.ownsRow base e sz v n xs)(hb:∃es clock,w.heap[b]?=some (.map es clock)):v.ownBlock≠some b:=by
 obtain⟨es,clock,hb⟩:=hb;rcases h.2 with ⟨h1,_⟩|⟨g,cap,cur,h1,_,hg,_⟩
 ·rw[h1];simp[Value.ownBlock]
 rw[h1];intro e;have e:g=b:=by simpa [Value.ownBlock] using e
 subst e;rw[hb]at hg;simp at hg
theorem RowX.of_new {X:Nat->Prop}{w:World}{g n c:Nat}{f:List Nat}(h:Arr w g 3 (nats f))(hn:f.length=n)(hc:n<=c)(hm:c<=maxLen)(hX:X g):RowX X 3 w (.slice (some ⟨g,0,none⟩) n c) (nats f):=by
 subst hn;have:=h.rowT' (cap:=c) (by rw[zR];exact hc) hm;rw[zR]at this;exact⟨this,fun k hk=>by simp[Value.ownBlock]at hk;subst hk;exact hX⟩
def numE (els:List (List Nat))(f:List Nat):Option Nat:=if f∈els then some (els.idxOf f) else none
theorem qKH {a9:List (List Nat)}{f:List Nat}(h:f ∉ a9):(fun q=>if q=f then some a9.length else numE a9 q)=numE (a9++[f]):=by
 funext q;unfold numE;by_cases e:q=f
 ·subst e
  rw[if_pos rfl,if_pos (by simp),List.idxOf_append,if_neg h];simp
 rw[if_neg e];by_cases hq:q∈a9
 ·rw[if_pos hq,if_pos (by simp[hq]),List.idxOf_append,if_pos hq]
 rw[if_neg hq,if_neg (by simp[hq,e])]
theorem bN {P:Program}{w:World}{ops:Array Oper}{a8:List Oper}{o:Oper}{a:Act}{Q:Exit->Act->World->Prop}(a7:o.guard=none)(l c:Operand)(t:TypeId)(ho:o.op=.makeSlice t l c){e:TypeId}{z:Value}{a9:Nat}(E:ElemOk P t e z a9)(hz:z.cells=#[z])(kl kc:IntKind)(L C:Int)(n:Nat)(hl:a.eval l=.int kl L)(hc:a.eval c=.int kc C)(hL:L=(n:Int))(hC:C=(n:Int))(hb:a9*n<=281474976710656)(a6:n<=maxLen)(h:∀w',w'.ownsRow w.heap.size e 1 (.slice (some ⟨w.heap.size,0,none⟩) n n) n (List.replicate n z)->w.grownBy w' none->w.heap.size<w'.heap.size->wpList P ops Q a8 (a.put o.dst (.slice (some ⟨w.heap.size,0,none⟩) n n)) w'):wpList P ops Q (o::a8) a w:=by
 obtain⟨i,hi,h1,h2,h3⟩:=info_parts E.hi;refine wpList_make_full w a7 l c t ho w.heap.size e i z 1 E.ht hi h1 h2 kl kc L C n hl hc hL hC (by rw[h3];exact hb) a6 (Nat.le_refl _) ?_;intro w' h0 hg;have ha:=Arr.of_owns h0;rw[pL hz]at h0;exact h w' h0 hg ha.lt
end Go.Proofs.Ytobakifdllameaa
namespace Go.Proofs.Ytobakifdllameaa
open Go.RowKit
def zb (l:List Nat):List Int:=l.map fun(x:Nat)=>(x:Int)
def txtT (f:List Nat):ByteArray:=strOfNums (zb f)
theorem qIQ (l:List Nat):(zb l).length=l.length:=by simp[zb]
def u8s (l:List Nat):List Value:=(zb l).map (Value.int .u8)
theorem cK (l:List Nat):(u8s l).length=l.length:=by simp[u8s,zb]
theorem qQM (l:List Nat)(i x:Nat):(u8s l).set i (.int .u8 (x:Int))=u8s (l.set i x):=by simp[u8s,zb,List.map_set]
theorem aF (n:Nat):u8s (List.replicate n 0)=List.replicate n (.int .u8 0):=by simp[u8s,zb]
theorem qMS {w:World}{g:Nat}{l:List Nat}(h:Arr w g 5 (u8s l))(i:Nat)(hi:i<l.length):w.cell? ⟨g,i,none⟩=some (.int .u8 ((l.getD i 0:Nat):Int)):=by
 rw[h.cell i (by rw[cK];exact hi),zK hi];simp[u8s,zb]
theorem qSD {f g:List Nat}(hf:∀x∈f,x<256)(hg:∀x∈g,x<256)(h:txtT f=txtT g):f=g:=by
 have h1:(zb f).map (fun n=>UInt8.ofNat n.toNat)=(zb g).map (fun n=>UInt8.ofNat n.toNat):=by
  have:=congrArg (fun s:ByteArray=>s.data.toList) h;simpa [txtT,strOfNums] using this
 simp only[zb,List.map_map]at h1;refine List.ext_getElem (by have:=congrArg List.length h1;simpa using this) fun i h2 h3=>?_;have h4:=congrArg (fun l=>l[i]?) h1;simp only[List.getElem?_map,List.getElem?_eq_getElem h2,List.getElem?_eq_getElem h3,Option.map_some,Option.some.injEq,Function.comp,Int.toNat_natCast]at h4;have h5:=congrArg UInt8.toNat h4;have h6:=hf _ (List.getElem_mem h2);have h7:=hg _ (List.getElem_mem h3);simp only[UInt8.toNat_ofNat']at h5;omega
theorem aI (x n:Int)(hn:1<=n):-n<x.tmod n/\x.tmod n<n:=by
 constructor
 ·by_cases h:0<=x
  ·have:=Int.tmod_nonneg n h;omega
  have h1:=Int.tmod_lt_of_pos (-x) (show (0:Int)<n by omega);rw[Int.neg_tmod]at h1;omega
 exact Int.tmod_lt_of_pos x (by omega)
def modI (x n:Int):Int:=if n<1 then 0 else if x.tmod n<0 then x.tmod n+n else x.tmod n
theorem qEB (x n:Int):0<=modI x n:=by
 unfold modI;split
 ·omega
 have:=aI x n (by omega);split<;>omega
theorem qRG (x n:Int)(h:1<=n):modI x n<n:=by
 have:=aI x n h;unfold modI;rw[if_neg (by omega)];split<;>omega
theorem qKS (x n:Int)(h:n<1):modI x n=0:=by
 unfold modI;rw[if_pos h]
theorem qKR (x n:Int)(w:World)(hn:n<=9223372036854775807):Calls Try.prog 17 #[.int .i64 x,.int .i64 n] w fun e w'=>e=.returned (.int .i64 (modI x n))/\w=w':=by
 by_cases h1:n<1
 ·go_enter Try.func17,Try.ntmps17
  go_wp2;go_ret;exact⟨xH (qKS x n (by omega)).symm,rfl⟩
 have h2:=(aI x n (by omega)).1;have h0:=(aI x n (by omega)).2;go_enter Try.func17,Try.ntmps17;go_wp2
 all_goals (go_ret;exact⟨xH (by unfold modI;rw[if_neg (by omega)];first|rw[if_pos (by omega)]|rw[if_neg (by omega)]),rfl⟩)
def tN (B:Nat)(w:World)(tb:Nat):Prop :=
 ∃(sl:Value) (zs:List Int) (n:Nat),w.heap[tb]?=some (.cells #[sl,.int .i64 n] 51 (0,0))/\Row B w sl (zs.map (Value.int .i64))/\B<=tb/\n<=zs.length
theorem tN.lt {B:Nat}{w:World}{tb:Nat}(h:tN B w tb):tb<w.heap.size:=by
 obtain⟨_,_,_,h,_⟩:=h;exact(Array.getElem?_eq_some_iff.1 h).1
theorem tN.ge {B:Nat}{w:World}{tb:Nat}(h:tN B w tb):B<=tb:=by
 obtain⟨_,_,_,_,_,h,_⟩:=h;exact h
theorem tN.kept {B:Nat}{w w':World}{tb:Nat}{row:Option Nat}(h:tN B w tb)(hg:w.grownBy w' row)(hr:∀k,row=some k->B<=k/\k≠tb):tN B w' tb:=by
 have hl:=h.lt;obtain⟨sl,zs,n,h1,h2,h3,h4⟩:=h;exact⟨sl,zs,n,(hg.block tb hl (fun e=>(hr tb e.symm).2 rfl)).trans h1,h2.kept hg (fun k e=>(hr k e).1),h3,h4⟩
theorem tN.of_heap {B:Nat}{w w':World}{tb:Nat}(h:tN B w tb)(e:w'.heap=w.heap):tN B w' tb:=by
 obtain⟨sl,zs,n,h1,h2,h3,h4⟩:=h;exact⟨sl,zs,n,by rw[e];exact h1,h2.of_heap e,h3,h4⟩
theorem qIY {B:Nat}{w:World}{tb:Nat}{sl:Value}{zs:List Int}{n:Nat}(h1:w.heap[tb]?=some (.cells #[sl,.int .i64 n] 51 (0,0)))(h2:Row B w sl (zs.map (Value.int .i64)))(h3:B<=tb)(h4:n<zs.length):
  tN B (w.setCell ⟨tb,1,none⟩ (.int .i64 ((n:Int)+1))) tb :=
 ⟨sl,zs,n+1,heap_setCell_same w tb 1 _ _ _ h1,h2.kept (zF w ⟨tb,1,none⟩ _) (by simp;omega),h3,h4⟩
def qUS (B tb:Nat)(w:World)(n:Int)(e:Ending)(w':World):Prop :=
 ∃r:Int,e=.returned (.int .i64 r)/\0<=r/\(1<=n->r<n)/\tN B w' tb/\w.grownBy w' (some tb)
theorem kB (B tb:Nat)(w:World)(n:Int)(hn:n<=9223372036854775807)(hT:tN B w tb):Calls Try.prog 7 #[.pointer (some ⟨tb,0,none⟩),.int .i64 n] w (qUS B tb w n):=by
 have HT:=Kh hT;obtain⟨sl,zs,at_,h0,h1,hB,h3⟩:=hT;have c0:w.cell? ⟨tb,0,none⟩=some sl:=by rw[cell_of_row w tb 0 _ _ _ h0];rfl
 have c1:w.cell? ⟨tb,1,none⟩=some (.int .i64 at_):=by rw[cell_of_row w tb 1 _ _ _ h0];rfl
 have f1:w.frozen? ⟨tb,1,none⟩=false:=frozen_of_row w tb 1 _ _ h0;rcases h1 with ⟨sa,sc,rfl,hz⟩|⟨b,off,cap,rfl,hbB,hlc,hcm,hra⟩
 ·have HR:=Kh hz;have:zs=[]:=by simpa using hz
  subst this;have:at_=0:=by simpa using h3
  subst this;clear h0 hz;go_enter Try.func7,Try.ntmps7;go_wp2
  go_quiet (fail)
  go_wp2;go_ret;exact⟨0,rfl,by omega,by omega,HT.out.kept (zT _ _ none) (by simp),zT _ _ _⟩
 rw[List.length_map]at hlc c0;by_cases hlt:at_<zs.length
 ·have hc:=hra.2 at_ (by simpa using hlt)
  have h4:b≠tb:=(by omega);have h2:zs.length<=9223372036854775807:=by unfold maxLen at hcm;omega
  simp only[List.getElem_map]at hc;have HB:=Kh h0;have HR:=Kh hra;clear h0 hra;go_enter Try.func7,Try.ntmps7;go_wp2
  go_quiet (fail)
  go_wp2;have e1:IntKind.i64.wrap (at_:Int)=at_:=IntWalk.i64_in _ (by omega);have e2:(at_:Int)<zs.length:=by omega
  go_quiet ((go_at_call 17;first|exact qHE (qKR _ _ _ hn)|exact dO (qKR _ _ _ hn)))
  go_wp2;go_ret;refine⟨modI zs[at_] n,rfl,qEB _ _,qRG _ _,?_,?_⟩
  ·exact tN.of_heap (qIY HB.out (.inr ⟨b,off,cap,by rw[List.length_map],hbB,by simpa using hlc,hcm,HR.out⟩) hB hlt) rfl
  exact wV (zF w ⟨tb,1,none⟩ _) rfl rfl rfl rfl
 have h2:zs.length<=9223372036854775807:=by unfold maxLen at hcm;omega
 clear h0 hra;go_enter Try.func7,Try.ntmps7;go_wp2
 go_quiet (fail)
 go_wp2;go_ret;exact⟨0,rfl,by omega,by omega,HT.out.kept (zT _ _ none) (by simp),zT _ _ _⟩
def qMH (B:Nat)(w:World)(e:Ending)(w':World):Prop :=
 e=.returned (.pointer (some ⟨w.heap.size,0,none⟩))/\tN B w' w.heap.size/\w.grownBy w' none
theorem qAH {B:Nat}{w:World}{sl:Value}{zs:List Int}(h:Row B w sl (zs.map (Value.int .i64)))(hB:B<=w.heap.size):
  qMH B w (.returned (.pointer (some ⟨w.heap.size,0,none⟩))) (w.alloc (.cells #[sl,.int .i64 0] 51)) :=
 ⟨rfl,⟨sl,zs,0,heap_alloc_new w _,h.kept (Ga w _ none) (by simp),hB,Nat.zero_le _⟩,Ga w _ none⟩
theorem Row.cut {B:Nat}{w:World}{b off cap:Nat}{xs:List Value}(n:Nat)(hn:n<=xs.length)(hb:b<B)(hc:xs.length<=cap)(hm:cap<=maxLen)(h:uF w b off xs):
  Row B w (.slice (some ⟨b,off,none⟩) n cap) (xs.take n) :=
 .inr ⟨b,off,cap,by rw[List.length_take,Nat.min_eq_left hn],hb,by rw[List.length_take];omega,hm,h.1,fun i hi=>by
  rw[List.length_take]at hi
  rw[h.2 i (by omega),List.getElem_take]⟩
theorem qKL (B:Nat)(w:World)(sl:Value)(zs:List Int)(h:Row B w sl (zs.map (Value.int .i64)))(hB:B<=w.heap.size):Calls Try.prog 6 #[sl] w (qMH B w):=by
 have HH:=Kh h;rcases h with ⟨sa,sc,rfl,hz⟩|⟨b,off,cap,rfl,hbB,hlc,hcm,hra⟩
 ·have HZ:=Kh hz;clear hz
  go_enter Try.func6,Try.ntmps6;go_wp2;go_ret;exact qAH HH.out hB
 rw[List.length_map]at *;have h0:cap<=9223372036854775807:=by unfold maxLen at hcm;omega
 by_cases h80:80<zs.length
 ·go_enter Try.func6,Try.ntmps6
  go_wp2;go_ret;refine qAH (zs:=zs.take 80) ?_ hB;rw[List.map_take];exact Row.cut 80 (by simp;omega) hbB (by simpa using hlc) hcm hra
 go_enter Try.func6,Try.ntmps6;go_wp2;go_ret;exact qAH HH.out hB
theorem qLO:ElemOk Try.prog 30 5 (.int .u8 0) 1:=⟨Try.underlying30,by kernel_rfl,rfl⟩
def qNI (letters:Int)(n:Int):Prop:=97<=n/\n<97+letters
def qTJ (B tb:Nat)(w:World)(letters most:Int)(e:Ending)(w':World):Prop :=
 ∃l:List Int,e=.returned (.string (strOfNums l))/\(l.length:Int)<=most/\(∀n∈l,qNI letters n)/\tN B w' tb/\w.grownBy w' (some tb)
theorem qMM (B tb:Nat)(w:World)(a9 a8:Int)(h1:1<=a9)(h6:a9<=6)(h0:0<=a8)(hm:a8<=1000)(hT:tN B w tb):Calls Try.prog 9 #[.pointer (some ⟨tb,0,none⟩),.int .i64 a9,.int .i64 a8] w (qTJ B tb w a9 a8):=by
 have H8:=hT.lt;go_enter Try.func9,Try.ntmps9;go_wp2_with fail;refine(kB B tb _ _ (by omega) hT).mono ?_;rintro e w1 ⟨r,rfl,H3,H2,H7,H6⟩;replace H2:=H2 (by omega);go_wp2
 go_loopw [7,8] (fun v i wr=>∃(sa:Option Addr) (sc:Nat) (l:List Int) (r:Int),v=.slice sa l.length sc/\i=.int .i64 r/\0<=r/\(l.length:Int)+r<=a8/\wr.ownsRow w.heap.size 5 1 (.slice sa l.length sc) l.length (l.map (Value.int .u8))/\(∀n∈l,qNI a9 n)/\tN B wr tb/\w.grownBy wr (some tb))
  (fun _ i _=>(intOf i).toNat)
 case atStart=>exact⟨none,0,[],r,rfl,rfl,H3,by simp;omega,World.ownsRow_nil _ _ _ _,by simp,H7,H6⟩
 clear H7 H6;obtain⟨sa,sc,l,r,rfl,rfl,H3,a5,h4,H4,h9,h7⟩:=hrel;have a4:=h7.size;by_cases hp:0<r
 ·go_wp2_with fail
  refine(kB B tb _ _ (by omega) h9).mono ?_;rintro e w2 ⟨x,rfl,a3,H0,a2,h8⟩;replace H0:=H0 (by omega);have h2:=wI h4 h8 (by simpa using H8);have H9:=h8.size;go_wp2_with (at_builtin;refine app1 rfl _ _ _ rfl qLO w.heap.size _ l.length (l.map (Value.int .u8)) rfl h2 _ rfl rfl ?c1 ?c2 ?c3 ?_)
  case c1=>unfold maxLen;omega
  case c2=>omega
  case c3=>omega
  intro sa' sc' w3 h3 H5 a1;have h5:(l++[97+x]).length=l.length+1:=by simp
  have hb:=fun k (e:(Value.slice sa l.length sc).ownBlock=some k)=>(h2.lt k e).1;go_wp2;go_roundw
  case rel =>
   refine⟨sa',sc',l++[97+x],r-1,by rw[h5],by go_num,by omega,by omega,?_,?_,a2.kept H5 ?_,?_⟩
   ·rw[h5,List.map_append];exact h3
   ·intro n hn
    rcases List.mem_append.1 hn with hn|hn
    ·exact H4 n hn
    simp at hn;subst hn;exact⟨by omega,by omega⟩
   ·intro k e;have:=hb k e;have:=h9.ge;omega
   exact mC (zH h7 h8) H5 (.inr (.inl rfl)) (by
    rcases hv:(Value.slice sa l.length sc).ownBlock with _|k
    ·exact .inl rfl
    exact .inr (.inr ⟨k,rfl,hb k hv⟩))
  simp[intOf];omega
 have H1:=fun dst hd=>aQ (P:=Try.prog) 30 5 Try.underlying30 Try.underlying5 dst hd h4;have a0:=H1 9 Try.underlying9;clear H1;go_wp2;go_ret;exact⟨l,rfl,by omega,H4,h9,h7⟩
open Go.Maps
theorem jD (B:Nat)(w:World)(v:Value)(f:List Nat)(n:Nat)(h:Row B w v (nats f))(hf:IsT n f)(h1:1<=n)(a9:n<=32):Calls Try.prog 90 #[v] w fun e w'=>e=.returned (.bool true)/\w=w':=by
 obtain⟨b,off,cap,rfl,_,h4,h3,h2⟩:=h.some_ (by rw[zR,hf.1];omega);have h7:cap<=9223372036854775807:=by unfold maxLen at h3;omega
 rw[zR,hf.1]at h4⊢;have h5:=Kh h2;have HF:=Kh hf;clear h hf h2 h3;go_enter Try.func90,Try.ntmps90;go_wp2
 go_loopg [4,15] n (fun gh a4 i wr=>∃k:Nat,gh+k=n/\i=.int .i64 k/\w=wr)
 case atStart=>exact⟨0,rfl,rfl,rfl⟩
 obtain⟨k,hg,rfl,rfl⟩:=hrel;have HG:=Kh hg;clear hg;by_cases hk:k<n
 ·have ck:=h5.out.nat k (by rw[HF.out.1];exact hk)
  have hx:=HF.out.get hk;obtain⟨x,h0⟩:=Nm (f.getD k 0);rw[<-h0]at ck hx;have h6:(x:Int)<n:=(by omega);clear h0;go_wp2;go_roundg (n-(k+1))
  case measure=>have:=HG.out;omega
  exact⟨k+1,by omega,by go_num,rfl⟩
 go_wp2;go_ret;exact⟨rfl,rfl⟩
theorem qHI (w:World)(n:Nat)(h1:1<=n)(a9:n<=32):Calls Try.prog 92 #[.int .i64 (n:Int)] w (qFG w (List.range n)):=by
 go_enter Try.func92,Try.ntmps92;go_wp2_with (first|(at_make;refine qV rfl _ _ _ rfl yJ rfl .i64 .i64 _ _ n rfl rfl rfl rfl ?b1 ?b2 ?_;(case b1=>omega);(case b2=>(unfold maxLen;omega));intro w2 h0 h5 H0)|fail);have h9:=Kh h0;have h8:=Kh h5;clear h0 h5
 go_loopg [4,15] n (fun gh a4 i wr=>∃k:Nat,gh+k=n/\i=.int .i64 k/\Arr wr w.heap.size 3 (nats (wW (List.range n) k))/\w.grownBy wr none)
 case atStart=>exact⟨0,rfl,rfl,by rw[uW,List.length_range,yS];exact h9.out,h8.out⟩
 clear h9 h8;obtain⟨k,hg,rfl,h0,h4⟩:=hrel;obtain⟨HG,HA,h6⟩:=K3 hg h0 h4;clear hg h4;by_cases hk:k<n
 ·have H1:(k:Int)<n:=by omega
  have cgk:=h0.nat k (by rw[yV (by simp;omega)];simpa using hk);have fgk:=h0.frozen k;have h2:=tR (l:=List.range n) (k:=k) (by simpa using hk);rw[show (List.range n).getD k 0=k from by rw[zK (by simpa using hk)];simp]at h2;have HS:=Kh h2;clear h2 h0;go_wp2;go_roundg (n-(k+1))
  case measure=>have:=HG.out;omega
  refine⟨k+1,by omega,by go_num,?_,zC h6.out (zF wr ⟨w.heap.size,k,none⟩ _) (fun q e=>by have h7:w.heap.size=q:=Oj e;omega)⟩;rw[<-HS.out];exact HA.out.nat_set k (by rw[yV (by simp;omega)];simpa using hk) k
 have h3:k=n:=by have:=HG.out;omega
 have HE:Hid (wW (List.range n) k=List.range n):=Kh (by have:=tS (List.range n);rw[List.length_range]at this;rw[h3];exact this);clear h3 h0;go_wp2;go_ret;refine⟨w.heap.size,by rw[List.length_range];rfl,Nat.le_refl _,?_,h6.out⟩;rw[<-HE.out];exact HA.out
theorem qBY (B C:Nat)(w:World)(va vb:Value)(f g:List Nat)(n:Nat)(hB:B<=w.heap.size)(hC:C<=w.heap.size)(ha:Row B w va (nats f))(hb:Row C w vb (nats g))(hf:IsT n f)(hg:IsT n g)(h1:1<=n)(a9:n<=32):Calls Try.prog 94 #[va,vb] w (qFG w (wK f g)):=by
 have h6:=Kh (jD B w va f n ha hf h1 a9);have h5:=Kh (jD C w vb g n hb hg h1 a9);obtain⟨va',vc,rfl⟩:=ha.shape;obtain⟨vb',vd,rfl⟩:=hb.shape;rw[zR,hf.1]at ha h6⊢;rw[zR,hg.1]at hb h5⊢;obtain⟨HA,HB,HF,H4⟩:=K4 ha hb hf hg;have e1:((n:Int) != (n:Int))=false:=by simp
 clear ha hb hf hg;go_enter Try.func94,Try.ntmps94;go_wp2_with fail;refine h6.out.mono ?_;rintro e w1 ⟨rfl,rfl⟩;go_wp2_with fail;refine h5.out.mono ?_;rintro e w1 ⟨rfl,rfl⟩;clear h6 h5;go_wp2_with (first|(at_make;refine qV rfl _ _ _ rfl yJ rfl .i64 .i64 _ _ n rfl rfl rfl rfl ?b1 ?b2 ?_;(case b1=>omega);(case b2=>(unfold maxLen;omega));intro w2 h0 H3 H9)|fail);have H8:=Kh h0;have H6:=Kh H3;clear h0 H3;have h4:(wK f g).length=n:=by rw[rD,HF.out.1]
 go_loopg [6,7,28] n (fun gh a6 a7 i wr=>∃k:Nat,gh+k=n/\i=.int .i64 k/\Arr wr w.heap.size 3 (nats (wW (wK f g) k))/\w.grownBy wr none)
 case atStart=>exact⟨0,rfl,rfl,by rw[uW,h4,yS];exact H8.out,H6.out⟩
 clear H8 H6;obtain⟨k,hg,rfl,h0,h3⟩:=hrel;obtain⟨HG,H7,H5⟩:=K3 hg h0 h3;clear hg;by_cases hk:k<n
 ·have a1:(k:Int)<n:=by omega
  obtain⟨ib,io,ic,e,_,a5,a4,H1⟩:=(HA.out.kept h3 (by simp)).some_ (by rw[zR,HF.out.1];omega);simp only[Value.slice.injEq]at e;obtain⟨rfl,-,rfl⟩:=e;obtain⟨jb,jo,jc,e,_,a3,a2,H0⟩:=(HB.out.kept h3 (by simp)).some_ (by rw[zR,H4.out.1];omega);simp only[Value.slice.injEq]at e;obtain⟨rfl,-,rfl⟩:=e;have ca:=H1.nat k (by rw[HF.out.1];exact hk);have hx:=HF.out.get hk;have cb:=H0.nat (f.getD k 0) (by rw[H4.out.1];exact hx);have cgk:=h0.nat k (by rw[yV (by omega)];omega);have fgk:=h0.frozen k;have h2:=tR (l:=wK f g) (k:=k) (by omega);rw[iL (by rw[HF.out.1];exact hk)]at h2;obtain⟨x,h9⟩:=Nm (f.getD k 0);rw[<-h9]at ca cb hx h2;obtain⟨y,h8⟩:=Nm (g.getD x 0);rw[<-h8]at cb h2;have a0:(x:Int)<n:=(by omega);have HS:=Kh h2;clear h2 h0 h3 H1 H0 h9 h8;go_wp2;go_roundg (n-(k+1))
  case measure=>have:=HG.out;omega
  refine⟨k+1,by omega,by go_num,?_,zC H5.out (zF wr ⟨w.heap.size,k,none⟩ _) (fun q e=>by have h7:w.heap.size=q:=Oj e;omega)⟩;rw[<-HS.out];exact H7.out.nat_set k (by rw[yV (by omega)];omega) y
 have H2:k=n:=by have:=HG.out;omega
 have HE:Hid (wW (wK f g) k=wK f g):=Kh (by rw[H2,<-h4];exact tS _);clear H2 h0 h3;go_wp2;go_ret;refine⟨w.heap.size,by rw[h4];rfl,Nat.le_refl _,?_,H5.out⟩;rw[<-HE.out];exact H7.out
theorem eN (B:Nat)(w:World)(v:Value)(f:List Nat)(n:Nat)(hB:B<=w.heap.size)(h:Row B w v (nats f))(hf:IsT n f)(h1:1<=n)(a9:n<=32):Calls Try.prog 93 #[v] w fun e w'=>e=.returned (.string (txtT f))/\w.grownBy w' none:=by
 obtain⟨b,off,cap,rfl,hb,H8,H2,h8⟩:=h.some_ (by rw[zR,hf.1];omega);have a0:cap<=9223372036854775807:=by unfold maxLen at H2;omega
 rw[zR,hf.1]at H8⊢;have H9:=Kh h8;have HF:=Kh hf;have H1:f.length=n:=hf.1;have h2:=Kh H1;clear h hf h8 H2 H1;go_enter Try.func93,Try.ntmps93;go_wp2_with (first|(at_make;refine qV rfl _ _ _ rfl qLO rfl .i64 .i64 _ _ n rfl rfl rfl rfl ?b1 ?b2 ?_;(case b1=>omega);(case b2=>(unfold maxLen;omega));intro w2 h0 H0 H6)|fail);have H5:=Kh h0;have H4:=Kh H0;clear h0 H0
 go_loopg [4,5,11] n (fun gh a4 a5 i wr=>∃k:Nat,gh+k=n/\i=.int .i64 k/\Arr wr w.heap.size 5 (u8s (wW f k))/\w.grownBy wr none)
 case atStart=>exact⟨0,rfl,rfl,by rw[uW,h2.out,aF];exact H5.out,H4.out⟩
 clear H5 H4;obtain⟨k,hg,rfl,h0,h4⟩:=hrel;obtain⟨HG,h5,H3⟩:=K3 hg h0 h4;clear hg;by_cases hk:k<n
 ·have a1:(k:Int)<n:=by omega
  have ca:=(H9.out.kept h4 (by simp)).nat k (by rw[h2.out];exact hk);have hx:=HF.out.get hk;have cgk:=qMS h0 k (by rw[yV (by have:=h2.out;omega)];have:=h2.out;omega);have fgk:=h0.frozen k;have h3:=tR (l:=f) (k:=k) (by have:=h2.out;omega);obtain⟨x,h6⟩:=Nm (f.getD k 0);rw[<-h6]at ca hx h3;have a2:IntKind.u8.wrap (x:Int)=x:=IntWalk.u8_in _ (by omega);have HS:=Kh h3;clear h3 h0 h4 h6;go_wp2;go_roundg (n-(k+1))
  case measure=>have:=HG.out;omega
  refine⟨k+1,by omega,by go_num,?_,zC H3.out (zF wr ⟨w.heap.size,k,none⟩ _) (fun q e=>by have h7:w.heap.size=q:=Oj e;omega)⟩;rw[<-HS.out,<-qQM];exact h5.out.set k (by rw[cK,yV (by have:=h2.out;omega)];have:=h2.out;omega) _
 have h9:k=n:=by have:=HG.out;omega
 have HE:Hid (wW f k=f):=Kh (by rw[h9,<-h2.out];exact tS _);rw[HE.out]at h5;have H7:=aR 30 5 Try.underlying30 Try.underlying5 9 Try.underlying9 n n (by rw[qIQ];exact h2.out) h5.out;obtain⟨X,hX⟩:=Nm (txtT f);rw[show strOfNums (zb f)=X from hX.symm]at H7;have HX:=Kh hX;clear h9 h0 h4 hX;go_wp2;go_ret;exact⟨by rw[HX.out];rfl,H3.out⟩
theorem qQN {n:Nat}{f:List Nat}(h:IsT n f):(txtT f).size=n:=by
 have:(txtT f).size=(txtT f).data.toList.length:=by rw[Array.length_toList];rfl
 rw[this];unfold txtT;rw[strOfNums_data];simp[zb,h.1]
theorem aJ {n:Nat}(a9:n<=32):KeyK 112 9 (IsT n) (fun f=>.string (txtT f)) where
 key:=gH
 und:=mX
 of:=fun a ha=>by rw[Go.WideMaps.keyOf_string_mk mS (by rw[qQN ha];unfold maxLen;omega)];rfl
 inj:=fun a b ha hb e=>qSD (fun x hx=>by have:=ha.2 x hx;omega) (fun x hx=>by have:=hb.2 x hx;omega) (by simpa using e)
inductive RunS (w0 : World)(B o n k m d s ub : Nat)(sG : Option Addr)(cG : Nat)(hsG : List Value)(gs els : List (List Nat))(pre las : List Int)(right : List (List Nat))(beh : List Int)(sgl : List Nat)(tl : List RowS)(w : World): Prop
 | mk (X : Nat → Prop) (mb u : Nat) (us hsE hsR : List Value) (ws : List ByteArray) (sE sP sL sR sU sW sB sS : Option Addr) (cE cP cL cR cU cW cB cS : Nat)
  (hB : BoxS B X o 114 w0 w (⟨B, 22, .slice sE m cE, m, hsE, 1⟩ :: ⟨B, 3, .slice sP m cP, m, ints pre, 1⟩ :: ⟨B, 3, .slice sL m cL, m, ints las, 1⟩ :: ⟨B, 22, .slice sR d cR, d, hsR, 1⟩ :: ⟨B, 135, .slice sU u cU, u, us, 2⟩ :: ⟨B, 9, .slice sW m cW, m, yZ ws, 1⟩ :: ⟨B, 3, .slice sB m cB, m, ints beh, 1⟩ :: ⟨B, 3, .slice sS s cS, s, nats sgl, 1⟩ :: ⟨B, 22, .slice sG k cG, k, hsG, 1⟩ :: tl)
   #[.int .i64 (n : Int), .bool true, .slice sG k cG, .slice sE m cE, .slice sP m cP, .slice sL m cL, .slice sR d cR, .slice sU u cU, .int .i64 (d : Int), .map (some mb), .slice sW m cW, .slice sB m cB, .slice sS s cS] w)
  (hE : xW X 3 nats w hsE els) (hR : xW X 3 nats w hsR right) (hG : xW X 3 nats w hsG gs)
  (hM : ∃ c, MapK 9 (IsT n) (fun f => .string (txtT f)) w mb m c (numE els)) (hmx : ¬ X mb) (hmb : w0.heap.size ≤ mb)
  (hl : els.length = m ∧ pre.length = m ∧ las.length = m ∧ ws.length = m ∧ beh.length = m ∧ right.length = d ∧ sgl.length = s ∧ gs.length = k)
  (hit : ∀ f ∈ els, IsT n f) (hw : ∀ i, (ws.getD i ⟨#[]⟩).size ≤ i) (hu : u ≤ ub)
theorem cY {X:Nat->Prop}{w:World}{hs:List Value}{ts:List (List Nat)}(h:xW X 3 nats w hs ts){i j:Nat}(hi:i<ts.length)(hj:j<(ts.getD i []).length):∃b off cap,hs[i]?=some (.slice (some ⟨b,off,none⟩) (ts.getD i []).length cap)/\(ts.getD i []).length<=cap/\cap<=maxLen/\w.cell? ⟨b,off+j,none⟩=some (.int .i64 (((ts.getD i []).getD j 0:Nat):Int)):=by
 have h0:i<hs.length:=by rw[h.1];exact hi
 have h1:=(h.2 i h0 hi).row;rw[show ts[i]=ts.getD i [] from (zK hi).symm]at h1;obtain⟨b,off,cap,e,_,h2,h4,h3⟩:=h1.some_ (by rw[zR];omega);rw[zR]at e h2;exact⟨b,off,cap,by rw[List.getElem?_eq_getElem h0,e],h2,h4,h3.nat j hj⟩
theorem pR {w:World}{g i:Nat}{e:TypeId}{xs:List Value}{v:Value}(h:Arr w g e xs)(hv:xs[i]?=some v):w.cell? ⟨g,i,none⟩=some v:=by
 obtain⟨hi,e⟩:=List.getElem?_eq_some_iff.1 hv;rw[h.cell i hi,e]
theorem qEL {w:World}{g i:Nat}{e:TypeId}{l:List Int}(h:Arr w g e (ints l))(hi:i<l.length):w.cell? ⟨g,i,none⟩=some (.int .i64 (l.getD i 0)) :=
 pR h (by simp[ints,List.getElem?_eq_getElem hi,zK hi])
def lL (sgl:List Nat)(right:List (List Nat))(i:Int)(x:Nat):Nat:=if i = -1 then sgl.getD x 0 else (right.getD i.toNat []).getD x 0
def qFI (s d:Nat)(right:List (List Nat))(i:Int)(x:Nat):Prop:=(i = -1/\x<s)\/(0<=i/\i<d/\x<(right.getD i.toNat []).length)
section
variable {w0 w:World} {B o n k m d s ub:Nat} {sG:Option Addr} {cG:Nat} {hsG:List Value} {gs els right:List (List Nat)} {pre las beh:List Int} {sgl:List Nat} {tl:List RowS}
theorem qNG (h:RunS w0 B o n k m d s ub sG cG hsG gs els pre las right beh sgl tl w)(hm:m<=4000):Calls Try.prog 71 #[.pointer (some ⟨o,0,none⟩)] w fun e w'=>e=.returned (.bool (decide (d=m)))/\∃q,w'=w.drewN q:=by
 obtain⟨X0,mb,u,us,h2,h1,ws,sE,sP,sL,sR,sU,sW,sB,sS,cE,cP,cL,cR,cU,cW,cB,cS,hB,hE,hR,hG,⟨c,hM⟩,h3,h4,hl,h0,hw,hu⟩:=h;have q3:=zG hB.box 3;simp only[List.getElem_toArray,List.getElem_cons_zero,List.getElem_cons_succ]at q3;have q8:=zG hB.box 8;simp only[List.getElem_toArray,List.getElem_cons_zero,List.getElem_cons_succ]at q8;obtain⟨b,hb⟩:=Nm (decide (d=m))
 have h5:((d:Int) == (m:Int))=b:=by
  rw[hb];by_cases e:d=m
  ·simp[e]
  rw[decide_eq_false e,beq_eq_false_iff_ne];omega
 rw[<-hb];clear hB hE hR hG hM hl h0 hw hb;go_enter Try.func71,Try.ntmps71;go_wp2_with fail
 go_quiet (fail)
 go_wp2;go_ret;exact⟨rfl,_,rfl⟩
theorem bG (h:RunS w0 B o n k m d s ub sG cG hsG gs els pre las right beh sgl tl w)(i:Int)(x:Nat)(hx:qFI s d right i x):Calls Try.prog 95 #[.pointer (some ⟨o,0,none⟩),.int .i64 i,.int .i64 (x:Int)] w fun e w'=>e=.returned (.int .i64 ((lL sgl right i x:Nat):Int))/\w'=w:=by
 obtain⟨X0,mb,u,us,H8,H2,ws,sE,sP,sL,sR,sU,sW,sB,sS,cE,cP,cL,cR,cU,cW,cB,cS,hB,hE,hR,hG,⟨c,hM⟩,H9,a0,hl,h9,hw,hu⟩:=h;have q6:=zG hB.box 6;simp only[List.getElem_toArray,List.getElem_cons_zero,List.getElem_cons_succ]at q6;have q12:=zG hB.box 12;simp only[List.getElem_toArray,List.getElem_cons_zero,List.getElem_cons_succ]at q12;have h6:=hB.own (r:=⟨B,3,.slice sS s cS,s,nats sgl,1⟩) (by simp);have h7:=hB.own (r:=⟨B,22,.slice sR d cR,d,H2,1⟩) (by simp);simp only at h6 h7;rcases hx with ⟨rfl,hx⟩|⟨h0,h1,h2⟩
 ·obtain⟨kb,rfl,H7,h5,h3⟩:=xI h6 (by omega)
  have H4:sgl.length=s:=hl.2.2.2.2.2.2.1;have cx:=h3.nat x (by omega);obtain⟨y,hy⟩:=Nm (lL sgl right (-1) x);have h4:sgl.getD x 0=y:=by rw[hy,lL,if_pos rfl]
  rw[h4]at cx;rw[<-hy];have H1:(x:Int)<s:=by omega
  have h8:cS<=9223372036854775807:=by unfold maxLen at h5;omega
  clear hB hE hR hG hM hl h9 hw hy h4 h6 h7 h3 h5 H4;go_enter Try.func95,Try.ntmps95;go_wp2;go_ret;exact⟨rfl,rfl⟩
 obtain⟨j,rfl⟩:∃j:Nat,i=(j:Int):=⟨i.toNat,by omega⟩;rw[Int.toNat_natCast]at h2;have hj:j<d:=by omega
 obtain⟨kb,rfl,H7,h5,h3⟩:=xI h7 (by omega);have H5:right.length=d:=hl.2.2.2.2.2.1;obtain⟨b,off,cap,hv,H6,H0,cy⟩:=cY hR (i:=j) (j:=x) (by omega) h2;have cx:=pR h3 hv;obtain⟨y,hy⟩:=Nm (lL sgl right (j:Int) x);have h4:(right.getD j []).getD x 0=y:=by rw[hy,lL,if_neg (by omega),Int.toNat_natCast]
 rw[h4]at cy;rw[<-hy];obtain⟨L,hL⟩:=Nm ((right.getD j []).length);rw[<-hL]at cx h2 H6;have H1:(x:Int)<L:=by omega
 have a1:(j:Int)<d:=by omega
 have e1:((j:Int) == -1)=false:=by rw[beq_eq_false_iff_ne];omega
 have h8:cR<=9223372036854775807:=by unfold maxLen at h5;omega
 have H3:cap<=9223372036854775807:=by unfold maxLen at H0;omega
 clear hB hE hR hG hM hl h9 hw hy h4 h6 h7 h3 h5 H0 H5 hL hv;go_enter Try.func95,Try.ntmps95;go_wp2;go_ret;exact⟨rfl,rfl⟩
theorem qAC (h:RunS w0 B o n k m d s ub sG cG hsG gs els pre las right beh sgl tl w)(i:Int)(x:Nat)(hx:qFI s d right i x)(hq:lL sgl right i x<m)(hm:m<=4000):Calls Try.prog 96 #[.pointer (some ⟨o,0,none⟩),.int .i64 i,.int .i64 (x:Int)] w fun e w'=>∃b,e=.returned (.bool b)/\w'=w:=by
 have h9:=Kh (bG h i x hx);obtain⟨X0,mb,u,us,H4,H3,ws,sE,sP,sL,sR,sU,sW,sB,sS,cE,cP,cL,cR,cU,cW,cB,cS,hB,hE,hR,hG,⟨c,hM⟩,H7,H8,hl,H2,hw,hu⟩:=h;obtain⟨q,h4⟩:=Nm (lL sgl right i x);rw[<-h4]at hq h9;have q4:=zG hB.box 4;simp only[List.getElem_toArray,List.getElem_cons_zero,List.getElem_cons_succ]at q4;have q5:=zG hB.box 5;simp only[List.getElem_toArray,List.getElem_cons_zero,List.getElem_cons_succ]at q5;have h0:=hB.own (r:=⟨B,3,.slice sP m cP,m,ints pre,1⟩) (by simp);have h1:=hB.own (r:=⟨B,3,.slice sL m cL,m,ints las,1⟩) (by simp);simp only at h0 h1;obtain⟨pb,rfl,H6,h5,h7⟩:=xI h0 (by omega);obtain⟨lb,rfl,H9,h6,h8⟩:=xI h1 (by omega);have cp:=qEL h7 (i:=q) (by rw[hl.2.1];exact hq);have cl:=qEL h8 (i:=q) (by rw[hl.2.2.1];exact hq);obtain⟨yp,h2⟩:=Nm (pre.getD q 0);obtain⟨yl,h3⟩:=Nm (las.getD q 0);rw[<-h2]at cp;rw[<-h3]at cl;have H5:(q:Int)<m:=by omega
 have H1:cP<=9223372036854775807:=by unfold maxLen at h5;omega
 have H0:cL<=9223372036854775807:=by unfold maxLen at h6;omega
 clear hB hE hR hG hM hl H2 hw h2 h3 h0 h1 h7 h8 h4 h5 h6;go_enter Try.func96,Try.ntmps96;go_wp2_with fail;refine h9.out.mono ?_;rintro e w1 ⟨rfl,rfl⟩;go_wp2
 all_goals
  go_ret;exact⟨_,rfl,rfl⟩
end
end Go.Proofs.Ytobakifdllameaa
