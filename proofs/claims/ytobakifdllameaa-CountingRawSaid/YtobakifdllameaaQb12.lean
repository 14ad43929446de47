/- Part 12 of the proof. -/
import Derived.Test.YtobakifdllameaaQb11
import Derived.BigQuiet
set_option linter.unusedVariables false
set_option linter.unusedSimpArgs false
set_option maxRecDepth 100000
set_option maxHeartbeats 16000000
namespace Go.Proofs.Ytobakifdllameaa
theorem fD {n:Nat}{g:List Nat}(hg:IsT n g):wP (List.range n) g=g:=by
 refine List.ext_getElem (by rw[sV,List.length_range,hg.1]) fun i h1 h2=>?_;have hi:i<n:=by rw[<-hg.1];exact h2
 simp only[wP,List.getElem_map,List.getElem_range];rw[zN h2]
theorem jJ (n:Nat):IsT n (List.range n):=⟨List.length_range,fun x hx=>List.mem_range.1 hx⟩
theorem qCI {n:Nat}{f:List Nat}(hf:IsT n f):wP f (List.range n)=f:=by
 refine List.ext_getElem (by rw[sV]) fun i h1 h2=>?_;simp only[wP,List.getElem_map];have:=hf.2 _ (List.getElem_mem h2);rw[zN (by simpa using this)];simp
theorem eJ {n:Nat}{f g h:List Nat}(hf:IsT n f)(hg:IsT n g):wP (wP f g) h=wP f (wP g h):=by
 refine List.ext_getElem (by simp[sV]) fun i h1 h2=>?_;simp only[wP,List.getElem_map];have hi:i<f.length:=by simpa [wP] using h1
 have:=hf.2 _ (List.getElem_mem hi);rw[xW (x:=0) (by rw[hg.1];exact this)]
theorem jN {α:Type}{a b:List α}(h:a <+: b){i:Nat}(hi:i<a.length)(d:α):b.getD i d=a.getD i d:=by
 obtain⟨c,rfl⟩:=h;rw[List.getD_eq_getElem?_getD,List.getElem?_append_left hi,<-List.getD_eq_getElem?_getD]
theorem cK {α:Type}[BEq α][LawfulBEq α]{l:List α}{x d:α}(h:x∈l):l.getD (l.idxOf x) d=x:=by
 rw[zN (List.idxOf_lt_length_of_mem h),List.getElem_idxOf]
theorem oC {α:Type}{l:List α}(h:l.Nodup){i j:Nat}{d:α}(hi:i<l.length)(hj:j<l.length)(e:l.getD i d=l.getD j d):i=j:=by
 rw[zN hi,zN hj]at e;exact(List.getElem_inj h).1 e
structure EnI (gs:List (List Nat))(n:Nat)(el:List (List Nat))(pr la:List Int):Prop where
 l2:pr.length=el.length
 l3:la.length=el.length
 it:∀f∈el,IsT n f
 words:rR pr la el.length gs.length
 nodup:el.Nodup
 pos:0<el.length
 one:el.getD 0 []=List.range n
 val:∀i,i<el.length->(la.getD i 0<0/\i=0)\/(¬la.getD i 0<0/\el.getD i []=wP (el.getD (pr.getD i 0).toNat []) (gs.getD (la.getD i 0).toNat []))
theorem EnI.add {gs:List (List Nat)}{n d x:Nat}{el:List (List Nat)}{pr la:List Int}(h:EnI gs n el pr la)(hg:∀g∈gs,IsT n g)(hd:d<el.length)(hx:x<gs.length)(a9:wP (el.getD d []) (gs.getD x []) ∉ el):
  EnI gs n (el++[wP (el.getD d []) (gs.getD x [])]) (pr++[(d:Int)]) (la++[(x:Int)]) where
 l2:=by simp[h.l2]
 l3:=by simp[h.l3]
 it:=fun f hf=>by
  rcases List.mem_append.1 hf with hf|hf
  ·exact h.it f hf
  ·rw[List.mem_singleton]at hf;subst hf
   exact jS (h.it _ (uV hd)) (hg _ (uV hx))
 words:=by
  have:=qAD h.words h.l2 h.l3 hd hx;simpa using this
 nodup:=by
  rw[List.nodup_append];exact⟨h.nodup,by simp,fun a ha b hb=>by rw[List.mem_singleton]at hb;subst hb;exact fun e=>a9 (e ▸ ha)⟩
 pos:=by simp
 one:=by rw[xM h.pos];exact h.one
 val:=fun i hi=>by
  rcases Nat.lt_or_ge i el.length with h1|h1
  ·rw[xM (l:=la) (by rw[h.l3];exact h1),xM (l:=el) (i:=i) h1,xM (l:=pr) (by rw[h.l2];exact h1)]
   rcases h.val i h1 with h2|⟨h2,h3⟩
   ·exact .inl h2
   ·refine .inr ⟨h2,?_⟩
    rcases h.words i h1 with h4|⟨_,_,h5,h6⟩
    ·exact absurd h4 h2
    ·rw[xM (show (pr.getD i 0).toNat<el.length by omega)];exact h3
  ·have e:i=el.length:=by simp at hi;omega
   rw[wI (l:=la) (by rw[h.l3];exact e),wI (l:=el) (i:=i) e,wI (l:=pr) (by rw[h.l2];exact e)];refine .inr ⟨by omega,?_⟩;rw[Int.toNat_natCast,Int.toNat_natCast,xM (l:=el) hd]
theorem jR {gs:List (List Nat)}{n:Nat}(hg:∀g∈gs,IsT n g):∀x,x<=gs.length->EnI gs n (yN gs n x).1 (yN gs n x).2.1 (yN gs n x).2.2
 | 0,_=>by
  refine⟨rfl,rfl,fun f hf=>?_,fun i hi=>?_,by simp[yN],by simp[yN],rfl,fun i hi=>?_⟩
  ·simp only[yN,List.mem_singleton]at hf;subst hf;exact jJ n
  ·have hi:i=0:=by simp[yN]at hi;omega
   subst hi;exact .inl (by simp[yN])
  ·have hi:i=0:=by simp[yN]at hi;omega
   subst hi;exact .inl ⟨by simp[yN],rfl⟩
 | x+1,hx=>by
  have ih:=jR hg x (by omega)
  rw[yN]
  by_cases h:gs.getD x []∈(yN gs n x).1
  ·rw[if_pos h];exact ih
  ·rw[if_neg h]
   have e:wP ((yN gs n x).1.getD 0 []) (gs.getD x [])=gs.getD x []:=by
    rw[ih.one];exact fD (hg _ (uV (show x<gs.length by omega)))
   have:=ih.add (d:=0) (x:=x) hg ih.pos (by omega) (by rw[e];exact h);rw[e]at this;exact this
structure RowI (gs:List (List Nat))(n d:Nat)(s0:List (List Nat))(x:Nat)(t:List (List Nat)×List Int×List Int×List Nat):Prop where
 en:EnI gs n t.1 t.2.1 t.2.2.1
 pre:s0 <+: t.1
 len:t.2.2.2.length=x
 ent:∀a,a<x->t.2.2.2.getD a 0<t.1.length/\t.1.getD (t.2.2.2.getD a 0) []=wP (s0.getD d []) (gs.getD a [])
theorem qDC {gs:List (List Nat)}{n d:Nat}{s:List (List Nat)×List Int×List Int}(hg:∀g∈gs,IsT n g)(h:EnI gs n s.1 s.2.1 s.2.2)(hd:d<s.1.length):∀x,x<=gs.length->RowI gs n d s.1 x (rO gs d s x)
 | 0,_=>⟨h,List.prefix_refl _,rfl,fun a ha=>by omega⟩
 | x+1,hx=>by
  have ih:=qDC hg h hd x (by omega)
  rw[rO]
  obtain⟨⟨el,pr,la,ro⟩,ht⟩:∃t,t=rO gs d s x:=⟨_,rfl⟩
  rw[<-ht]at ih⊢
  obtain⟨he,hp,hl,hn⟩:=ih
  simp only at he hp hl hn
  have hdl:d<el.length:=Nat.lt_of_lt_of_le hd hp.length_le
  have hed:el.getD d []=s.1.getD d []:=jN hp hd _
  unfold eU
  simp only
  rw[hed]
  by_cases hin:wP (s.1.getD d []) (gs.getD x [])∈el
  ·rw[if_pos hin]
   refine⟨he,hp,by simp[hl],fun a ha=>?_⟩
   rcases Nat.lt_or_ge a x with h1|h1
   ·simp only;rw[xM (by rw[hl];exact h1)];exact hn a h1
   ·have:a=x:=by omega
    subst this
    simp only;rw[wI hl.symm]
    exact⟨List.idxOf_lt_length_of_mem hin,cK hin⟩
  ·rw[if_neg hin]
   refine⟨?_,hp.trans (List.prefix_append _ _),by simp[hl],fun a ha=>?_⟩
   ·have:=he.add (d:=d) (x:=x) hg hdl (by omega) (by rw[hed];exact hin)
    rw[hed]at this;exact this
   ·simp only
    rcases Nat.lt_or_ge a x with h1|h1
    ·rw[xM (by rw[hl];exact h1)]
     have:=hn a h1
     rw[xM this.1]
     exact⟨by rw[List.length_append];exact Nat.lt_of_lt_of_le this.1 (Nat.le_add_right _ _),this.2⟩
    ·have:a=x:=by omega
     subst this
     rw[wI hl.symm,wI rfl]
     exact⟨by simp,rfl⟩
theorem bU (gs:List (List Nat))(d:Nat)(s:List (List Nat)×List Int×List Int):∀x,s.1 <+: (rO gs d s x).1
 | 0=>List.prefix_refl _
 | x+1=>by
  have ih:=bU gs d s x
  rw[rO]
  unfold eU
  split
  ·exact ih
  ·exact ih.trans (List.prefix_append _ _)
theorem qIL (gs:List (List Nat))(d:Nat)(s:List (List Nat)×List Int×List Int)(hd:s.1.length<=d)(hk:1<=gs.length):∀x,1<=x->([]:List Nat)∈(rO gs d s x).1
 | 1,_=>by
  rw[rO,rO]
  unfold eU
  have e:s.1.getD d []=[]:=by rw[List.getD_eq_getElem?_getD,List.getElem?_eq_none hd];rfl
  simp only[e,wP,List.map_nil]
  split
  ·assumption
  ·simp
 | x+2,_=>by
  have ih:=qIL gs d s hd hk (x+1) (by omega)
  rw[rO]
  unfold eU
  split
  ·exact ih
  ·exact List.mem_append_left _ ih
theorem aB (gs:List (List Nat))(s:List (List Nat)×List Int×List Int)(d:Nat):∀e,(xZ gs s d).1.1 <+: (xZ gs s (d+e)).1.1
 | 0=>List.prefix_refl _
 | e+1=>(aB gs s d e).trans (by rw[Nat.add_succ,xZ];exact bU gs (d+e) (xZ gs s (d+e)).1 gs.length)
theorem aE {gs:List (List Nat)}{n d:Nat}{s:List (List Nat)×List Int×List Int}(h1:1<=n)(hk:1<=gs.length)(a9:∀f∈(xZ gs s d).1.1,IsT n f)(d':Nat)(hd:d'<d):d'<(xZ gs s d').1.1.length:=by
 rcases Nat.lt_or_ge d' (xZ gs s d').1.1.length with h|h
 ·exact h
 exfalso;have hm:=qIL gs d' (xZ gs s d').1 h hk gs.length hk;have hp:=aB gs s (d'+1) (d-(d'+1));rw[show d'+1+(d-(d'+1))=d by omega,xZ]at hp;have:=a9 [] (hp.subset hm);have:=this.1;simp at this;omega
structure Enm (gs:List (List Nat))(n:Nat)(el:List (List Nat))(pr la:List Int)(ri:List (List Nat))(d:Nat):Prop where
 en:EnI gs n el pr la
 rl:ri.length=d
 row:∀q,q<d->q<el.length/\(ri.getD q []).length=gs.length/\∀a,a<gs.length->(ri.getD q []).getD a 0<el.length/\el.getD ((ri.getD q []).getD a 0) []=wP (el.getD q []) (gs.getD a [])
theorem aD {gs:List (List Nat)}{n:Nat}{s:List (List Nat)×List Int×List Int}(hg:∀g∈gs,IsT n g)(h:EnI gs n s.1 s.2.1 s.2.2):∀d,(∀d',d'<d->d'<(xZ gs s d').1.1.length)->Enm gs n (xZ gs s d).1.1 (xZ gs s d).1.2.1 (xZ gs s d).1.2.2 (xZ gs s d).2 d
 | 0,_=>⟨h,rfl,fun q hq=>by omega⟩
 | d+1,hlt=>by
  have ih:=aD hg h d (fun d' hd=>hlt d' (by omega))
  have hr:=qDC hg (s:=(xZ gs s d).1) ih.en (hlt d (by omega)) gs.length (Nat.le_refl _)
  rw[xZ]
  refine⟨hr.en,by simp[ih.rl],fun q hq=>?_⟩
  simp only
  rcases Nat.lt_or_ge q d with h1|h1
  ·rw[xM (by rw[ih.rl];exact h1)]
   obtain⟨h2,h3,h4⟩:=ih.row q h1
   refine⟨Nat.lt_of_lt_of_le h2 hr.pre.length_le,h3,fun a ha=>?_⟩
   obtain⟨h5,h6⟩:=h4 a ha
   exact⟨Nat.lt_of_lt_of_le h5 hr.pre.length_le,by rw[jN hr.pre h5,jN hr.pre h2];exact h6⟩
  ·have:q=d:=by omega
   subst this
   rw[wI ih.rl.symm]
   refine⟨Nat.lt_of_lt_of_le (hlt q (by omega)) hr.pre.length_le,hr.len,fun a ha=>?_⟩
   obtain⟨h5,h6⟩:=hr.ent a ha
   exact⟨h5,by rw[jN hr.pre (hlt q (by omega))];exact h6⟩
theorem qRR {gs:List (List Nat)}{n d:Nat}{el:List (List Nat)}{pr la:List Int}{ri:List (List Nat)}(hg:∀g∈gs,IsT n g)(h1:1<=n)(hk:1<=gs.length)(hp:xZ gs (yN gs n gs.length) d=((el,pr,la),ri))(a9:∀f∈el,IsT n f):Enm gs n el pr la ri d:=by
 have:=aD hg (jR hg gs.length (Nat.le_refl _)) d (aE h1 hk (by rw[hp];exact a9));rw[hp]at this;exact this
def valW (gs:List (List Nat))(n:Nat)(w:List Nat):List Nat:=w.foldl (fun f a=>wP f (gs.getD a [])) (List.range n)
theorem qAI (gs:List (List Nat))(n:Nat)(w:List Nat)(a:Nat):valW gs n (w++[a])=wP (valW gs n w) (gs.getD a []):=by simp[valW,List.foldl_append]
theorem qLP {gs:List (List Nat)}{n:Nat}(hg:∀g∈gs,IsT n g)(w:List Nat)(hw:∀a∈w,a<gs.length):IsT n (valW gs n w):=by
 suffices h:∀(v:List Nat) (f:List Nat),IsT n f->(∀a∈v,a<gs.length)->IsT n (v.foldl (fun f a=>wP f (gs.getD a [])) f) from h w _ (jJ n) hw
 intro v
 induction v with
 | nil=>intro f hf _;exact hf
 | cons a v ih=>intro f hf hv;exact ih _ (jS hf (hg _ (uV (hv a (by simp))))) (fun b hb=>hv b (by simp[hb]))
section
variable {gs:List (List Nat)} {n:Nat} {el:List (List Nat)} {pr la:List Int} {ri:List (List Nat)}
theorem EnI.word (h:EnI gs n el pr la):∀i,i<el.length->el.getD i []=valW gs n (vD pr la i):=by
 intro i
 induction i using Nat.strongRecOn with
 | ind i ih =>
  intro hi;rcases h.val i hi with ⟨h1,h2⟩|⟨h1,h2⟩
  ·subst h2;rw[pU h1,h.one];rfl
  rcases h.words i hi with h3|⟨_,_,h4,h5⟩
  ·exact absurd h3 h1
  rw[pV h.words hi h1,qAI,h2,ih (pr.getD i 0).toNat (by omega) (by omega)]
theorem Enm.right (h:Enm gs n el pr la ri el.length):qEI ri el.length gs.length:=⟨h.rl,fun q hq=>⟨(h.row q hq).2.1,fun a ha=>((h.row q hq).2.2 a ha).1⟩⟩
theorem Enm.at (h:Enm gs n el pr la ri el.length)(hg:∀g∈gs,IsT n g){x:Nat}(hx:x<el.length)(w:List Nat)(hw:∀a∈w,a<gs.length):atW ri x w<el.length/\el.getD (atW ri x w) []=wP (el.getD x []) (valW gs n w):=by
 suffices hs:∀(m:Nat) (w:List Nat),w.length=m->(∀a∈w,a<gs.length)->atW ri x w<el.length/\el.getD (atW ri x w) []=wP (el.getD x []) (valW gs n w) from hs _ w rfl hw
 intro m
 induction m with
 | zero =>
  intro w hl _;have:w=[]:=List.eq_nil_of_length_eq_zero hl;subst this;exact⟨hx,(qCI (h.en.it _ (uV hx))).symm⟩
 | succ m ih =>
  intro w hl hw;obtain⟨v,a,rfl⟩:∃v a,w=v++[a]:=⟨w.dropLast,w.getLast (by intro e;rw[e]at hl;simp at hl),(List.dropLast_concat_getLast _).symm⟩;have hv:∀b∈v,b<gs.length:=fun b hb=>hw b (by simp[hb]);have ha:=hw a (by simp);obtain⟨h1,h2⟩:=ih v (by simpa using hl) hv;rw[fE,qAI];obtain⟨h3,h4⟩:=(h.row _ h1).2.2 a ha;refine⟨h3,?_⟩;rw[h4,h2,eJ (h.en.it _ (uV hx)) (qLP hg v hv)]
theorem Enm.tab (h:Enm gs n el pr la ri el.length)(hg:∀g∈gs,IsT n g){x y:Nat}(hx:x<el.length)(hy:y<el.length):((tabE pr la ri el.length).getD x []).getD y 0<el.length/\el.getD (((tabE pr la ri el.length).getD x []).getD y 0) []=wP (el.getD x []) (el.getD y []):=by
 have e:((tabE pr la ri el.length).getD x []).getD y 0=atW ri x (vD pr la y):=by
  rw[zN (l:=tabE pr la ri el.length) (by rw[wN];exact hx)];simp only[tabE,List.getElem_map,List.getElem_range];rw[zN (by rw[tW];exact hy)];simp only[rowE,List.getElem_map,List.getElem_range]
 rw[e,h.en.word y hy];exact h.at hg hx _ (oO h.en.words y hy).1
theorem Enm.image (h:Enm gs n el pr la ri el.length)(hg:∀g∈gs,IsT n g){a:Nat}(ha:a<gs.length):gs.getD a []∈el:=by
 obtain⟨h1,h2⟩:=(h.row 0 h.en.pos).2.2 a ha;rw[h.en.one,fD (hg _ (uV ha))]at h2;rw[<-h2];exact uV h1
end
open Go.RowKit
theorem bP {W:World}{g e:Nat}{u:Value}{m:Nat×Nat}(h:W.heap[g]?=some (.cells #[u] e m)):uX W 1 (.slice (some ⟨g,0,none⟩) 1 1) 1 [u]:=by
 have c0:=zG h 0;simp only[List.getElem_toArray,List.getElem_cons_zero]at c0;refine .inr ⟨g,0,1,rfl,rfl,by unfold maxLen;omega,fun j u' hj=>?_⟩
 match j,hj with
 | 0,hj=>simp at hj;subst hj;simpa using c0
theorem yD {w:World}{p e:Nat}{x0 x1 x2 x3 x4 x5:Value}(h:w.heap[p]?=some (.cells #[x0,x1,x2,x3,x4,x5] e (0,0))):w.cell? ⟨p,0,none⟩=some x0/\w.cell? ⟨p,1,none⟩=some x1/\w.cell? ⟨p,2,none⟩=some x2/\w.cell? ⟨p,3,none⟩=some x3/\w.cell? ⟨p,4,none⟩=some x4/\w.cell? ⟨p,5,none⟩=some x5:=by
 have c0:=zG h 0;have c1:=zG h 1;have c2:=zG h 2;have c3:=zG h 3;have c4:=zG h 4;have c5:=zG h 5;exact⟨by simpa using c0,by simpa using c1,by simpa using c2,by simpa using c3,by simpa using c4,by simpa using c5⟩
theorem uL {w:World}{p e:Nat}{z0 z1 z2 z3 z4 z5:Value}(h:w.heap[p]?=some (.cells #[z0,z1,z2,z3,z4,z5] e (0,0)))(x0 x1 x2 x3 x4 x5:Value):((((((w.setCell ⟨p,0,none⟩ x0).setCell ⟨p,1,none⟩ x1).setCell ⟨p,2,none⟩ x2).setCell ⟨p,3,none⟩ x3).setCell ⟨p,4,none⟩ x4).setCell ⟨p,5,none⟩ x5).heap[p]?=some (.cells #[x0,x1,x2,x3,x4,x5] e (0,0))/\w.grownBy ((((((w.setCell ⟨p,0,none⟩ x0).setCell ⟨p,1,none⟩ x1).setCell ⟨p,2,none⟩ x2).setCell ⟨p,3,none⟩ x3).setCell ⟨p,4,none⟩ x4).setCell ⟨p,5,none⟩ x5) (some p):=by
 have s0:=heap_setCell_same w p 0 _ _ x0 h;have s1:=heap_setCell_same _ p 1 _ _ x1 s0;have s2:=heap_setCell_same _ p 2 _ _ x2 s1;have s3:=heap_setCell_same _ p 3 _ _ x3 s2;have s4:=heap_setCell_same _ p 4 _ _ x4 s3;have s5:=heap_setCell_same _ p 5 _ _ x5 s4;refine⟨by rw[s5];simp,?_⟩;have t:=fun(W:World) (i:Nat) (u:Value)=>zF W ⟨p,i,none⟩ u;exact zH (zH (zH (zH (zH (t _ 0 _) (t _ 1 _)) (t _ 2 _)) (t _ 3 _)) (t _ 4 _)) (t _ 5 _)
structure BoxS (B:Nat)(X:Nat->Prop)(o ty:Nat)(w0 wk:World)(rs:List RowS)(c:Array Value)(w:World):Prop where
 mem:EMem X w rs
 typ:∀r∈rs,r.base=B/\r.e≠ty
 box:w.heap[o]?=some (.cells c ty (0,0))
 off:¬X o
 size:w0.heap.size<=B
 old:w0.heap.size<=o
 base:B<=wk.heap.size
 grown:w0.grownBy w none
 kept:xX X wk w
 wk:wk.heap.size<=w.heap.size
section
variable {B:Nat} {X:Nat->Prop} {o ty:Nat} {w0 wk w:World} {rs:List RowS} {c:Array Value}
theorem BoxS.grow (h:BoxS B X o ty w0 wk rs c w){w':World}(hg:w.grownBy w' none):BoxS B X o ty w0 wk rs c w' :=
 ⟨h.mem.grow hg,h.typ,zB h.box hg,h.off,h.size,h.old,h.base,zC h.grown hg,h.kept.trans (h.mem.keep hg),Nat.le_trans h.wk hg.size⟩
theorem BoxS.set (h:BoxS B X o ty w0 wk rs c w)(f:Nat)(u:Value):BoxS B X o ty w0 wk rs (c.setIfInBounds f u) (w.setCell ⟨o,f,none⟩ u):=by
 have hs:=heap_setCell_same w o f _ _ u h.box;have hg:=zF w ⟨o,f,none⟩ u;exact⟨h.mem.far hg (fun r hr=>zV (h.mem.own r hr) h.box (h.typ r hr).2),h.typ,hs,h.off,h.size,h.old,h.base,yK h.grown hg (by show _<=o;have:=h.old;omega),h.kept.trans (xX.of_grown h.mem.lt hg (fun j e hx=>by have e:o=j:=Oj e;subst e;exact h.off hx)),Nat.le_trans h.wk hg.size⟩
theorem BoxS.own (h:BoxS B X o ty w0 wk rs c w){r:RowS}(hr:r∈rs):w.ownsRow r.base r.e r.sz r.v r.n r.xs:=h.mem.own r hr
theorem BoxS.nil (h:BoxS B X o ty w0 wk rs c w){e sz:Nat}(he:e≠ty):BoxS B X o ty w0 wk (rs++[⟨B,e,.slice none 0 0,0,[],sz⟩]) c w :=
 ⟨h.mem.add (zT _ none) (World.ownsRow_nil _ _ _ _) (fun j e=>by simp[Value.ownBlock]at e),fun r hr=>by
  rcases List.mem_append.1 hr with hr|hr
  ·exact h.typ r hr
  ·rw[List.mem_singleton]at hr;subst hr;exact⟨rfl,he⟩,h.box,h.off,h.size,h.old,h.base,h.grown,h.kept,h.wk⟩
theorem BoxS.add (h:BoxS B X o ty w0 wk rs c w){w':World}(hg:w.grownBy w' none){e sz n:Nat}{v:Value}{xs:List Value}(ho:w'.ownsRow w.heap.size e sz v n xs)(he:e≠ty):BoxS B X o ty w0 wk (rs++[⟨B,e,v,n,xs,sz⟩]) c w' :=
 ⟨h.mem.add hg (wS ho (Nat.le_trans h.base h.wk)) (fun k hk=>(ho.lt k hk).1),fun r hr=>by
  rcases List.mem_append.1 hr with hr|hr
  ·exact h.typ r hr
  ·rw[List.mem_singleton]at hr;subst hr;exact⟨rfl,he⟩,zB h.box hg,h.off,h.size,h.old,h.base,zC h.grown hg,h.kept.trans (h.mem.keep hg),Nat.le_trans h.wk hg.size⟩
theorem BoxS.push (h:BoxS B X o ty w0 wk rs c w):Many w (qA rs) w rs [] []/\B<=w.heap.size/\∀(wM:World) (j:Nat) (r:RowS) (v':Value) (n':Nat) (us:List Value),rs[j]?=some r->Many w (qA rs) wM (rs.set j ⟨r.base,r.e,v',n',r.xs++us,r.sz⟩) [] []->BoxS B X o ty w0 wk (rs.set j ⟨r.base,r.e,v',n',r.xs++us,r.sz⟩) c wM:=by
 refine⟨h.mem.many _ (fun _ h=>h),Nat.le_trans h.base h.wk,fun wM j r v' n' us hr hMM=>?_⟩
 have hf:∀k,qA rs k->B<=k/\k≠o/\¬X k:=fun k hk=>by
  obtain⟨r,hr,hk⟩:=hk;have h0:=h.mem.own r hr;refine⟨by have:=(h0.lt k hk).1;rw[(h.typ r hr).1]at this;exact this,fun e=>?_,h.mem.offX r hr k hk⟩;subst e;exact zV h0 h.box (h.typ r hr).2 hk
 refine⟨h.mem.after hMM (fun k hk=>(hf k hk).2.2),fun s hs=>?_,hMM.but.heap h.box (fun hj=>(hf o hj).2.1 rfl),h.off,h.size,h.old,h.base,hMM.but.grown h.grown (fun k hk=>.inr (Nat.le_trans h.size (hf k hk).1)),h.kept.trans (h.mem.keepMany hMM (fun k hk=>(hf k hk).2.2)),Nat.le_trans h.wk hMM.but.size⟩;rcases List.mem_or_eq_of_mem_set hs with hs|rfl
 ·exact h.typ s hs
 exact h.typ r (List.mem_of_getElem? hr)
theorem qJC {w:World}{b e n g cap i:Nat}{xs:List Value}(h:w.ownsRow b e 1 (.slice (some ⟨g,0,none⟩) n cap) n xs)(hi:i<n)(u:Value):(w.setCell ⟨g,i,none⟩ u).ownsRow b e 1 (.slice (some ⟨g,0,none⟩) n cap) n (xs.set i u):=by
 refine⟨by rw[List.length_set];exact h.1,?_⟩;rcases h.2 with ⟨hv,_⟩|⟨g',cap',cur,hv,hb,hg,hnc,hcm,hcs,htake⟩
 ·simp at hv
 simp only[Value.slice.injEq,Option.some.injEq,Addr.mk.injEq]at hv;obtain⟨⟨rfl,_⟩,_,rfl⟩:=hv;have hs:=heap_setCell_same w g i _ _ u hg;refine .inr ⟨g,cap,_,rfl,hb,hs,hnc,hcm,by simpa using hcs,?_⟩;rw[<-htake];simp[List.take_set]
theorem BoxS.put (h:BoxS B X o ty w0 wk rs c w){j g n cap b e i:Nat}{xs:List Value}(hr:rs[j]?=some ⟨b,e,.slice (some ⟨g,0,none⟩) n cap,n,xs,1⟩)(hi:i<n)(u:Value):BoxS B X o ty w0 wk (rs.set j ⟨b,e,.slice (some ⟨g,0,none⟩) n cap,n,xs.set i u,1⟩) c (w.setCell ⟨g,i,none⟩ u):=by
 have h0:=List.mem_of_getElem? hr;have ho:=h.mem.own _ h0;have ht:=h.typ _ h0;simp only at ho ht;have hg:=zF w ⟨g,i,none⟩ u;have h7:g≠o:=fun e1=>by subst e1;exact zV ho h.box ht.2 rfl
 obtain⟨h4,h2⟩:=List.getElem?_eq_some_iff.1 hr;have h3:=List.pairwise_iff_getElem.1 h.mem.apart;refine⟨⟨fun r hr'=>?_,?_,fun r hr' k hk=>?_,fun k hk=>Nat.lt_of_lt_of_le (h.mem.lt k hk) hg.size⟩,fun r hr'=>?_,zB h.box hg (fun e1=>h7 (Oj e1)),h.off,h.size,h.old,h.base,zC h.grown hg (fun k e1=>?_),h.kept.trans (xX.of_grown h.mem.lt hg (fun k e1 hx=>?_)),Nat.le_trans h.wk hg.size⟩
 ·obtain⟨q,hq,rfl⟩:=List.getElem_of_mem hr'
  rw[List.getElem_set];have h1:q<rs.length:=by simpa using hq
  split
  ·exact qJC ho hi u
  rename_i hne
  refine(h.mem.own _ (List.getElem_mem h1)).kept hg (.inr (fun e1=>?_));rcases Nat.lt_or_gt_of_ne hne with hlt|hlt
  ·exact h3 j q h4 h1 hlt g (by rw[h2];rfl) e1
  exact h3 q j h1 h4 hlt g e1 (by rw[h2];rfl)
 ·rw[List.pairwise_iff_getElem]
  intro p q hp hq h5;have h6:p<rs.length:=by simpa using hp
  have h1:q<rs.length:=by simpa using hq
  have:=h3 p q h6 h1 h5;rw[List.getElem_set,List.getElem_set]
  split<;>split
  ·omega
  ·rename_i e1 e2;subst e1;rw[h2]at this;exact this
  ·rename_i e1 e2;subst e2;rw[h2]at this;exact this
  exact this
 ·rcases List.mem_or_eq_of_mem_set hr' with hr'|rfl
  ·exact h.mem.offX r hr' k hk
  exact h.mem.offX _ h0 k hk
 ·rcases List.mem_or_eq_of_mem_set hr' with hr'|rfl
  ·exact h.typ r hr'
  exact ht
 ·have e1:g=k:=Oj e1
  have:=(ho.lt g rfl).1;have:=h.size;omega
 have e1:g=k:=Oj e1;subst e1;exact h.mem.offX _ h0 g rfl hx
end
def tabI (ts:List (List Nat)):List (List Int):=ts.map fun r=>r.map fun(x:Nat)=>(x:Int)
theorem xJ (ts:List (List Nat)):(tabI ts).length=ts.length:=by simp[tabI]
theorem qBL (l:List Nat):nats l=ints (l.map fun(x:Nat)=>(x:Int)):=by simp[nats,ints]
theorem lG (ts:List (List Nat))(x:Nat):(tabI ts).getD x []=(ts.getD x []).map fun(y:Nat)=>(y:Int):=by
 rcases Nat.lt_or_ge x ts.length with h|h
 ·rw[zN (by rw[xJ];exact h),zN h];simp[tabI]
 rw[List.getD_eq_getElem?_getD,List.getD_eq_getElem?_getD,List.getElem?_eq_none (by rw[xJ];exact h),List.getElem?_eq_none h];rfl
theorem kZ (ts:List (List Nat))(x y:Nat):ent (tabI ts) x y=((ts.getD x []).getD y 0:Nat):=by
 rw[ent,lG];obtain⟨r,hr⟩:=Nm (ts.getD x []);rw[<-hr];rcases Nat.lt_or_ge y r.length with h|h
 ·rw[zN (by simpa using h),zN h];simp
 rw[List.getD_eq_getElem?_getD,List.getD_eq_getElem?_getD,List.getElem?_eq_none (by simpa using h),List.getElem?_eq_none h];rfl
theorem qHV (ts:List (List Nat))(x y:Nat):entN (tabI ts) x y=(ts.getD x []).getD y 0:=by rw[entN,kZ];rfl
theorem TMat.mat {B:Nat}{w:World}{v:Value}{ts:List (List Nat)}(h:TMat B w v ts):Mat B w v (tabI ts):=by
 by_cases h0:0<ts.length
 ·obtain⟨b,off,cap,rfl,hc,hm,hb,h4,h3⟩:=h.head h0
  have h2:∀x,∃a c,x<ts.length->w.cell? ⟨b,off+x,none⟩=some (.slice a (ts.getD x []).length c)/\RowT B 3 w (.slice a (ts.getD x []).length c) (nats (ts.getD x [])):=by
   intro x;by_cases hx:x<ts.length
   ·obtain⟨a,c,h1⟩:=h3 x hx
    exact⟨a,c,fun _=>h1⟩
   exact⟨none,0,fun h=>absurd h hx⟩
  obtain⟨A,hA⟩:=Classical.axiomOfChoice h2;obtain⟨C,hC⟩:=Classical.axiomOfChoice hA;refine .inr ⟨b,off,cap,A,C,by rw[xJ],by rw[xJ];exact hc,hm,hb,h4,fun x hx=>?_,fun x hx=>?_⟩
  ·rw[xJ]at hx
   rw[lG,List.length_map];exact(hC x hx).1
  rw[xJ]at hx;have h1:=(hC x hx).2.row;rw[lG,List.length_map];rw[qBL]at h1;exact h1
 have:ts=[]:=List.eq_nil_of_length_eq_zero (by omega);subst this;obtain⟨a,c,rfl⟩:=h.shape;exact .inl ⟨a,c,rfl,rfl⟩
theorem qHP {P:Program}{w:World}{o:Oper}{a:Act}{K:Act->World->Prop}{Q:Exit->Act->World->Prop}(s x:Operand)(t:TypeId)(ho:o.op=.call { callee:=.builtin .append,args:=#[s,x],argTypes:=#[t,t] }){e:TypeId}{sz:Nat}{z:Value}{a9:Nat}(E:ElemN P t e sz z a9)(base:Nat)(v:Value)(n:Nat)(xs:List Value)(hs:a.eval s=v)(a6:w.ownsRow base e sz v n xs)(us:List Value)(g:Nat)(hx:a.eval x=.slice (some ⟨g,0,none⟩) 1 1)(m:Nat×Nat)(a4:us.length=sz)(hg:w.heap[g]?=some (.cells us.toArray e m))(h1:∀u∈us,u.oneCell'=true)(a5:n+1<=maxLen)(a8:(n+1)*a9<=140737488355328)(a7:base<=w.heap.size)(h:∀sa sc w',w'.ownsRow base e sz (.slice sa (n+1) sc) (n+1) (xs++us)->w.grownBy w' v.ownBlock->jY w w' v (.slice sa (n+1) sc)->K (a.put o.dst (.slice sa (n+1) sc)) w'):o.wp P a w K Q:=by
 have h5:∀j,(⟨g,0,none⟩:Addr).add j=⟨g,j,none⟩:=fun j=>by unfold Addr.add;split<;>simp_all
 have h0:uX w sz (.slice (some ⟨g,0,none⟩) 1 1) 1 us:=.inr ⟨g,0,1,rfl,by omega,by unfold maxLen;omega,fun i u hi=>by
  obtain⟨hl,e⟩:=List.getElem?_eq_some_iff.1 hi;have:=zG hg i (by simpa using hl)
  rw[Nat.zero_add,this];simpa using e⟩
 obtain⟨v',w',hr,h2,h3,h4⟩:=rM (P:=P) base t o.type E v n xs a6 _ 1 us h0 h1 a5 a8 a7;obtain⟨sa,sc,rfl⟩:=iY h2;unfold Oper.wp execOp;simp only[ho,resolve,invoke,builtin,Sem.run_bind,Sem.run_pure,Result.andThen_ok,List.map_toArray,List.map_cons,List.map_nil,hs,hx,hr];exact h sa sc w' h2 h3 h4
theorem mI {P:Program}{ops:Array Oper}{w:World}{o:Oper}{a:Act}{K:Act->World->Prop}{Q:Exit->Act->World->Prop}{R:Prop}(a4:o.guard=none)(s x:Operand)(t:TypeId)(ho:o.op=.call { callee:=.builtin .append,args:=#[s,x],argTypes:=#[t,t] }){e:TypeId}{sz:Nat}{z:Value}{a9:Nat}(E:ElemN P t e sz z a9)(base:Nat)(v:Value)(n:Nat)(xs:List Value)(hs:a.eval s=v)(a6:w.ownsRow base e sz v n xs)(us:List Value)(g:Nat)(hx:a.eval x=.slice (some ⟨g,0,none⟩) 1 1)(m:Nat×Nat)(a5:us.length=sz)(hg:w.heap[g]?=some (.cells us.toArray e m))(h1:∀u∈us,u.oneCell'=true)(a3:n+1<=maxLen)(a8:(n+1)*a9<=140737488355328)(a7:base<=w.heap.size)(h:∀sa sc w',w'.ownsRow base e sz (.slice sa (n+1) sc) (n+1) (xs++us)->w.grownBy w' v.ownBlock->jY w w' v (.slice sa (n+1) sc)->K (a.put o.dst (.slice sa (n+1) sc)) w'):if Region.wanted o (yielded ops a.tmps)=true then Oper.wp P o a w K Q else R:=by
 have hw:Region.wanted o (yielded ops a.tmps)=true:=by simp[Region.wanted,a4]
 rw[if_pos hw];exact qHP s x t ho E base v n xs hs a6 us g hx m a5 hg h1 a3 a8 a7 h
theorem qN {P:Program}{w:World}{ops:Array Oper}{a7:List Oper}{o:Oper}{a:Act}{Q:Exit->Act->World->Prop}(a3:o.guard=none)(s x:Operand)(t:TypeId)(ho:o.op=.call { callee:=.builtin .append,args:=#[s,x],argTypes:=#[t,t] }){e:TypeId}{sz:Nat}{z:Value}{a9:Nat}(E:ElemN P t e sz z a9)(base:Nat)(v:Value)(n:Nat)(xs:List Value)(hs:a.eval s=v)(a6:w.ownsRow base e sz v n xs)(us:List Value)(hx:a.eval x=.slice (some ⟨w.heap.size,0,none⟩) 1 1)(a4:us.length=sz)(h1:∀u∈us,u.oneCell'=true)(a2:n+1<=maxLen)(a8:(n+1)*a9<=140737488355328)(a5:base<=w.heap.size)(h:∀sa sc w',w'.ownsRow base e sz (.slice sa (n+1) sc) (n+1) (xs++us)->w.grownBy w' v.ownBlock->jY w w' v (.slice sa (n+1) sc)->wpList P ops Q a7 (a.put o.dst (.slice sa (n+1) sc)) w'):
  wpList P ops Q (o::a7) a (w.alloc (.cells us.toArray e)) :=
 wpList_plain a3 fun _ hK=>qHP s x t ho E base v n xs hs (a6.alloc _) us w.heap.size hx (0,0) a4 (heap_alloc_new w _) h1 a2 a8 (by simp;omega) fun sa sc w' h2 h3 h4=>hK _ _ (h sa sc w' h2 (zH (Ga w _ _) h3) (by
  rcases h4 with h4|⟨h4,h5⟩
  ·exact .inl h4
  ·exact .inr ⟨zH (Ga w _ none) h4,fun k hk=>by have:=h5 k hk;rw[zU]at this;omega⟩))
open Go.Maps
section
variable {B:Nat} {X:Nat->Prop} {o ty:Nat} {w0 wk w w':World} {rs:List RowS} {c:Array Value}
theorem BoxS.rebase (h:BoxS B X o ty w0 wk rs c w):BoxS B X o ty w0 w rs c w :=
 ⟨h.mem,h.typ,h.box,h.off,h.size,h.old,Nat.le_trans h.base h.wk,h.grown,xX.refl _ _,Nat.le_refl _⟩
theorem BoxS.fresh (h:BoxS B X o ty w0 wk rs c w)(hg:w.grownBy w' none){Y:Nat->Prop}(hY:∀k,Y k->w.heap.size<=k/\k<w'.heap.size):BoxS B (fun k=>X k\/Y k) o ty w0 w' rs c w' :=
 ⟨h.mem.fresh hg hY,h.typ,zB h.box hg,fun e=>by
  rcases e with e|e
  ·exact h.off e
  ·have:=(hY o e).1
   have:=zQ h.box
   omega,h.size,h.old,Nat.le_trans (Nat.le_trans h.base h.wk) hg.size,zC h.grown hg,xX.refl _ _,Nat.le_refl _⟩
theorem BoxS.far (h:BoxS B X o ty w0 wk rs c w){mb:Nat}(hg:w.grownBy w' (some mb))(hr:∀r∈rs,r.v.ownBlock≠some mb)(hx:¬X mb)(ho:o≠mb)(hold:w0.heap.size<=mb):BoxS B X o ty w0 wk rs c w' :=
 ⟨h.mem.far hg hr,h.typ,zB h.box hg (fun e=>ho (Oj e).symm),h.off,h.size,h.old,h.base,yK h.grown hg (by show _<=mb;omega),h.kept.trans (xX.of_grown h.mem.lt hg (fun j e hxx=>by have e:mb=j:=Oj e;subst e;exact hx hxx)),Nat.le_trans h.wk hg.size⟩
theorem BoxS.appAt (h:BoxS B X o ty w0 wk rs c w){j:Nat}{r:RowS}(hr:rs[j]?=some r){v':Value}{n':Nat}{us:List Value}(ho:w'.ownsRow r.base r.e r.sz v' n' (r.xs++us))(hg:w.grownBy w' r.v.ownBlock)(hm:jY w w' r.v v'):BoxS B X o ty w0 wk (rs.set j ⟨r.base,r.e,v',n',r.xs++us,r.sz⟩) c w':=by
 have h0:=List.mem_of_getElem? hr;have h1:=h.mem.own _ h0;have ht:=h.typ _ h0;have h2:∀k,r.v.ownBlock=some k->B<=k/\k≠o/\¬X k:=fun k hk=>⟨by have:=(h1.lt k hk).1;rw[ht.1]at this;exact this,fun e=>by subst e;exact zV h1 h.box ht.2 hk,h.mem.offX r h0 k hk⟩;refine⟨h.mem.appAt hr ho hg hm,fun s hs=>?_,zB h.box hg (fun e=>(h2 o e).2.1 rfl),h.off,h.size,h.old,h.base,zC h.grown hg (fun k e=>Nat.le_trans h.size (h2 k e).1),h.kept.trans (xX.of_grown h.mem.lt hg (fun k e=>(h2 k e).2.2)),Nat.le_trans h.wk hg.size⟩;rcases List.mem_or_eq_of_mem_set hs with hs|rfl
 ·exact h.typ s hs
 exact ht
theorem BoxS.stand (h:BoxS B X o ty w0 wk rs c w){mb:Nat}(hb:mb<w.heap.size)(hr:∀r∈rs,r.v.ownBlock≠some mb)(ho:o≠mb):BoxS B (fun q=>X q\/q=mb) o ty w0 w rs c w :=
  ⟨⟨h.mem.own,h.mem.apart,fun r hr' k hk hx=>by
    rcases hx with hx|hx
    · exact h.mem.offX r hr' k hk hx
    · subst hx;exact hr r hr' hk,fun k hk=>by
    rcases hk with hk|hk
    · exact h.mem.lt k hk
    · subst hk;exact hb⟩,h.typ,h.box,fun e=>by
    rcases e with e|e
    · exact h.off e
    · exact ho e,h.size,h.old,Nat.le_trans h.base h.wk,h.grown,xX.refl _ _,Nat.le_refl _⟩
theorem BoxS.less {X':Nat->Prop}(h:BoxS B X' o ty w0 wk rs c w)(hX:∀q,X q->X' q):BoxS B X o ty w0 wk rs c w :=
 ⟨⟨h.mem.own,h.mem.apart,fun r hr k hk hx=>h.mem.offX r hr k hk (hX k hx),fun k hk=>h.mem.lt k (hX k hk)⟩,h.typ,h.box,fun e=>h.off (hX o e),h.size,h.old,h.base,h.grown,fun k hk=>h.kept k (hX k hk),h.wk⟩
end
theorem MapK.of_block {α:Type}{kt:TypeId}{V:α->Prop}{kv:α->Value}{w w':World}{b n c:Nat}{f:α->Option Nat}(h:MapK kt V kv w b n c f)(hb:w'.heap[b]?=w.heap[b]?):MapK kt V kv w' b n c f:=by
 obtain⟨D,⟨es,clock,h1,h2⟩,h3⟩:=h;exact⟨D,⟨es,clock,hb.trans h1,h2⟩,h3⟩
theorem uS {w:World}{base e sz n b:Nat}{v:Value}{xs:List Value}{es:Array (Value×Value)}{clock:Nat}(h:w.ownsRow base e sz v n xs)(hb:∃es clock,w.heap[b]?=some (.map es clock)):v.ownBlock≠some b:=by
 obtain⟨es,clock,hb⟩:=hb;rcases h.2 with ⟨h1,_⟩|⟨g,cap,cur,h1,_,hg,_⟩
 ·rw[h1];simp[Value.ownBlock]
 rw[h1];intro e;have e:g=b:=by simpa [Value.ownBlock] using e
 subst e;rw[hb]at hg;simp at hg
theorem RowX.of_new {X:Nat->Prop}{w:World}{g n c:Nat}{f:List Nat}(h:Arr w g 3 (nats f))(hn:f.length=n)(hc:n<=c)(hm:c<=maxLen)(hX:X g):RowX X 3 w (.slice (some ⟨g,0,none⟩) n c) (nats f):=by
 subst hn;have:=h.rowT' (cap:=c) (by rw[zR];exact hc) hm;rw[zR]at this;exact⟨this,fun k hk=>by simp[Value.ownBlock]at hk;subst hk;exact hX⟩
def numE (els:List (List Nat))(f:List Nat):Option Nat:=if f∈els then some (els.idxOf f) else none
theorem qJL {a9:List (List Nat)}{f:List Nat}(h:f ∉ a9):(fun q=>if q=f then some a9.length else numE a9 q)=numE (a9++[f]):=by
 funext q;unfold numE;by_cases e:q=f
 ·subst e
  rw[if_pos rfl,if_pos (by simp),List.idxOf_append,if_neg h];simp
 rw[if_neg e];by_cases hq:q∈a9
 ·rw[if_pos hq,if_pos (by simp[hq]),List.idxOf_append,if_pos hq]
 rw[if_neg hq,if_neg (by simp[hq,e])]
theorem cJ {P:Program}{w:World}{ops:Array Oper}{a8:List Oper}{o:Oper}{a:Act}{Q:Exit->Act->World->Prop}(a7:o.guard=none)(l c:Operand)(t:TypeId)(ho:o.op=.makeSlice t l c){e:TypeId}{z:Value}{a9:Nat}(E:ElemOk P t e z a9)(hz:z.cells=#[z])(kl kc:IntKind)(L C:Int)(n:Nat)(hl:a.eval l=.int kl L)(hc:a.eval c=.int kc C)(hL:L=(n:Int))(hC:C=(n:Int))(hb:a9*n<=281474976710656)(a6:n<=maxLen)(h:∀w',w'.ownsRow w.heap.size e 1 (.slice (some ⟨w.heap.size,0,none⟩) n n) n (List.replicate n z)->w.grownBy w' none->w.heap.size<w'.heap.size->wpList P ops Q a8 (a.put o.dst (.slice (some ⟨w.heap.size,0,none⟩) n n)) w'):wpList P ops Q (o::a8) a w:=by
 obtain⟨i,hi,h1,h2,h3⟩:=info_parts E.hi;refine wpList_make_full w a7 l c t ho w.heap.size e i z 1 E.ht hi h1 h2 kl kc L C n hl hc hL hC (by rw[h3];exact hb) a6 (Nat.le_refl _) ?_;intro w' h0 hg;have ha:=Arr.of_owns h0;rw[qX hz]at h0;exact h w' h0 hg ha.lt
end Go.Proofs.Ytobakifdllameaa
namespace Go.Proofs.Ytobakifdllameaa
open Go.RowKit
def zb (l:List Nat):List Int:=l.map fun(x:Nat)=>(x:Int)
def txtT (f:List Nat):ByteArray:=strOfNums (zb f)
theorem qHN (l:List Nat):(zb l).length=l.length:=by simp[zb]
def u8s (l:List Nat):List Value:=(zb l).map (Value.int .u8)
theorem dJ (l:List Nat):(u8s l).length=l.length:=by simp[u8s,zb]
theorem qPS (l:List Nat)(i x:Nat):(u8s l).set i (.int .u8 (x:Int))=u8s (l.set i x):=by simp[u8s,zb,List.map_set]
theorem bJ (n:Nat):u8s (List.replicate n 0)=List.replicate n (.int .u8 0):=by simp[u8s,zb]
theorem qLQ {w:World}{g:Nat}{l:List Nat}(h:Arr w g 5 (u8s l))(i:Nat)(hi:i<l.length):w.cell? ⟨g,i,none⟩=some (.int .u8 ((l.getD i 0:Nat):Int)):=by
 rw[h.cell i (by rw[dJ];exact hi),zN hi];simp[u8s,zb]
theorem qRH {f g:List Nat}(hf:∀x∈f,x<256)(hg:∀x∈g,x<256)(h:txtT f=txtT g):f=g:=by
 have h1:(zb f).map (fun n=>UInt8.ofNat n.toNat)=(zb g).map (fun n=>UInt8.ofNat n.toNat):=by
  have:=congrArg (fun s:ByteArray=>s.data.toList) h;simpa [txtT,strOfNums] using this
 simp only[zb,List.map_map]at h1;refine List.ext_getElem (by have:=congrArg List.length h1;simpa using this) fun i h2 h3=>?_;have h4:=congrArg (fun l=>l[i]?) h1;simp only[List.getElem?_map,List.getElem?_eq_getElem h2,List.getElem?_eq_getElem h3,Option.map_some,Option.some.injEq,Function.comp,Int.toNat_natCast]at h4;have h5:=congrArg UInt8.toNat h4;have h6:=hf _ (List.getElem_mem h2);have h7:=hg _ (List.getElem_mem h3);simp only[UInt8.toNat_ofNat']at h5;omega
theorem qQP:ElemOk Try.prog 30 5 (.int .u8 0) 1:=⟨Try.underlying30,by kernel_rfl,rfl⟩
open Go.Maps
theorem kJ (B:Nat)(w:World)(v:Value)(f:List Nat)(n:Nat)(h:Row B w v (nats f))(hf:IsT n f)(h1:1<=n)(a9:n<=32):Calls Try.prog 90 #[v] w fun e w'=>e=.returned (.bool true)/\w=w':=by
 obtain⟨b,off,cap,rfl,_,h4,h3,h2⟩:=h.some_ (by rw[zR,hf.1];omega);have h7:cap<=9223372036854775807:=by unfold maxLen at h3;omega
 rw[zR,hf.1]at h4⊢;have h5:=Kh h2;have HF:=Kh hf;clear h hf h2 h3;go_enter Try.func90,Try.ntmps90;go_wp2
 go_loopg [4,15] n (fun gh a4 i wr=>∃k:Nat,gh+k=n/\i=.int .i64 k/\w=wr)
 case atStart=>exact⟨0,rfl,rfl,rfl⟩
 obtain⟨k,hg,rfl,rfl⟩:=hrel;have HG:=Kh hg;clear hg;by_cases hk:k<n
 ·have ck:=h5.out.nat k (by rw[HF.out.1];exact hk)
  have hx:=HF.out.get hk;obtain⟨x,h0⟩:=Nm (f.getD k 0);rw[<-h0]at ck hx;have h6:(x:Int)<n:=(by omega);clear h0;go_wp2;go_roundg (n-(k+1))
  case measure=>have:=HG.out;omega
  exact⟨k+1,by omega,by go_num,rfl⟩
 go_wp2;go_ret;exact⟨rfl,rfl⟩
theorem qGF (w:World)(n:Nat)(h1:1<=n)(a9:n<=32):Calls Try.prog 92 #[.int .i64 (n:Int)] w (qEJ w (List.range n)):=by
 go_enter Try.func92,Try.ntmps92;go_wp2_with (first|(at_make;refine qC rfl _ _ _ rfl yJ rfl .i64 .i64 _ _ n rfl rfl rfl rfl ?b1 ?b2 ?_;(case b1=>omega);(case b2=>(unfold maxLen;omega));intro w2 h0 h5 H0)|fail);have h9:=Kh h0;have h8:=Kh h5;clear h0 h5
 go_loopg [4,15] n (fun gh a4 i wr=>∃k:Nat,gh+k=n/\i=.int .i64 k/\Arr wr w.heap.size 3 (nats (wT (List.range n) k))/\w.grownBy wr none)
 case atStart=>exact⟨0,rfl,rfl,by rw[uU,List.length_range,yM];exact h9.out,h8.out⟩
 clear h9 h8;obtain⟨k,hg,rfl,h0,h4⟩:=hrel;obtain⟨HG,HA,h6⟩:=K3 hg h0 h4;clear hg h4;by_cases hk:k<n
 ·have H1:(k:Int)<n:=by omega
  have cgk:=h0.nat k (by rw[yV (by simp;omega)];simpa using hk);have fgk:=h0.frozen k;have h2:=tJ (l:=List.range n) (k:=k) (by simpa using hk);rw[show (List.range n).getD k 0=k from by rw[zN (by simpa using hk)];simp]at h2;have HS:=Kh h2;clear h2 h0;go_wp2;go_roundg (n-(k+1))
  case measure=>have:=HG.out;omega
  refine⟨k+1,by omega,by go_num,?_,zC h6.out (zF wr ⟨w.heap.size,k,none⟩ _) (fun q e=>by have h7:w.heap.size=q:=Oj e;omega)⟩;rw[<-HS.out];exact HA.out.nat_set k (by rw[yV (by simp;omega)];simpa using hk) k
 have h3:k=n:=by have:=HG.out;omega
 have HE:Hid (wT (List.range n) k=List.range n):=Kh (by have:=tK (List.range n);rw[List.length_range]at this;rw[h3];exact this);clear h3 h0;go_wp2;go_ret;refine⟨w.heap.size,by rw[List.length_range];rfl,Nat.le_refl _,?_,h6.out⟩;rw[<-HE.out];exact HA.out
theorem qBA (B C:Nat)(w:World)(va vb:Value)(f g:List Nat)(n:Nat)(hB:B<=w.heap.size)(hC:C<=w.heap.size)(ha:Row B w va (nats f))(hb:Row C w vb (nats g))(hf:IsT n f)(hg:IsT n g)(h1:1<=n)(a9:n<=32):Calls Try.prog 94 #[va,vb] w (qEJ w (wP f g)):=by
 have h6:=Kh (kJ B w va f n ha hf h1 a9);have h5:=Kh (kJ C w vb g n hb hg h1 a9);obtain⟨va',vc,rfl⟩:=ha.shape;obtain⟨vb',vd,rfl⟩:=hb.shape;rw[zR,hf.1]at ha h6⊢;rw[zR,hg.1]at hb h5⊢;obtain⟨HA,HB,HF,H4⟩:=K4 ha hb hf hg;have e1:((n:Int) != (n:Int))=false:=by simp
 clear ha hb hf hg;go_enter Try.func94,Try.ntmps94;go_wp2_with fail;refine h6.out.mono ?_;rintro e w1 ⟨rfl,rfl⟩;go_wp2_with fail;refine h5.out.mono ?_;rintro e w1 ⟨rfl,rfl⟩;clear h6 h5;go_wp2_with (first|(at_make;refine qC rfl _ _ _ rfl yJ rfl .i64 .i64 _ _ n rfl rfl rfl rfl ?b1 ?b2 ?_;(case b1=>omega);(case b2=>(unfold maxLen;omega));intro w2 h0 H3 H9)|fail);have H8:=Kh h0;have H6:=Kh H3;clear h0 H3;have h4:(wP f g).length=n:=by rw[sV,HF.out.1]
 go_loopg [6,7,28] n (fun gh a6 a7 i wr=>∃k:Nat,gh+k=n/\i=.int .i64 k/\Arr wr w.heap.size 3 (nats (wT (wP f g) k))/\w.grownBy wr none)
 case atStart=>exact⟨0,rfl,rfl,by rw[uU,h4,yM];exact H8.out,H6.out⟩
 clear H8 H6;obtain⟨k,hg,rfl,h0,h3⟩:=hrel;obtain⟨HG,H7,H5⟩:=K3 hg h0 h3;clear hg;by_cases hk:k<n
 ·have a1:(k:Int)<n:=by omega
  obtain⟨ib,io,ic,e,_,a5,a4,H1⟩:=(HA.out.kept h3 (by simp)).some_ (by rw[zR,HF.out.1];omega);simp only[Value.slice.injEq]at e;obtain⟨rfl,-,rfl⟩:=e;obtain⟨jb,jo,jc,e,_,a3,a2,H0⟩:=(HB.out.kept h3 (by simp)).some_ (by rw[zR,H4.out.1];omega);simp only[Value.slice.injEq]at e;obtain⟨rfl,-,rfl⟩:=e;have ca:=H1.nat k (by rw[HF.out.1];exact hk);have hx:=HF.out.get hk;have cb:=H0.nat (f.getD k 0) (by rw[H4.out.1];exact hx);have cgk:=h0.nat k (by rw[yV (by omega)];omega);have fgk:=h0.frozen k;have h2:=tJ (l:=wP f g) (k:=k) (by omega);rw[qCJ (by rw[HF.out.1];exact hk)]at h2;obtain⟨x,h9⟩:=Nm (f.getD k 0);rw[<-h9]at ca cb hx h2;obtain⟨y,h8⟩:=Nm (g.getD x 0);rw[<-h8]at cb h2;have a0:(x:Int)<n:=(by omega);have HS:=Kh h2;clear h2 h0 h3 H1 H0 h9 h8;go_wp2;go_roundg (n-(k+1))
  case measure=>have:=HG.out;omega
  refine⟨k+1,by omega,by go_num,?_,zC H5.out (zF wr ⟨w.heap.size,k,none⟩ _) (fun q e=>by have h7:w.heap.size=q:=Oj e;omega)⟩;rw[<-HS.out];exact H7.out.nat_set k (by rw[yV (by omega)];omega) y
 have H2:k=n:=by have:=HG.out;omega
 have HE:Hid (wT (wP f g) k=wP f g):=Kh (by rw[H2,<-h4];exact tK _);clear H2 h0 h3;go_wp2;go_ret;refine⟨w.heap.size,by rw[h4];rfl,Nat.le_refl _,?_,H5.out⟩;rw[<-HE.out];exact H7.out
theorem fU (B:Nat)(w:World)(v:Value)(f:List Nat)(n:Nat)(hB:B<=w.heap.size)(h:Row B w v (nats f))(hf:IsT n f)(h1:1<=n)(a9:n<=32):Calls Try.prog 93 #[v] w fun e w'=>e=.returned (.string (txtT f))/\w.grownBy w' none:=by
 obtain⟨b,off,cap,rfl,hb,H8,H2,h8⟩:=h.some_ (by rw[zR,hf.1];omega);have a0:cap<=9223372036854775807:=by unfold maxLen at H2;omega
 rw[zR,hf.1]at H8⊢;have H9:=Kh h8;have HF:=Kh hf;have H1:f.length=n:=hf.1;have h2:=Kh H1;clear h hf h8 H2 H1;go_enter Try.func93,Try.ntmps93;go_wp2_with (first|(at_make;refine qC rfl _ _ _ rfl qQP rfl .i64 .i64 _ _ n rfl rfl rfl rfl ?b1 ?b2 ?_;(case b1=>omega);(case b2=>(unfold maxLen;omega));intro w2 h0 H0 H6)|fail);have H5:=Kh h0;have H4:=Kh H0;clear h0 H0
 go_loopg [4,5,11] n (fun gh a4 a5 i wr=>∃k:Nat,gh+k=n/\i=.int .i64 k/\Arr wr w.heap.size 5 (u8s (wT f k))/\w.grownBy wr none)
 case atStart=>exact⟨0,rfl,rfl,by rw[uU,h2.out,bJ];exact H5.out,H4.out⟩
 clear H5 H4;obtain⟨k,hg,rfl,h0,h4⟩:=hrel;obtain⟨HG,h5,H3⟩:=K3 hg h0 h4;clear hg;by_cases hk:k<n
 ·have a1:(k:Int)<n:=by omega
  have ca:=(H9.out.kept h4 (by simp)).nat k (by rw[h2.out];exact hk);have hx:=HF.out.get hk;have cgk:=qLQ h0 k (by rw[yV (by have:=h2.out;omega)];have:=h2.out;omega);have fgk:=h0.frozen k;have h3:=tJ (l:=f) (k:=k) (by have:=h2.out;omega);obtain⟨x,h6⟩:=Nm (f.getD k 0);rw[<-h6]at ca hx h3;have a2:IntKind.u8.wrap (x:Int)=x:=IntWalk.u8_in _ (by omega);have HS:=Kh h3;clear h3 h0 h4 h6;go_wp2;go_roundg (n-(k+1))
  case measure=>have:=HG.out;omega
  refine⟨k+1,by omega,by go_num,?_,zC H3.out (zF wr ⟨w.heap.size,k,none⟩ _) (fun q e=>by have h7:w.heap.size=q:=Oj e;omega)⟩;rw[<-HS.out,<-qPS];exact h5.out.set k (by rw[dJ,yV (by have:=h2.out;omega)];have:=h2.out;omega) _
 have h9:k=n:=by have:=HG.out;omega
 have HE:Hid (wT f k=f):=Kh (by rw[h9,<-h2.out];exact tK _);rw[HE.out]at h5;have H7:=bS 30 5 Try.underlying30 Try.underlying5 9 Try.underlying9 n n (by rw[qHN];exact h2.out) h5.out;obtain⟨X,hX⟩:=Nm (txtT f);rw[show strOfNums (zb f)=X from hX.symm]at H7;have HX:=Kh hX;clear h9 h0 h4 hX;go_wp2;go_ret;exact⟨by rw[HX.out];rfl,H3.out⟩
theorem qPT {n:Nat}{f:List Nat}(h:IsT n f):(txtT f).size=n:=by
 have:(txtT f).size=(txtT f).data.toList.length:=by rw[Array.length_toList];rfl
 rw[this];unfold txtT;rw[strOfNums_data];simp[zb,h.1]
theorem bM {n:Nat}(a9:n<=32):KeyK 112 9 (IsT n) (fun f=>.string (txtT f)) where
 key:=iL
 und:=mO
 of:=fun a ha=>by rw[Go.WideMaps.keyOf_string_mk mH (by rw[qPT ha];unfold maxLen;omega)];rfl
 inj:=fun a b ha hb e=>qRH (fun x hx=>by have:=ha.2 x hx;omega) (fun x hx=>by have:=hb.2 x hx;omega) (by simpa using e)
inductive RunS (w0 : World)(B o n k m d s ub : Nat)(sG : Option Addr)(cG : Nat)(hsG : List Value)(gs els : List (List Nat))(pre las : List Int)(right : List (List Nat))(beh : List Int)(sgl : List Nat)(tl : List RowS)(w : World): Prop
 | mk (X : Nat → Prop) (mb u : Nat) (us hsE hsR : List Value) (ws : List ByteArray) (sE sP sL sR sU sW sB sS : Option Addr) (cE cP cL cR cU cW cB cS : Nat)
  (hB : BoxS B X o 114 w0 w (⟨B, 22, .slice sE m cE, m, hsE, 1⟩ :: ⟨B, 3, .slice sP m cP, m, ints pre, 1⟩ :: ⟨B, 3, .slice sL m cL, m, ints las, 1⟩ :: ⟨B, 22, .slice sR d cR, d, hsR, 1⟩ :: ⟨B, 135, .slice sU u cU, u, us, 2⟩ :: ⟨B, 9, .slice sW m cW, m, yY ws, 1⟩ :: ⟨B, 3, .slice sB m cB, m, ints beh, 1⟩ :: ⟨B, 3, .slice sS s cS, s, nats sgl, 1⟩ :: ⟨B, 22, .slice sG k cG, k, hsG, 1⟩ :: tl)
   #[.int .i64 (n : Int), .bool true, .slice sG k cG, .slice sE m cE, .slice sP m cP, .slice sL m cL, .slice sR d cR, .slice sU u cU, .int .i64 (d : Int), .map (some mb), .slice sW m cW, .slice sB m cB, .slice sS s cS] w)
  (hE : xU X 3 nats w hsE els) (hR : xU X 3 nats w hsR right) (hG : xU X 3 nats w hsG gs)
  (hM : ∃ c, MapK 9 (IsT n) (fun f => .string (txtT f)) w mb m c (numE els)) (hmx : ¬ X mb) (hmb : w0.heap.size ≤ mb)
  (hl : els.length = m ∧ pre.length = m ∧ las.length = m ∧ ws.length = m ∧ beh.length = m ∧ right.length = d ∧ sgl.length = s ∧ gs.length = k)
  (hit : ∀ f ∈ els, IsT n f) (hw : ∀ i, (ws.getD i ⟨#[]⟩).size ≤ i) (hu : u ≤ ub)
theorem dM {X:Nat->Prop}{w:World}{hs:List Value}{ts:List (List Nat)}(h:xU X 3 nats w hs ts){i j:Nat}(hi:i<ts.length)(hj:j<(ts.getD i []).length):∃b off cap,hs[i]?=some (.slice (some ⟨b,off,none⟩) (ts.getD i []).length cap)/\(ts.getD i []).length<=cap/\cap<=maxLen/\w.cell? ⟨b,off+j,none⟩=some (.int .i64 (((ts.getD i []).getD j 0:Nat):Int)):=by
 have h0:i<hs.length:=by rw[h.1];exact hi
 have h1:=(h.2 i h0 hi).row;rw[show ts[i]=ts.getD i [] from (zN hi).symm]at h1;obtain⟨b,off,cap,e,_,h2,h4,h3⟩:=h1.some_ (by rw[zR];omega);rw[zR]at e h2;exact⟨b,off,cap,by rw[List.getElem?_eq_getElem h0,e],h2,h4,h3.nat j hj⟩
theorem pE {w:World}{g i:Nat}{e:TypeId}{xs:List Value}{v:Value}(h:Arr w g e xs)(hv:xs[i]?=some v):w.cell? ⟨g,i,none⟩=some v:=by
 obtain⟨hi,e⟩:=List.getElem?_eq_some_iff.1 hv;rw[h.cell i hi,e]
theorem qDP {w:World}{g i:Nat}{e:TypeId}{l:List Int}(h:Arr w g e (ints l))(hi:i<l.length):w.cell? ⟨g,i,none⟩=some (.int .i64 (l.getD i 0)) :=
 pE h (by simp[ints,List.getElem?_eq_getElem hi,zN hi])
def lB (sgl:List Nat)(right:List (List Nat))(i:Int)(x:Nat):Nat:=if i = -1 then sgl.getD x 0 else (right.getD i.toNat []).getD x 0
def qEK (s d:Nat)(right:List (List Nat))(i:Int)(x:Nat):Prop:=(i = -1/\x<s)\/(0<=i/\i<d/\x<(right.getD i.toNat []).length)
section
variable {w0 w:World} {B o n k m d s ub:Nat} {sG:Option Addr} {cG:Nat} {hsG:List Value} {gs els right:List (List Nat)} {pre las beh:List Int} {sgl:List Nat} {tl:List RowS}
theorem qME (h:RunS w0 B o n k m d s ub sG cG hsG gs els pre las right beh sgl tl w)(hm:m<=4000):Calls Try.prog 71 #[.pointer (some ⟨o,0,none⟩)] w fun e w'=>e=.returned (.bool (decide (d=m)))/\∃q,w'=w.drewN q:=by
 obtain⟨X0,mb,u,us,h2,h1,ws,sE,sP,sL,sR,sU,sW,sB,sS,cE,cP,cL,cR,cU,cW,cB,cS,hB,hE,hR,hG,⟨c,hM⟩,h3,h4,hl,h0,hw,hu⟩:=h;have q3:=zG hB.box 3;simp only[List.getElem_toArray,List.getElem_cons_zero,List.getElem_cons_succ]at q3;have q8:=zG hB.box 8;simp only[List.getElem_toArray,List.getElem_cons_zero,List.getElem_cons_succ]at q8;obtain⟨b,hb⟩:=Nm (decide (d=m))
 have h5:((d:Int) == (m:Int))=b:=by
  rw[hb];by_cases e:d=m
  ·simp[e]
  rw[decide_eq_false e,beq_eq_false_iff_ne];omega
 rw[<-hb];clear hB hE hR hG hM hl h0 hw hb;go_enter Try.func71,Try.ntmps71;go_wp2_with fail
 go_quiet (fail)
 go_wp2;go_ret;exact⟨rfl,_,rfl⟩
theorem dU (h:RunS w0 B o n k m d s ub sG cG hsG gs els pre las right beh sgl tl w)(i:Int)(x:Nat)(hx:qEK s d right i x):Calls Try.prog 95 #[.pointer (some ⟨o,0,none⟩),.int .i64 i,.int .i64 (x:Int)] w fun e w'=>e=.returned (.int .i64 ((lB sgl right i x:Nat):Int))/\w'=w:=by
 obtain⟨X0,mb,u,us,H8,H2,ws,sE,sP,sL,sR,sU,sW,sB,sS,cE,cP,cL,cR,cU,cW,cB,cS,hB,hE,hR,hG,⟨c,hM⟩,H9,a0,hl,h9,hw,hu⟩:=h;have q6:=zG hB.box 6;simp only[List.getElem_toArray,List.getElem_cons_zero,List.getElem_cons_succ]at q6;have q12:=zG hB.box 12;simp only[List.getElem_toArray,List.getElem_cons_zero,List.getElem_cons_succ]at q12;have h6:=hB.own (r:=⟨B,3,.slice sS s cS,s,nats sgl,1⟩) (by simp);have h7:=hB.own (r:=⟨B,22,.slice sR d cR,d,H2,1⟩) (by simp);simp only at h6 h7;rcases hx with ⟨rfl,hx⟩|⟨h0,h1,h2⟩
 ·obtain⟨kb,rfl,H7,h5,h3⟩:=xD h6 (by omega)
  have H4:sgl.length=s:=hl.2.2.2.2.2.2.1;have cx:=h3.nat x (by omega);obtain⟨y,hy⟩:=Nm (lB sgl right (-1) x);have h4:sgl.getD x 0=y:=by rw[hy,lB,if_pos rfl]
  rw[h4]at cx;rw[<-hy];have H1:(x:Int)<s:=by omega
  have h8:cS<=9223372036854775807:=by unfold maxLen at h5;omega
  clear hB hE hR hG hM hl h9 hw hy h4 h6 h7 h3 h5 H4;go_enter Try.func95,Try.ntmps95;go_wp2;go_ret;exact⟨rfl,rfl⟩
 obtain⟨j,rfl⟩:∃j:Nat,i=(j:Int):=⟨i.toNat,by omega⟩;rw[Int.toNat_natCast]at h2;have hj:j<d:=by omega
 obtain⟨kb,rfl,H7,h5,h3⟩:=xD h7 (by omega);have H5:right.length=d:=hl.2.2.2.2.2.1;obtain⟨b,off,cap,hv,H6,H0,cy⟩:=dM hR (i:=j) (j:=x) (by omega) h2;have cx:=pE h3 hv;obtain⟨y,hy⟩:=Nm (lB sgl right (j:Int) x);have h4:(right.getD j []).getD x 0=y:=by rw[hy,lB,if_neg (by omega),Int.toNat_natCast]
 rw[h4]at cy;rw[<-hy];obtain⟨L,hL⟩:=Nm ((right.getD j []).length);rw[<-hL]at cx h2 H6;have H1:(x:Int)<L:=by omega
 have a1:(j:Int)<d:=by omega
 have e1:((j:Int) == -1)=false:=by rw[beq_eq_false_iff_ne];omega
 have h8:cR<=9223372036854775807:=by unfold maxLen at h5;omega
 have H3:cap<=9223372036854775807:=by unfold maxLen at H0;omega
 clear hB hE hR hG hM hl h9 hw hy h4 h6 h7 h3 h5 H0 H5 hL hv;go_enter Try.func95,Try.ntmps95;go_wp2;go_ret;exact⟨rfl,rfl⟩
theorem aF (h:RunS w0 B o n k m d s ub sG cG hsG gs els pre las right beh sgl tl w)(i:Int)(x:Nat)(hx:qEK s d right i x)(hq:lB sgl right i x<m)(hm:m<=4000):Calls Try.prog 96 #[.pointer (some ⟨o,0,none⟩),.int .i64 i,.int .i64 (x:Int)] w fun e w'=>∃b,e=.returned (.bool b)/\w'=w:=by
 have h9:=Kh (dU h i x hx);obtain⟨X0,mb,u,us,H4,H3,ws,sE,sP,sL,sR,sU,sW,sB,sS,cE,cP,cL,cR,cU,cW,cB,cS,hB,hE,hR,hG,⟨c,hM⟩,H7,H8,hl,H2,hw,hu⟩:=h;obtain⟨q,h4⟩:=Nm (lB sgl right i x);rw[<-h4]at hq h9;have q4:=zG hB.box 4;simp only[List.getElem_toArray,List.getElem_cons_zero,List.getElem_cons_succ]at q4;have q5:=zG hB.box 5;simp only[List.getElem_toArray,List.getElem_cons_zero,List.getElem_cons_succ]at q5;have h0:=hB.own (r:=⟨B,3,.slice sP m cP,m,ints pre,1⟩) (by simp);have h1:=hB.own (r:=⟨B,3,.slice sL m cL,m,ints las,1⟩) (by simp);simp only at h0 h1;obtain⟨pb,rfl,H6,h5,h7⟩:=xD h0 (by omega);obtain⟨lb,rfl,H9,h6,h8⟩:=xD h1 (by omega);have cp:=qDP h7 (i:=q) (by rw[hl.2.1];exact hq);have cl:=qDP h8 (i:=q) (by rw[hl.2.2.1];exact hq);obtain⟨yp,h2⟩:=Nm (pre.getD q 0);obtain⟨yl,h3⟩:=Nm (las.getD q 0);rw[<-h2]at cp;rw[<-h3]at cl;have H5:(q:Int)<m:=by omega
 have H1:cP<=9223372036854775807:=by unfold maxLen at h5;omega
 have H0:cL<=9223372036854775807:=by unfold maxLen at h6;omega
 clear hB hE hR hG hM hl H2 hw h2 h3 h0 h1 h7 h8 h4 h5 h6;go_enter Try.func96,Try.ntmps96;go_wp2_with fail;refine h9.out.mono ?_;rintro e w1 ⟨rfl,rfl⟩;go_wp2
 all_goals
  go_ret;exact⟨_,rfl,rfl⟩
end
end Go.Proofs.Ytobakifdllameaa
namespace Go.Proofs.Ytobakifdllameaa
def qOY (beh:List Int)(m:Nat):Prop:=beh.length=m/\∀i,i<m->(i=0/\beh.getD i 0 = -1)\/(0<=beh.getD i 0/\beh.getD i 0<i)
structure PEn (gs:List (List Nat))(n k d m:Nat)(els:List (List Nat))(pre las:List Int)(right:List (List Nat))(beh:List Int)(sgl:List Nat):Prop where
 hk:gs.length=k
 proc:xZ gs (yN gs n k) d=((els,pre,las),right)
 len:els.length=m
 dle:d<=m
 mle:m<=2000
 it:∀f∈els,IsT n f
 beh:qOY beh m
 rl:right.length=d
 row:∀j,j<d->(right.getD j []).length=k/\∀r∈right.getD j [],r<m
 sgl:sgl.length=k/\∀r∈sgl,r<m
structure PRow (gs:List (List Nat))(n k d m:Nat)(els:List (List Nat))(pre las:List Int)(x mx:Nat)(elx:List (List Nat))(prx lax:List Int)(rox:List Nat)(bex:List Int):Prop where
 row:rO gs d (els,pre,las) x=(elx,prx,lax,rox)
 len:elx.length=mx
 ge:m<=mx
 mle:mx<=2000
 it:∀f∈elx,IsT n f
 beh:qOY bex mx
 rx:rox.length=x/\∀r∈rox,r<mx
 pre:els <+: elx
section
variable {gs els:List (List Nat)} {n k d m x mx:Nat} {pre las:List Int} {right elx:List (List Nat)} {beh prx lax bex:List Int} {sgl rox:List Nat}
theorem PEn.start (h:PEn gs n k d m els pre las right beh sgl):PRow gs n k d m els pre las 0 m els pre las [] beh :=
 ⟨rfl,h.len,Nat.le_refl _,h.mle,h.it,h.beh,⟨rfl,fun r hr=>by simp at hr⟩,List.prefix_refl _⟩
theorem PRow.get (h:PRow gs n k d m els pre las x mx elx prx lax rox bex)(hd:d<els.length):elx.getD d []=els.getD d []:=jN h.pre hd _
theorem PRow.known (h:PRow gs n k d m els pre las x mx elx prx lax rox bex)(hd:d<els.length)(a9:wP (els.getD d []) (gs.getD x [])∈elx):PRow gs n k d m els pre las (x+1) mx elx prx lax (rox++[elx.idxOf (wP (els.getD d []) (gs.getD x []))]) bex:=by
 refine⟨?_,h.len,h.ge,h.mle,h.it,h.beh,⟨by simp[h.rx.1],fun r hr=>?_⟩,h.pre⟩
 ·rw[rO,h.row]
  simp only[eU];rw[h.get hd,if_pos a9]
 rcases List.mem_append.1 hr with hr|hr
 ·exact h.rx.2 r hr
 rw[List.mem_singleton]at hr;subst hr;rw[<-h.len];exact List.idxOf_lt_length_of_mem a9
theorem PRow.new (h:PRow gs n k d m els pre las x mx elx prx lax rox bex)(hd:d<els.length)(a9:wP (els.getD d []) (gs.getD x []) ∉ elx)(hm:mx<2000)(a8:IsT n (wP (els.getD d []) (gs.getD x []))){b:Nat}(hb:b<mx):PRow gs n k d m els pre las (x+1) (mx+1) (elx++[wP (els.getD d []) (gs.getD x [])]) (prx++[(d:Int)]) (lax++[(x:Int)]) (rox++[mx]) (bex++[(b:Int)]):=by
 refine⟨?_,by simp[h.len],by have:=h.ge;omega,by omega,fun f hf=>?_,⟨by simp[h.beh.1],fun i hi=>?_⟩,⟨by simp[h.rx.1],fun r hr=>?_⟩,h.pre.trans (List.prefix_append _ _)⟩
 ·rw[rO,h.row]
  simp only[eU];rw[h.get hd,if_neg a9,h.len]
 ·rcases List.mem_append.1 hf with hf|hf
  ·exact h.it f hf
  rw[List.mem_singleton]at hf;subst hf;exact a8
 ·rcases Nat.lt_or_ge i mx with h3|h3
  ·rw[xM (by rw[h.beh.1];exact h3)];exact h.beh.2 i h3
  have:i=mx:=by omega
  subst this;rw[wI h.beh.1.symm];exact .inr ⟨by omega,by omega⟩
 rcases List.mem_append.1 hr with hr|hr
 ·have:=h.rx.2 r hr;omega
 rw[List.mem_singleton]at hr;omega
theorem PRow.after (h:PRow gs n k d m els pre las x mx elx prx lax rox bex)(hp:PEn gs n k d m els pre las right beh sgl)(hd:d<m)(hx:x<k):qEK k d right (bex.getD d 0) x/\lB sgl right (bex.getD d 0) x<m:=by
 rcases h.beh.2 d (by have:=h.ge;omega) with ⟨h1,h2⟩|⟨h1,h2⟩
 ·refine⟨.inl ⟨h2,hx⟩,?_⟩
  rw[lB,if_pos h2];exact hp.sgl.2 _ (uV (by rw[hp.sgl.1];exact hx))
 have hj:(bex.getD d 0).toNat<d:=by omega
 obtain⟨h3,h4⟩:=hp.row _ hj;refine⟨.inr ⟨h1,by omega,by rw[h3];exact hx⟩,?_⟩;rw[lB,if_neg (by omega)];exact h4 _ (uV (by rw[h3];exact hx))
theorem PRow.done (h:PRow gs n k d m els pre las k mx elx prx lax rox bex)(hp:PEn gs n k d m els pre las right beh sgl)(hd:d<m):PEn gs n k (d+1) mx elx prx lax (right++[rox]) bex sgl:=by
 have h0:=h.ge;refine⟨hp.hk,?_,h.len,by omega,h.mle,h.it,h.beh,by simp[hp.rl],fun j hj=>?_,⟨hp.sgl.1,fun r hr=>by have:=hp.sgl.2 r hr;omega⟩⟩
 ·rw[xZ,hp.proc,hp.hk]
  simp only[h.row]
 rcases Nat.lt_or_ge j d with h3|h3
 ·rw[xM (by rw[hp.rl];exact h3)]
  obtain⟨h4,h5⟩:=hp.row j h3;exact⟨h4,fun r hr=>by have:=h5 r hr;omega⟩
 have:j=d:=by omega
 subst this;rw[wI hp.rl.symm];exact h.rx
theorem PRow.full (h:PRow gs n k d m els pre las x mx elx prx lax rox bex)(hp:PEn gs n k d m els pre las right beh sgl)(hd:d<m)(hx:x<=k)(hm:mx=2000):nX gs (yN gs n k) n:=by
 refine⟨d,x,by rw[hp.proc];show d<els.length;rw[hp.len];exact hd,by rw[hp.hk];exact hx,?_,?_⟩
 ·rw[hp.proc];simp only[h.row];rw[h.len,hm]
 rw[hp.proc];simp only[h.row];exact h.it
def rowN (k:Nat)(l:List Nat):List Nat:=l++List.replicate (k-l.length) 0
theorem oT {l:List Nat}(h:l.length<=k):(rowN k l).length=k:=by simp[rowN];omega
theorem qIN:rowN k []=List.replicate k 0:=by simp[rowN]
theorem qIO {l:List Nat}(h:l.length=k):rowN k l=l:=by simp[rowN,h]
theorem gU {l:List Nat}{x y:Nat}(h:l.length=x)(hx:x<k):(rowN k l).set x y=rowN k (l++[y]):=by
 unfold rowN;rw[List.set_append_right _ _ (by omega),h,Nat.sub_self,List.length_append,List.length_singleton,h,show k-x=(k-(x+1))+1 by omega,List.replicate_succ,List.set_cons_zero,List.append_assoc];rfl
end
end Go.Proofs.Ytobakifdllameaa
