/- Part 6 of the proof: MinUniq, Bfs, ProdP. -/
import Derived.Test.YtjfdomfendbhfaaQe5
set_option linter.unusedVariables false
set_option linter.unusedSimpArgs false
namespace Go.Proofs.Ytjfdomfendbhfaa
def acc (d:DfaV) (q:Nat) (w:List Nat):Bool:=d.final.getD (run d q w) false
theorem finB_inj {a b:Bool} (h:finB a=finB b):a=b:=by cases a <;> cases b <;> simp[finB]at h <;> rfl
section
variable {d:DfaV} {n k:Nat}
theorem rC (hd:VD d n k) {q q':Nat} (hq:q < n) (hq':q' < n):(qP d).getD q 0=(qP d).getD q' 0 ↔ d.final.getD q false=d.final.getD q' false:=by
 have hn:=hd.hn
 rw[qP,rT (by rw[List.length_map];omega) (by rw[List.length_map];omega),List.getElem_map,List.getElem_map,<- zF (d:=false),<- zF (d:=false)]
 exact⟨finB_inj,fun h=>by rw[h]⟩
theorem oY (hd:VD d n k):∀ m {q q':Nat},q < n->q' < n->(yG d k m).getD q 0=(yG d k m).getD q' 0->d.final.getD q false=d.final.getD q' false
 | 0,q,q',hq,hq',h=>(rC hd hq hq').1 h
 | m+1,q,q',hq,hq',h=>oY hd m hq hq' ((vS hd (by rw[yK,hd.hn]) (by rw[<- hd.hn];exact eC d k m) hq hq' k (Nat.le_refl _)).1 h).1
theorem jO (hd:VD d n k):∀ m {q q':Nat},q < n->q' < n->(yG d k m).getD q 0≠(yG d k m).getD q' 0->∃ w,zX k w/\acc d q w≠acc d q' w
 | 0,q,q',hq,hq',h=>⟨[],fun a ha=>by simp at ha,fun e=>h ((rC hd hq hq').2 e)⟩
 | m+1,q,q',hq,hq',h=>by
  by_cases h1:(yG d k m).getD q 0=(yG d k m).getD q' 0
  ·have hx:¬ ∀ a,a < k->(yG d k m).getD (nx d q a) 0=(yG d k m).getD (nx d q' a) 0:=fun ha=>h ((vS hd (by rw[yK,hd.hn]) (by rw[<- hd.hn];exact eC d k m) hq hq' k (Nat.le_refl _)).2 ⟨h1,ha⟩)
   obtain⟨a,ha⟩:=Classical.not_forall.1 hx
   obtain⟨ha,hne⟩:=Classical.not_imp.1 ha
   obtain⟨w,hw,e⟩:=jO hd m (qF hd hq ha) (qF hd hq' ha) hne
   exact⟨a :: w,fun b hb=>by
    rcases List.mem_cons.1 hb with rfl|hb
    ·exact ha
    ·exact hw b hb,e⟩
  ·exact jO hd m hq hq' h1
theorem nJ (d:DfaV) (p:List Nat):st0 (wC d p)=p.getD (st0 d) 0:=by simp[st0,wC]
theorem pH (hd:VD d n k) {q:Nat} (hq:q < n) {w:List Nat} (hw:zX k w):acc (wC d (zR d k)) ((zR d k).getD q 0) w=acc d q w:=by
 have hl:(zR d k).length=n:=by rw[xP,hd.hn]
 have hN:=wH d k
 have hr:=iM hd w hq hw
 unfold acc
 rw[fA hd hl hN (pB hd) w hq hw]
 have hc:=vL hN (show run d q w < (zR d k).length by omega)
 have hg:=sH hN hc
 show ((reps (zR d k)).map fun q=>d.final.getD q false).getD _ false=_
 rw[uX (x:=0) (by rw[tU hN];exact hc)]
 exact oY hd _ (by omega) hr hg.1
theorem aA (hd:VD d n k) {c c':Nat} (hc:c < cls (zR d k)) (hc':c' < cls (zR d k)) (h:∀ w,zX k w->acc (wC d (zR d k)) c w=acc (wC d (zR d k)) c' w):c=c':=by
 have hl:(zR d k).length=n:=by rw[xP,hd.hn]
 have hN:=wH d k
 obtain⟨h1,h2⟩:=sH hN hc
 obtain⟨h3,h4⟩:=sH hN hc'
 rw[hl]at h2 h4
 rcases Decidable.em (c=c') with e|e
 ·exact e
 exfalso
 obtain⟨w,hw,h0⟩:=jO hd d.final.length h2 h4 (by rw[show yG d k d.final.length=zR d k from rfl,h1,h3];exact e)
 have a1:=pH hd h2 hw
 have a2:=pH hd h4 hw
 rw[h1]at a1
 rw[h3]at a2
 exact h0 (a1.symm.trans ((h w hw).trans a2))
theorem bQ (hd:VD d n k) {w:List Nat} (hw:zX k w):acc (xK d k) 0 w=acc d (st0 d) w:=by
 have hA:=(yV hd).1
 have hr:=iM (oG hd) w (oG hd).n1 hw
 unfold acc
 rw[mD hd hr,bP hd w hA.hd.1 hw,hA.hd.2]
theorem qBC (hd:VD d n k) {w:List Nat} (hw:zX k w):acc (minD d k) 0 w=acc d (st0 d) w:=by
 rw[show acc (minD d k) 0 w=acc (wC d (zR d k)) (st0 (wC d (zR d k))) w from bQ (rO hd) hw,nJ]
 exact pH hd (rB hd) hw
end
inductive Side (R:Nat->Nat->Prop):List Nat->List Nat->Prop
 | nil:Side R [] []
 | snoc {l l':List Nat} {q q':Nat}:Side R l l'->R q q'->Side R (l ++ [q]) (l' ++ [q'])
theorem Side.len {R:Nat->Nat->Prop} {l l':List Nat} (h:Side R l l'):l.length=l'.length:=by
 induction h with
 | nil=>rfl
 | snoc _ _ ih=>simp[ih]
theorem Side.get {R:Nat->Nat->Prop} {l l':List Nat} (h:Side R l l'):∀ i,i < l.length->R (l.getD i 0) (l'.getD i 0):=by
 induction h with
 | nil=>intro i hi;simp at hi
 | @snoc l l' q q' hs hr ih =>
  intro i hi
  have hl:=hs.len
  simp at hi
  by_cases e:i < l.length
  ·rw[rZ (List.prefix_append _ _) e,rZ (List.prefix_append _ _) (by omega)];exact ih i e
  ·have e1:i=l.length:=by omega
   subst e1
   have a1:(l ++ [q]).getD l.length 0=q:=by simp[List.getD]
   have a2:(l' ++ [q']).getD l.length 0=q':=by rw[hl];simp[List.getD]
   rw[a1,a2];exact hr
structure One (R:Nat->Nat->Prop):Prop where
 l:∀ {q q' r'},R q q'->R q r'->q'=r'
 r:∀ {q r q'},R q q'->R r q'->q=r
theorem Side.mem {R:Nat->Nat->Prop} (hR:One R) {l l':List Nat} (h:Side R l l') {q q':Nat} (hq:R q q'):q∈l ↔ q'∈l':=by
 have hl:=h.len
 constructor
 ·intro hm
  obtain⟨i,hi,rfl⟩:=List.getElem_of_mem hm
  have:=h.get i hi
  rw[zF hi]at this
  rw[hR.l hq this,zF (by omega)]
  exact List.getElem_mem _
 ·intro hm
  obtain⟨i,hi,rfl⟩:=List.getElem_of_mem hm
  have:=h.get i (by omega)
  rw[zF hi,zF (show i < l.length by omega)]at this
  rw[hR.r hq this]
  exact List.getElem_mem _
theorem Side.add {R:Nat->Nat->Prop} (hR:One R) {l l':List Nat} (h:Side R l l') {q q':Nat} (hq:R q q'):Side R (xA l q) (xA l' q'):=by
 unfold xA
 by_cases e:q∈l
 ·rw[if_pos e,if_pos ((h.mem hR hq).1 e)];exact h
 ·rw[if_neg e,if_neg (fun e'=>e ((h.mem hR hq).2 e'))];exact .snoc h hq
theorem Side.idx {R:Nat->Nat->Prop} (hR:One R) {l l':List Nat} (h:Side R l l') (hn:l.Nodup) (hn':l'.Nodup) {q q':Nat} (hq:R q q') (hm:q∈l):l.idxOf q=l'.idxOf q':=by
 have hi:=List.idxOf_lt_length_of_mem hm
 have hl:=h.len
 have:=h.get _ hi
 rw[zF hi,List.getElem_idxOf,zF (show l.idxOf q < l'.length by omega)]at this
 have e:=hR.l hq this
 have h0:=(h.mem hR hq).1 hm
 have h1:=List.idxOf_lt_length_of_mem h0
 have e2:l'[l'.idxOf q']=l'[l.idxOf q]'(by omega):=by rw[List.getElem_idxOf];exact e
 exact((List.getElem_inj hn').1 e2).symm
section
variable {x x':DfaV} {n n' k:Nat} {R:Nat->Nat->Prop}
theorem bX (hR:One R) (hs:∀ {q q' a},R q q'->a < k->R (nx x q a) (nx x' q' a)) {l l':List Nat} (h:Side R l l') {i:Nat} (hi:i < l.length):∀ a,a<=k->Side R (wY x l i a) (wY x' l' i a)
 | 0,_=>h
 | a+1,ha=>(bX hR hs h hi a (by omega)).add hR (hs (h.get i hi) (by omega))
theorem qAO (hR:One R) (hs:∀ {q q' a},R q q'->a < k->R (nx x q a) (nx x' q' a)):∀ f i {l l':List Nat},Side R l l'->Side R (sZ x k f i l) (sZ x' k f i l')
 | 0,_,_,_,h=>h
 | f+1,i,l,l',h=>by
  rw[sZ,sZ,h.len]
  by_cases e:i < l'.length
  ·rw[if_pos e,if_pos e]
   exact qAO hR hs f (i+1) (bX hR hs h (by rw[h.len];exact e) k (Nat.le_refl _))
  ·rw[if_neg e,if_neg e];exact h
end
theorem gJ {d:DfaV} {n k:Nat} (hd:VD d n k):∀ f i l m,AccI d n k i l->n<=i+f->sZ d k (f+m) i l=sZ d k f i l
 | 0,i,l,m,h,hf=>by
  have hl:=lX h.nd h.lt
  rw[cW (f:=0+m) (by omega),sZ]
 | f+1,i,l,m,h,hf=>by
  rw[show f+1+m=(f+m)+1 by omega,sZ,sZ]
  by_cases e:i < l.length
  ·rw[if_pos e,if_pos e]
   exact gJ hd f (i+1) _ m (h.row hd e) (by omega)
  ·rw[if_neg e,if_neg e]
theorem jY {d:DfaV} {n k:Nat} (hd:VD d n k) (m:Nat):sZ d k (n+m) 0 [st0 d]=zT d k:=by
 rw[zT,hd.hn]
 exact gJ hd n 0 _ m (AccI.start hd) (by omega)
theorem trim_congr {x x':DfaV} {n n' k:Nat} (hx:VD x n k) (hx':VD x' n' k) (hr:∀ {c c'},c < n->c' < n->(∀ w,zX k w->acc x c w=acc x c' w)->c=c') (hr':∀ {c c'},c < n'->c' < n'->(∀ w,zX k w->acc x' c w=acc x' c' w)->c=c')
  (hl:∀ w,zX k w->acc x (st0 x) w=acc x' (st0 x') w):xK x k=xK x' k:=by
 obtain⟨R,h8⟩:∃ R:Nat->Nat->Prop,∀ q q',R q q' ↔ q < n/\q' < n'/\∀ w,zX k w->acc x q w=acc x' q' w:=⟨fun q q'=>q < n/\q' < n'/\∀ w,zX k w->acc x q w=acc x' q' w,fun _ _=>Iff.rfl⟩
 have hR:One R:=by
  refine⟨fun {q q' r'} h1 h2=>?_,fun {q r q'} h1 h2=>?_⟩
  ·obtain⟨_,h3,h4⟩:=(h8 _ _).1 h1
   obtain⟨_,h5,h6⟩:=(h8 _ _).1 h2
   exact hr' h3 h5 (fun w hw=>(h4 w hw).symm.trans (h6 w hw))
  ·obtain⟨h3,_,h4⟩:=(h8 _ _).1 h1
   obtain⟨h5,_,h6⟩:=(h8 _ _).1 h2
   exact hr h3 h5 (fun w hw=>(h4 w hw).trans (h6 w hw).symm)
 have hs:∀ {q q' a},R q q'->a < k->R (nx x q a) (nx x' q' a):=fun {q q' a} h ha=>by
  obtain⟨h1,h2,h3⟩:=(h8 _ _).1 h
  exact(h8 _ _).2 ⟨qF hx h1 ha,qF hx' h2 ha,fun w hw=>h3 (a :: w) (fun b hb=>by
   rcases List.mem_cons.1 hb with rfl|hb
   ·exact ha
   ·exact hw b hb)⟩
 have h0:R (st0 x) (st0 x'):=(h8 _ _).2 ⟨rB hx,rB hx',hl⟩
 have h7:Side R (zT x k) (zT x' k):=by
  have:=qAO (x:=x) (x':=x') (k:=k) hR hs (n+n') 0 (Side.snoc .nil h0)
  rw[List.nil_append,List.nil_append,jY hx n']at this
  rw[Nat.add_comm n n',jY hx' n]at this
  exact this
 have hA:=(yV hx).1
 have H2:=(yV hx').1
 have h9:=h7.len
 have hm:∀ i,i < (zT x k).length->(zT x k).getD i 0∈zT x k:=fun i hi=>by rw[zF hi];exact List.getElem_mem _
 have key:∀ i,i < (zT x k).length->(xK x k).final.getD i false=(xK x' k).final.getD i false:=fun i hi=>by
  rw[mD hx hi,mD hx' (by omega)]
  obtain⟨_,_,h⟩:=(h8 _ _).1 (h7.get i hi)
  exact h [] (fun a ha=>by simp at ha)
 have hv:=oG hx
 have H0:=oG hx'
 have e1:(xK x k).letters=(xK x' k).letters:=hx.hk.trans hx'.hk.symm
 have e3:(xK x k).final=(xK x' k).final:=by
  refine List.ext_getElem (by rw[hv.hn,H0.hn,h9]) fun i h1 h2=>?_
  have:=key i (by rw[hv.hn]at h1;exact h1)
  rw[zF h1,zF h2]at this
  exact this
 have e4:(xK x k).next=(xK x' k).next:=by
  refine List.ext_getElem (by rw[hv.nl,H0.nl,h9]) fun i h1 h2=>?_
  have hi:i < (zT x k).length:=by rw[hv.nl]at h1;exact h1
  have r1:=hv.row i hi
  have r2:=H0.row i (by omega)
  rw[zF h1]at r1
  rw[zF h2]at r2
  refine List.ext_getElem (by rw[r1,r2]) fun a h3 h4=>?_
  have ha:a < k:=by omega
  have t1:=nH hx hi ha
  have t2:=nH hx' (show i < (zT x' k).length by omega) ha
  have hq:=h7.get i hi
  have H3:=(yV hx).2
  have H1:=hA.cl i a (by omega) hi ha
  rw[h7.idx hR hA.nd H2.nd (hs hq ha) H1,<- t2]at t1
  unfold ent at t1
  rw[zF h1,zF h2,zF h3,zF h4]at t1
  exact t1
 show (⟨_,0,(xK x k).final,(xK x k).next⟩:DfaV)=⟨_,0,(xK x' k).final,(xK x' k).next⟩
 rw[e3,e4]
 exact congrArg (fun z=>(⟨z,0,(xK x' k).final,(xK x' k).next⟩:DfaV)) e1
theorem dM {d d':DfaV} {n n' k:Nat} (hd:VD d n k) (hd':VD d' n' k) (h:∀ w,zX k w->acc d (st0 d) w=acc d' (st0 d') w):minD d k=minD d' k:=by
 refine trim_congr (rO hd) (rO hd') (fun h1 h2=>aA hd h1 h2) (fun h1 h2=>aA hd' h1 h2) fun w hw=>?_
 rw[nJ,nJ,pH hd (rB hd) hw,pH hd' (rB hd') hw]
 exact h w hw
theorem min_trim {d:DfaV} {n k:Nat} (hd:VD d n k):minD (xK d k) k=minD d k:=dM (oG hd) hd (fun w hw=>by rw[show st0 (xK d k)=0 from rfl];exact bQ hd hw)
end Go.Proofs.Ytjfdomfendbhfaa
namespace Go.Proofs.Ytjfdomfendbhfaa
section
variable {α:Type} (nxt:α->Nat->α) (k:Nat) (s0:α)
def sR (x:α) (w:List Nat):α:=w.foldl nxt x
structure BfsI (l:List α) (i a:Nat):Prop where
 nd:l.Nodup
 hd:l[0]?=some s0
 le:i<=l.length
 cl:∀ j x,j < i->l[j]?=some x->∀ b,b < k->nxt x b∈l
 row:∀ x,l[i]?=some x->∀ b,b < a->b < k->nxt x b∈l
 re:∀ x∈l,∃ w,zX k w/\sR nxt s0 w=x
variable {nxt k s0}
theorem BfsI.start:BfsI nxt k s0 [s0] 0 0 :=
 ⟨by simp,rfl,by simp,fun j x h=>by omega,fun x _ b hb=>by omega,fun x hx=>⟨[],fun a ha=>by simp at ha,by simp at hx;exact hx.symm⟩⟩
theorem BfsI.old {l : List α} {i a : Nat} (h : BfsI nxt k s0 l i a) {x : α} (hx : l[i]? = some x) (hm : nxt x a ∈ l) : BfsI nxt k s0 l i (a + 1) :=
 ⟨h.nd, h.hd, h.le, h.cl, fun y hy b hb hbk => by
  rcases Nat.lt_succ_iff_lt_or_eq.1 hb with hb | rfl
  ·exact h.row y hy b hb hbk
  ·rw [hx] at hy; rw [← Oj hy]; exact hm, h.re⟩
theorem BfsI.new {l:List α} {i a:Nat} (h:BfsI nxt k s0 l i a) (ha:a < k) {x:α} (hx:l[i]?=some x) (hm:nxt x a ∉ l):BfsI nxt k s0 (l ++ [nxt x a]) i (a+1):=by
 have hi:i < l.length:=(List.getElem?_eq_some_iff.1 hx).1
 have h0:∀ j,j < l.length->(l ++ [nxt x a])[j]?=l[j]?:=fun j hj=>List.getElem?_append_left hj
 refine⟨?_,?_,by simp;omega,fun j y hj hy b hb=>?_,fun y hy b hb hbk=>?_,fun y hy=>?_⟩
 ·rw[List.nodup_append]
  exact⟨h.nd,by simp,fun y hy z hz e=>by simp at hz;subst hz;subst e;exact hm hy⟩
 ·rw[h0 0 (by omega)];exact h.hd
 ·rw[h0 j (by omega)]at hy
  exact List.mem_append_left _ (h.cl j y hj hy b hb)
 ·rw[h0 i hi]at hy
  rcases Nat.lt_succ_iff_lt_or_eq.1 hb with hb|rfl
  ·exact List.mem_append_left _ (h.row y hy b hb hbk)
  ·rw[hx]at hy;rw[<- Oj hy];simp
 ·rcases List.mem_append.1 hy with hy|hy
  ·exact h.re y hy
  ·simp at hy
   subst hy
   obtain⟨w,hw,e⟩:=h.re x (List.mem_of_getElem? hx)
   refine⟨w ++ [a],fun b hb=>?_,?_⟩
   ·rcases List.mem_append.1 hb with hb|hb
    ·exact hw b hb
    ·simp at hb;omega
   ·simp[sR]at e ⊢;rw[e]
theorem BfsI.next {l : List α} {i : Nat} (h : BfsI nxt k s0 l i k) (hi : i < l.length) : BfsI nxt k s0 l (i + 1) 0 :=
 ⟨h.nd, h.hd, hi, fun j x hj hx b hb => by
  rcases Nat.lt_succ_iff_lt_or_eq.1 hj with hj | rfl
  ·exact h.cl j x hj hx b hb
  ·exact h.row x hx b hb hb, fun x _ b hb => by omega, h.re⟩
structure BfsD (nxt:α->Nat->α) (k:Nat) (s0:α) (l:List α):Prop where
 nd:l.Nodup
 hd:l[0]?=some s0
 cl:∀ x∈l,∀ b,b < k->nxt x b∈l
 re:∀ x∈l,∃ w,zX k w/\sR nxt s0 w=x
theorem BfsI.done {l : List α} {i : Nat} (h : BfsI nxt k s0 l i 0) (hi : ¬ i < l.length) : BfsD nxt k s0 l :=
 ⟨h.nd, h.hd, fun x hx b hb => by
  obtain ⟨j, hj, e⟩ := List.getElem_of_mem hx
  exact h.cl j x (by omega) (by rw [List.getElem?_eq_getElem hj, e]) b hb, h.re⟩
theorem BfsD.all {l:List α} (h:BfsD nxt k s0 l):∀ (w:List Nat) {x:α},x∈l->zX k w->sR nxt x w∈l
 | [],x,hx,_=>hx
 | a :: w,x,hx,hw=>BfsD.all h w (h.cl x hx a (hw a (by simp))) (fun b hb=>hw b (List.mem_cons_of_mem _ hb))
theorem BfsD.mem0 {l:List α} (h:BfsD nxt k s0 l):s0∈l:=List.mem_of_getElem? h.hd
theorem BfsD.sub {l:List α} (h:BfsD nxt k s0 l) {m:List α} (hm:m.Nodup) (hr:∀ x∈m,∃ w,zX k w/\sR nxt s0 w=x):m.length<=l.length :=
 hm.length_le_of_subset fun x hx=>by
  obtain⟨w,hw,rfl⟩:=hr x hx
  exact h.all w h.mem0 hw
def jX {α:Type} [BEq α] (nxt:α->Nat->α) (k:Nat) (l:List α) (x:α):List Int:=(List.range k).map fun a=>((l.idxOf (nxt x a):Nat):Int)
def bfsA {α:Type} [BEq α] (nxt:α->Nat->α) (k:Nat) (fin:α->Bool) (l:List α):DfaV:=⟨k,0,l.map fin,l.map (jX nxt k l)⟩
variable {fin:α->Bool}
theorem nY [BEq α] {l:List α} {i:Nat} (hi:i < l.length):(bfsA nxt k fin l).next.getD i []=jX nxt k l l[i]:=by
 show (l.map (jX nxt k l)).getD i []=_
 rw[zF (by simpa using hi)];simp
theorem qBS [BEq α] {l:List α} {i a:Nat} (hi:i < l.length) (ha:a < k):nx (bfsA nxt k fin l) i a=l.idxOf (nxt l[i] a):=by
 unfold nx entN ent
 rw[nY hi,jX,zF (by simpa using ha)]
 simp
theorem BfsD.vd [BEq α] [LawfulBEq α] {l:List α} (h:BfsD nxt k s0 l) (h1:1<=k) (h6:k<=6) (hl:l.length<=4194304):VD (bfsA nxt k fin l) l.length k:=by
 have h0:0 < l.length:=(List.getElem?_eq_some_iff.1 h.hd).1
 have hr:∀ q,q < l.length->((bfsA nxt k fin l).next.getD q []).length=k:=fun q hq=>by rw[nY hq];simp[jX]
 refine⟨rfl,h1,h6,by simp[bfsA],h0,hl,by simp[bfsA],by show (0:Int)<=0;omega,by show (0:Int) < _;omega,hr,fun q a hq ha=>?_,fun q a hq ha=>?_⟩
 ·unfold ent
  rw[nY hq,jX,zF (by simpa using ha)]
  simp
 ·unfold ent
  rw[nY hq,jX,zF (by simpa using ha)]
  simp only[List.getElem_map,List.getElem_range]
  have:=List.idxOf_lt_length_of_mem (h.cl l[q] (List.getElem_mem hq) a ha)
  omega
theorem BfsD.run [BEq α] [LawfulBEq α] {l:List α} (h:BfsD nxt k s0 l):∀ (w:List Nat) {i:Nat} (hi:i < l.length),zX k w->Go.Proofs.Ytjfdomfendbhfaa.run (bfsA nxt k fin l) i w=l.idxOf (sR nxt l[i] w)
 | [],i,hi,_=>by
  show i=l.idxOf l[i]
  exact(h.nd.idxOf_getElem i hi).symm
 | a :: w,i,hi,hw=>by
  have ha:=hw a (by simp)
  have hm:=h.cl l[i] (List.getElem_mem hi) a ha
  have hj:=List.idxOf_lt_length_of_mem hm
  show Go.Proofs.Ytjfdomfendbhfaa.run (bfsA nxt k fin l) (nx (bfsA nxt k fin l) i a) w=_
  rw[qBS hi ha,BfsD.run h w hj (fun b hb=>hw b (List.mem_cons_of_mem _ hb)),List.getElem_idxOf]
  rfl
theorem BfsD.acc [BEq α] [LawfulBEq α] {l:List α} (h:BfsD nxt k s0 l) {w:List Nat} (hw:zX k w):Go.Proofs.Ytjfdomfendbhfaa.acc (bfsA nxt k fin l) (st0 (bfsA nxt k fin l)) w=fin (sR nxt s0 w):=by
 obtain⟨h0,e⟩:=List.getElem?_eq_some_iff.1 h.hd
 show (l.map fin).getD (Go.Proofs.Ytjfdomfendbhfaa.run (bfsA nxt k fin l) 0 w) false=_
 rw[h.run w h0 hw,e]
 have hm:=h.all w h.mem0 hw
 have hj:=List.idxOf_lt_length_of_mem hm
 rw[zF (by simpa using hj)]
 simp[List.getElem_map]
end
end Go.Proofs.Ytjfdomfendbhfaa
namespace Go.Proofs.Ytjfdomfendbhfaa
def nxtT (ds:List DfaV) (x:List Nat) (a:Nat):List Nat:=(List.range ds.length).map fun i=>nx (ds.getD i ⟨0,0,[],[]⟩) (x.getD i 0) a
def st0T (ds:List DfaV):List Nat:=ds.map st0
def dN:DfaV:=⟨0,0,[],[]⟩
theorem oM (ds:List DfaV) (x:List Nat) (a:Nat):(nxtT ds x a).length=ds.length:=by simp[nxtT]
theorem rM (ds:List DfaV):(st0T ds).length=ds.length:=by simp[st0T]
theorem fH {ds:List DfaV} {x:List Nat} {a i:Nat} (hi:i < ds.length):(nxtT ds x a).getD i 0=nx (ds.getD i dN) (x.getD i 0) a:=by
 rw[zF (by rw[oM];exact hi)]
 simp[nxtT,dN]
theorem gR {ds:List DfaV} {i:Nat} (hi:i < ds.length):(st0T ds).getD i 0=st0 (ds.getD i dN):=by
 rw[zF (by rw[rM];exact hi),zF hi];simp[st0T]
theorem eO {ds:List DfaV} {i:Nat} (hi:i < ds.length):∀ (w:List Nat) (x:List Nat),(sR (nxtT ds) x w).getD i 0=run (ds.getD i dN) (x.getD i 0) w
 | [],x=>rfl
 | a :: w,x=>by
  show (sR (nxtT ds) (nxtT ds x a) w).getD i 0=run (ds.getD i dN) (nx (ds.getD i dN) (x.getD i 0) a) w
  rw[eO hi w,fH hi]
def accT (ds:List DfaV) (x:List Nat) (i:Nat):Bool:=(ds.getD i dN).final.getD (x.getD i 0) false
theorem wK {ds:List DfaV} {i:Nat} (hi:i < ds.length) (w:List Nat):accT ds (sR (nxtT ds) (st0T ds) w) i=acc (ds.getD i dN) (st0 (ds.getD i dN)) w:=by
 unfold accT acc
 rw[eO hi,gR hi]
def OkT (ds:List DfaV) (k:Nat):Prop:=∀ i,i < ds.length->∃ n,VD (ds.getD i dN) n k/\n<=512
def InT (ds:List DfaV) (x:List Nat):Prop:=x.length=ds.length/\∀ i,i < ds.length->x.getD i 0 < (ds.getD i dN).final.length
theorem OkT.in0 {ds:List DfaV} {k:Nat} (h:OkT ds k):InT ds (st0T ds):=⟨rM ds,fun i hi=>by
 obtain⟨n,hv,_⟩:=h i hi
 rw[gR hi,hv.hn];exact rB hv⟩
theorem OkT.next {ds:List DfaV} {k:Nat} (h:OkT ds k) {x:List Nat} (hx:InT ds x) {a:Nat} (ha:a < k):InT ds (nxtT ds x a):=⟨oM ds x a,fun i hi=>by
 obtain⟨n,hv,_⟩:=h i hi
 have h1:=hx.2 i hi
 rw[hv.hn]at h1 ⊢
 rw[fH hi];exact qF hv h1 ha⟩
theorem OkT.small {ds:List DfaV} {k:Nat} (h:OkT ds k) {x:List Nat} (hx:InT ds x):∀ i,i < ds.length->x.getD i 0 < 512:=fun i hi=>by
 obtain⟨n,hv,h5⟩:=h i hi
 have h1:=hx.2 i hi
 rw[hv.hn]at h1;omega
theorem OkT.walk {ds:List DfaV} {k:Nat} (h:OkT ds k):∀ (w:List Nat) {x:List Nat},InT ds x->zX k w->InT ds (sR (nxtT ds) x w)
 | [],x,hx,_=>hx
 | a :: w,x,hx,hw=>OkT.walk h w (h.next hx (hw a (by simp))) (fun b hb=>hw b (List.mem_cons_of_mem _ hb))
def qCG (ds:List DfaV) (k:Nat):Prop:=∃ l,BfsD (nxtT ds) k (st0T ds) l/\l.length<=4000
def Over (ds:List DfaV) (k:Nat):Prop:=∃ l:List (List Nat),l.Nodup/\(∀ x∈l,∃ w,zX k w/\sR (nxtT ds) (st0T ds) w=x)/\4000 < l.length
theorem iF {ds:List DfaV} {k:Nat} (h:qCG ds k) (h':Over ds k):False:=by
 obtain⟨l,hl,h1⟩:=h
 obtain⟨m,hm,hr,h2⟩:=h'
 have:=hl.sub hm hr
 omega
theorem BfsI.over {ds:List DfaV} {k i a:Nat} {l:List (List Nat)} (h:BfsI (nxtT ds) k (st0T ds) l i a) (hl:l.length=4000) (ha:a < k) {x:List Nat} (hx:l[i]?=some x) (hm:nxtT ds x a ∉ l):Over ds k:=by
 have:=h.new ha hx hm
 exact⟨_,this.nd,this.re,by simp;omega⟩
def Conf (ds:List DfaV) (np k:Nat):Prop:=∃ u v,zX k u/\zX k v/\(∀ i,i < np->acc (ds.getD i dN) (st0 (ds.getD i dN)) u=acc (ds.getD i dN) (st0 (ds.getD i dN)) v)/\acc (ds.getD np dN) (st0 (ds.getD np dN)) u=true/\acc (ds.getD np dN) (st0 (ds.getD np dN)) v=false
def mtsT (ds:List DfaV) (np:Nat) (x:List Nat):List Bool:=(List.range np).map fun i=>accT ds x i
theorem oP (ds:List DfaV) (np:Nat) (x:List Nat):(mtsT ds np x).length=np:=by simp[mtsT]
theorem nO {ds:List DfaV} {np i:Nat} {x:List Nat} (hi:i < np):(mtsT ds np x).getD i false=accT ds x i:=by
 rw[zF (by rw[oP];exact hi)];simp[mtsT]
theorem qBA {ds:List DfaV} {np:Nat} {x y:List Nat}:mtsT ds np x=mtsT ds np y ↔ ∀ i,i < np->accT ds x i=accT ds y i:=by
 constructor
 ·intro h i hi
  rw[<- nO hi,h,nO hi]
 ·intro h
  exact List.map_congr_left fun i hi=>h i (List.mem_range.1 hi)
theorem kE {ds:List DfaV} {np k:Nat} (hn:np < ds.length) {l:List (List Nat)} (h:BfsD (nxtT ds) k (st0T ds) l) :
  Conf ds np k ↔ ∃ x y,x∈l/\y∈l/\mtsT ds np x=mtsT ds np y/\accT ds x np=true/\accT ds y np=false:=by
 constructor
 ·rintro ⟨u,v,hu,hv,h1,h2,h3⟩
  refine⟨_,_,h.all u h.mem0 hu,h.all v h.mem0 hv,qBA.2 fun i hi=>?_,?_,?_⟩
  ·rw[wK (by omega),wK (by omega)];exact h1 i hi
  ·rw[wK hn];exact h2
  ·rw[wK hn];exact h3
 ·rintro ⟨x,y,hx,hy,h1,h2,h3⟩
  obtain⟨u,hu,rfl⟩:=h.re x hx
  obtain⟨v,hv,rfl⟩:=h.re y hy
  refine⟨u,v,hu,hv,fun i hi=>?_,?_,?_⟩
  ·have:=qBA.1 h1 i hi
   rwa [wK (by omega),wK (by omega)]at this
  ·rwa [wK hn]at h2
  ·rwa [wK hn]at h3
end Go.Proofs.Ytjfdomfendbhfaa
