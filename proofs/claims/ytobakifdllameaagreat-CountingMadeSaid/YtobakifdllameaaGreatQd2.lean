/- Part 2 of the proof. -/
import Derived.Test.YtobakifdllameaaGreatQd1
import Derived.Maps.Own
import Derived.Maps.Views
set_option linter.unusedVariables false
set_option linter.unusedSimpArgs false
set_option maxRecDepth 100000
set_option maxHeartbeats 16000000
namespace Go.Proofs.YtobakifdllameaaGreat
open Go.RowKit
theorem jZ (p q:Nat->Bool)(a9:∀j,q j=true->p j=true):∀l:List Nat,(l.filter q).length<=(l.filter p).length
 | []=>Nat.le_refl _
 | x::l=>by
  have ih:=jZ p q a9 l
  by_cases hq:q x=true
  ·rw[List.filter_cons_of_pos hq,List.filter_cons_of_pos (a9 x hq)]
   simp only[List.length_cons];omega
  ·rw[List.filter_cons_of_neg hq]
   by_cases hp:p x=true
   ·rw[List.filter_cons_of_pos hp];simp only[List.length_cons];omega
   ·rw[List.filter_cons_of_neg hp];exact ih
theorem jY (p q:Nat->Bool)(a9:∀j,q j=true->p j=true){i:Nat}(hp:p i=true)(hq:q i=false):∀l:List Nat,i∈l->(l.filter q).length<(l.filter p).length
 | [],h=>by cases h
 | x::l,h=>by
  rcases List.mem_cons.1 h with rfl|h'
  ·have:=jZ p q a9 l
   rw[List.filter_cons_of_pos hp,List.filter_cons_of_neg (by rw[hq];simp)]
   simp only[List.length_cons];omega
  ·have ih:=jY p q a9 hp hq l h'
   by_cases hqx:q x=true
   ·rw[List.filter_cons_of_pos hqx,List.filter_cons_of_pos (a9 x hqx)]
    simp only[List.length_cons];omega
   ·rw[List.filter_cons_of_neg hqx]
    by_cases hpx:p x=true
    ·rw[List.filter_cons_of_pos hpx];simp only[List.length_cons];omega
    ·rw[List.filter_cons_of_neg hpx];exact ih
section
variable {P:Program} {md:Region.Mode} {ops:Array Oper} {Q:Exit->Act->World->Prop}
def qFH (ops:Array Oper)(listed:Array Bool):Nat:=((List.range ops.size).filter fun i=>!listed.getD i true).length
theorem dV {listed:Array Bool}{i:Nat}(hi:i∈Region.ready md ops listed):qFH ops (listed.setIfInBounds i true)<qFH ops listed:=by
 obtain⟨h0,o,ho,_⟩:=mem_ready.1 hi
 have h1:i<ops.size:=by
  rcases Nat.lt_or_ge i ops.size with h|h
  ·exact h
  rw[Array.getElem?_eq_none h]at ho;cases ho
 refine jY _ _ (fun j hj=>?_) (i:=i) (by rw[h0];rfl) (by rw[uU];rfl) _ (List.mem_range.2 h1);by_cases e:i=j
 ·subst e;rw[uU]at hj;cases hj
 rwa [Go.getD_set_ne true e]at hj
end
structure ElemN (P:Program)(t e:TypeId)(sz:Nat)(z:Value)(bytes:Nat):Prop where
 ht:P.underlying t=some (.slice e)
 hi:(P.info? e).map (fun i=>(i.zero,i.size,i.bytes))=some (some z,sz,bytes)
 hz:z.cells.size=sz
 pos:0<sz
theorem ElemOk.toN {P:Program}{t e:TypeId}{z:Value}{a9:Nat}(E:ElemOk P t e z a9):ElemN P t e 1 z a9:=⟨E.ht,E.hi,E.hz,by decide⟩
theorem mH {P:Program}{w:World}(base:Nat)(t ty:TypeId){e:TypeId}{z:Value}{a7:Nat}(E:ElemOk P t e z a7)(v:Value)(n:Nat)(xs:List Value)(a8:w.ownsRow base e 1 v n xs)(g c:Nat)(u:Value)(hu:w.cell? ⟨g,0,none⟩=some u)(h1:u.oneCell'=true)(a5:n+1<=maxLen)(a9:(n+1)*a7<=140737488355328)(a6:base<=w.heap.size):∃v' w',(Builtin.append_ #[t,t] ty #[v,.slice (some ⟨g,0,none⟩) 1 c]).run P w=.ok v' w'/\w'.ownsRow base e 1 v' (n+1) (xs++[u])/\w.grownBy w' v.ownBlock/\jJ w w' v v':=by
 obtain⟨i,hi,hz,h5,H0⟩:=info_parts E.hi
 have h0:∀j u',[u][j]?=some u'->w.cell? ((⟨g,0,none⟩:Addr).add j)=some u':=by
  intro j u' hj
  match j,hj with
  | 0,hj=>simp at hj;subst hj;simpa [Addr.add] using hu
 have h7:∀u'∈[u],u'.oneCell'=true:=by intro u' hu;simp at hu;subst hu;exact h1
 obtain⟨v',w',hr,h2,h3,h4⟩:=run_append_own (P:=P) w base t ty e i z 1 a7 E.ht hi hz h5 H0 E.hz (by decide) v n xs a8 ⟨g,0,none⟩ 1 c [u] rfl h0 h7 a5 a9 a6;refine⟨v',w',hr,h2,h3,?_⟩;have h9:n+1<=9223372036854775807:=by simp only[maxLen]at a5;omega
 rcases a8.2 with ⟨rfl,rfl⟩|⟨b,cap,cur,rfl,hb,hg,hnc,hcm,hcs,htake⟩
 ·have h6:=run_append_nil (P:=P) w t ty e i z E.ht hi hz ⟨g,0,none⟩ 1 c [u] (by simp[h5]) h0 (by omega) (by omega) (by rw[H0];simp at a9;omega)
  rw[h6]at hr;injection hr with e1 e2;subst e1;subst e2;refine .inr ⟨wW (Ga w _ none) rfl rfl rfl rfl,fun k hk=>?_⟩;have:w.heap.size=k:=by simpa [Value.ownBlock] using hk
  omega
 by_cases hroom:n+1<=cap
 ·obtain⟨w2,h6,_⟩:=run_append_fits (P:=P) w base t ty e i 1 E.ht hi h5 b n cap xs a8 ⟨g,0,none⟩ 1 c [u] rfl h0 h7 hroom
  rw[h6]at hr;injection hr with e1 e2;subst e1;exact .inl rfl
 have h8:∀j u,xs[j]?=some u->w.cell? ((⟨b,0,none⟩:Addr).add j)=some u:=a8.cells (g:=b) rfl;have H1:xs.length=n*i.size:=by rw[h5];exact a8.1
 have h6:=run_append_grow (P:=P) w t ty e i z E.ht hi hz ⟨b,0,none⟩ n cap xs H1 h8 ⟨g,0,none⟩ 1 c [u] (by simp[h5]) h0 (by omega) (by omega) (growslice_fits (by omega) (by rw[H0];exact a9));rw[h6]at hr;injection hr with e1 e2;subst e1;subst e2;refine .inr ⟨wW (Ga w _ none) rfl rfl rfl rfl,fun k hk=>?_⟩;have:w.heap.size=k:=by simpa [Value.ownBlock] using hk
 omega
structure RowS where
 base:Nat
 e:TypeId
 v:Value
 n:Nat
 xs:List Value
 sz:Nat
structure GrownBut (w w':World)(F:Nat->Prop):Prop where
 os:w'.os=w.os
 tape:w'.tape=w.tape
 output:w'.output=w.output
 size:w.heap.size<=w'.heap.size
 block:∀k,k<w.heap.size->¬F k->w'.heap[k]?=w.heap[k]?
theorem GrownBut.refl (w:World)(F:Nat->Prop):GrownBut w w F:=⟨rfl,rfl,rfl,Nat.le_refl _,fun _ _ _=>rfl⟩
theorem GrownBut.step {w w' a9:World}{F:Nat->Prop}{row:Option Nat}(h:GrownBut w w' F)(hg:w'.grownBy a9 row)(hr:∀k,row=some k->F k\/w.heap.size<=k):GrownBut w a9 F :=
 ⟨hg.os.trans h.os,hg.tape.trans h.tape,hg.output.trans h.output,Nat.le_trans h.size hg.size,fun k hk hf=>by
  refine(hg.block k (Nat.lt_of_lt_of_le hk h.size) fun e=>?_).trans (h.block k hk hf)
  rcases hr k e.symm with h|h
  ·exact hf h
  ·omega⟩
theorem GrownBut.grown {w0 w w':World}{F:Nat->Prop}{row:Option Nat}(h:GrownBut w w' F)(h0:w0.grownBy w row)(hF:∀k,F k->row=some k\/w0.heap.size<=k):w0.grownBy w' row :=
 ⟨h.os.trans h0.os,h.tape.trans h0.tape,h.output.trans h0.output,Nat.le_trans h0.size h.size,fun k hk hne=>by
  refine(h.block k (Nat.lt_of_lt_of_le hk h0.size) fun hf=>?_).trans (h0.block k hk hne)
  rcases hF k hf with e|e
  ·exact hne e.symm
  ·omega⟩
theorem GrownBut.cell {w w':World}{F:Nat->Prop}(h:GrownBut w w' F){p:Addr}{u:Value}(hc:w.cell? p=some u)(hf:¬F p.block):w'.cell? p=some u :=
 (World.cell?_of_block (h.block p.block (World.block_lt_of_cell? w p hc) hf)).trans hc
theorem GrownBut.heap {w w':World}{F:Nat->Prop}(h:GrownBut w w' F){p:Nat}{o:Obj}(hc:w.heap[p]?=some o)(hf:¬F p):w'.heap[p]?=some o :=
 (h.block p (zR hc) hf).trans hc
structure Many (w0:World)(F:Nat->Prop)(W:World)(rs:List RowS)(ls:List (Nat×Obj))(ps:List (Nat×TypeId×List Value)):Prop where
 own:∀(j:Nat) (r:RowS),rs[j]?=some r->W.ownsRow r.base r.e r.sz r.v r.n r.xs
 mine:∀(j:Nat) (r:RowS),rs[j]?=some r->∀k,r.v.ownBlock=some k->F k\/w0.heap.size<=k
 apart:∀(i j:Nat) (r s:RowS),i≠j->rs[i]?=some r->rs[j]?=some s->∀k,r.v.ownBlock=some k->s.v.ownBlock≠some k
 lit:∀p∈ls,W.heap[p.1]?=some p.2/\(∀(j:Nat) (r:RowS),rs[j]?=some r->r.v.ownBlock≠some p.1)/\w0.heap.size<=p.1
 pre:∀p∈ps,Arr W p.1 p.2.1 p.2.2/\∀(j:Nat) (r:RowS),rs[j]?=some r->r.v.ownBlock=some p.1->p.2.2 <+: r.xs/\r.e=p.2.1/\r.sz=1
 but:GrownBut w0 W F
section
variable {w0 W:World} {F:Nat->Prop} {rs:List RowS} {ls:List (Nat×Obj)} {ps:List (Nat×TypeId×List Value)}
theorem qJZ {w:World}{base e n sz:Nat}{v:Value}{xs:List Value}(h:w.ownsRow base e sz v n xs){k:Nat}(hk:v.ownBlock=some k):k<w.heap.size:=(h.lt k hk).2
theorem zY {w w':World}{base e sz:Nat}{v:Value}{n:Nat}{xs:List Value}(h:w.ownsRow base e sz v n xs)(hg:w.grownBy w' none):w'.ownsRow base e sz v n xs:=by
 refine h.kept hg ?_;rcases hv:v.ownBlock with _|k
 ·exact .inl rfl
 exact .inr (by simp)
theorem Many.grow {W':World}(h:Many w0 F W rs ls ps)(hg:W.grownBy W' none):Many w0 F W' rs ls ps where
 own:=fun j r hr=>zY (h.own j r hr) hg
 mine:=h.mine
 apart:=h.apart
 lit:=fun p hp=>⟨zB (h.lit p hp).1 hg (by simp),(h.lit p hp).2⟩
 pre:=fun p hp=>⟨(h.pre p hp).1.kept hg (by simp),(h.pre p hp).2⟩
 but:=h.but.step hg (by simp)
theorem Many.drew (h:Many w0 F W rs ls ps):Many w0 F W.drew rs ls ps:=h.grow (zS W none)
theorem Many.alloc (h:Many w0 F W rs ls ps)(o:Obj):Many w0 F (W.alloc o) rs ((W.heap.size,o)::ls) ps where
 own:=fun j r hr=>(h.own j r hr).alloc o
 mine:=h.mine
 apart:=h.apart
 lit:=fun p hp=>by
  rcases List.mem_cons.1 hp with rfl|hp
  ·exact⟨heap_alloc_new W o,fun j r hr e=>(by have:=qJZ (h.own j r hr) e;simp only at this;omega),h.but.size⟩
  ·exact⟨zB (h.lit p hp).1 (Ga W o none) (by simp),(h.lit p hp).2⟩
 pre:=fun p hp=>⟨(h.pre p hp).1.kept (Ga W o none) (by simp),(h.pre p hp).2⟩
 but:=h.but.step (Ga W o none) (by simp)
theorem eE {α:Type}{l:List α}{j i:Nat}{x r:α}(h:(l.set j x)[i]?=some r):(i=j/\r=x/\j<l.length)\/(i≠j/\l[i]?=some r):=by
 by_cases e:i=j
 ·subst e
  left;rw[List.getElem?_set]at h;simp only[if_true]at h
  split at h
  ·exact⟨rfl,(Oj h).symm,by assumption⟩
  cases h
 exact .inr ⟨e,by rwa [List.getElem?_set_ne (Ne.symm e)]at h⟩
theorem Many.append {W':World}(h:Many w0 F W rs ls ps){j:Nat}{r:RowS}(hr:rs[j]?=some r){v':Value}{n':Nat}{us:List Value}(ho:W'.ownsRow r.base r.e r.sz v' n' (r.xs++us))(hg:W.grownBy W' r.v.ownBlock)(hm:jJ W W' r.v v'):Many w0 F W' (rs.set j ⟨r.base,r.e,v',n',r.xs++us,r.sz⟩) ls ps where
 own:=fun i s hs=>by
  rcases eE hs with ⟨rfl,rfl,_⟩|⟨hne,hs⟩
  ·exact ho
  ·refine(h.own i s hs).kept hg ?_
   rcases hb:s.v.ownBlock with _|k
   ·exact .inl rfl
   ·exact .inr fun e=>h.apart i j s r hne hs hr k hb (by rw[<-e])
 mine:=fun i s hs k hk=>by
  rcases eE hs with ⟨rfl,rfl,_⟩|⟨hne,hs⟩
  ·rcases hm with hm|⟨_,hm⟩
   ·exact h.mine i r hr k (hm ▸ hk)
   ·have:=hm k hk
    have:=h.but.size
    exact .inr (by omega)
  ·exact h.mine i s hs k hk
 apart:=fun i i' s s' hne hs hs' k hk=>by
  rcases eE hs with ⟨rfl,rfl,_⟩|⟨h1,hs2⟩
  ·rcases eE hs' with ⟨rfl,_,_⟩|⟨h2,hs'⟩
   ·exact absurd rfl hne
   ·rcases hm with hm|⟨_,hm⟩
    ·exact h.apart i i' r s' hne hr hs' k (hm ▸ hk)
    ·intro e
     have h3:=hm k hk
     have h4:=qJZ (h.own i' s' hs') e
     omega
  ·rcases eE hs' with ⟨rfl,rfl,_⟩|⟨h2,hs'⟩
   ·rcases hm with hm|⟨_,hm⟩
    ·exact fun e=>h.apart i i' s r hne hs2 hr k hk (by rw[<-hm];exact e)
    ·intro e
     have h3:=hm k e
     have h4:=qJZ (h.own i s hs2) hk
     omega
   ·exact h.apart i i' s s' hne hs2 hs' k hk
 lit:=fun p hp=>by
  obtain⟨h1,h2,hlow⟩:=h.lit p hp
  refine⟨zB h1 hg (h2 j r hr),fun i s hs e=>?_,hlow⟩
  rcases eE hs with ⟨rfl,rfl,_⟩|⟨hne,hs⟩
  ·rcases hm with hm|⟨_,hm⟩
   ·exact h2 i r hr (hm ▸ e)
   ·have h3:=hm _ e
    have h4:=zR h1
    omega
  ·exact h2 i s hs e
 pre:=fun p hp=>by
  obtain⟨h1,h2⟩:=h.pre p hp
  have harr:Arr W' p.1 p.2.1 p.2.2:=by
   by_cases e:r.v.ownBlock=some p.1
   ·rcases hm with hm|⟨hm,_⟩
    ·obtain⟨h3,h4,h5⟩:=h2 j r hr e
     rw[h5]at ho;rcases ho.2 with ⟨hv,_⟩|⟨g,cap,cur,hv,_⟩
     ·rw[hv]at hm;rw[e]at hm;simp[Value.ownBlock]at hm
     ·subst hv
      have h0:g=p.1:=by rw[e]at hm;simpa [Value.ownBlock] using hm
      subst h0;have ha:=Arr.of_owns ho;rw[h4]at ha;obtain⟨q,hq⟩:=h3;rw[<-hq,List.append_assoc]at ha;exact ha.front
    ·exact h1.kept hm (by simp)
   ·exact h1.kept hg e
  refine⟨harr,fun i s hs e=>?_⟩;rcases eE hs with ⟨rfl,rfl,_⟩|⟨hne,hs⟩
  ·rcases hm with hm|⟨_,hm⟩
   ·obtain⟨h3,h4,h5⟩:=h2 i r hr (hm ▸ e)
    exact⟨h3.trans (List.prefix_append _ _),h4,h5⟩
   ·have h3:=hm _ e
    have h4:=h1.lt;omega
  ·exact h2 i s hs e
 but:=h.but.step hg (h.mine j r hr)
theorem Many.litcell (h:Many w0 F W rs ls ps){g e:Nat}{u:Value}{m:Nat×Nat}(hl:(g,Obj.cells #[u] e m)∈ls):W.cell? ⟨g,0,none⟩=some u:=by
 simpa using zH (h.lit _ hl).1 0 (by simp)
theorem Many.precell (h:Many w0 F W rs ls ps){g e:Nat}{xs:List Value}(hp:(g,e,xs)∈ps)(i:Nat)(hi:i<xs.length):W.cell? ⟨g,i,none⟩=some xs[i]:=(h.pre _ hp).1.cell i hi
theorem wO {P : Program}{W : World}{ops : Array Oper}{o : Oper}{a : Act}{K : Act → World → Prop}{Q : Exit → Act → World → Prop}{R : Prop}(a8 : o.guard = none)(s x : Operand)(t : TypeId)(ho : o.op = .call { callee := .builtin .append, args := #[s, x], argTypes := #[t, t] }){e : TypeId}{z : Value}{a9 : Nat}(E : ElemOk P t e z a9)(j : Nat)(g c : Nat)(hx : a.eval x = .slice (some ⟨g, 0, none⟩) 1 c)(h : ∃ (w0 : World) (F : Nat → Prop) (rs : List RowS) (ls : List (Nat × Obj)) (ps : List (Nat × TypeId × List Value)), Many w0 F W rs ls ps ∧
   ∃ r : RowS, rs[j]? = some r ∧ r.e = e ∧ r.sz = 1 ∧ a.eval s = r.v ∧ r.n + 1 ≤ maxLen ∧ (r.n + 1) * a9 ≤ 140737488355328 ∧ r.base ≤ w0.heap.size ∧
   ∃ (u : Value) (g' : Nat) (m : Nat × Nat), (g', Obj.cells #[u] e m) ∈ ls ∧ g' = g ∧ u.oneCell' = true ∧
   ∀ sa sc w', Many w0 F w' (rs.set j ⟨r.base, r.e, .slice sa (r.n + 1) sc, r.n + 1, r.xs ++ [u], r.sz⟩) ls ps → K (a.put o.dst (.slice sa (r.n + 1) sc)) w'): if Region.wanted o (yielded ops a.tmps) = true then Oper.wp P o a W K Q else R := by
 obtain ⟨w0, F, rs, ls, ps, h, r, hr, rfl, hsz, hs, h63, hbytes, hbase, u, g', m, hl, rfl, h1, hK⟩ := h
 have hw : Region.wanted o (yielded ops a.tmps) = true := by simp [Region.wanted, a8]
 rw [if_pos hw]
 have hu : W.cell? ⟨g', 0, none⟩ = some u := by simpa using zH (h.lit _ hl).1 0 (by simp)
 obtain ⟨v', w', hrun, h2, h3, h4⟩ := mH (P := P) r.base t o.type E r.v r.n r.xs (by have := h.own j r hr; rwa [hsz] at this) g' c u hu h1 h63 hbytes (Nat.le_trans hbase h.but.size)
 obtain ⟨sa, sc, rfl⟩ := qU h2
 unfold Oper.wp execOp
 simp only [ho, resolve, invoke, builtin, Sem.run_bind, Sem.run_pure, Result.andThen_ok, List.map_toArray, List.map_cons, List.map_nil, hs, hx, hrun]
 exact hK sa sc w' (h.append hr (by rw [hsz]; exact h2) h3 h4)
end
theorem Many.two {w:World}{r s:RowS}(hr:w.ownsRow r.base r.e r.sz r.v r.n r.xs)(hs:w.ownsRow s.base s.e s.sz s.v s.n s.xs)(a9:∀k,r.v.ownBlock=some k->s.v.ownBlock≠some k):
  Many w (fun k=>r.v.ownBlock=some k\/s.v.ownBlock=some k) w [r,s] [] [] where
 own:=fun j x hx=>by
  match j,hx with
  | 0,hx=>simp at hx;subst hx;exact hr
  | 1,hx=>simp at hx;subst hx;exact hs
 mine:=fun j x hx k hk=>by
  match j,hx with
  | 0,hx=>simp at hx;subst hx;exact .inl (.inl hk)
  | 1,hx=>simp at hx;subst hx;exact .inl (.inr hk)
 apart:=fun i j x y hij hx hy k hk=>by
  match i,j,hij,hx,hy with
  | 0,1,_,hx,hy=>simp at hx hy;subst hx;subst hy;exact a9 k hk
  | 1,0,_,hx,hy=>simp at hx hy;subst hx;subst hy;exact fun e=>a9 k e hk
  | 0,0,h,_,_=>exact absurd rfl h
  | 1,1,h,_,_=>exact absurd rfl h
 lit:=fun p hp=>by simp at hp
 pre:=fun p hp=>by simp at hp
 but:=GrownBut.refl _ _
theorem Many.see {w0 W:World}{F:Nat->Prop}{rs:List RowS}{ls:List (Nat×Obj)}{ps:List (Nat×TypeId×List Value)}(h:Many w0 F W rs ls ps){j g cap:Nat}{r:RowS}(hr:rs[j]?=some r)(hv:r.v=.slice (some ⟨g,0,none⟩) r.n cap)(hz:r.sz=1):Many w0 F W rs ls ((g,r.e,r.xs)::ps) where
 own:=h.own
 mine:=h.mine
 apart:=h.apart
 lit:=h.lit
 pre:=fun p hp=>by
  rcases List.mem_cons.1 hp with rfl|hp
  ·have ho:=h.own j r hr
   rw[hv,hz]at ho
   refine⟨Arr.of_owns ho,fun i s hs e=>?_⟩
   by_cases hij:i=j
   ·subst hij
    rw[hr]at hs
    have:=Oj hs
    subst this
    exact⟨List.prefix_refl _,rfl,hz⟩
   ·exact absurd (by rw[hv];rfl) (h.apart i j s r hij hs hr g e)
  ·exact h.pre p hp
 but:=h.but
def uZ (w:World)(sz:Nat)(sv:Value)(m:Nat)(news:List Value):Prop :=
 (∃a cap,sv=.slice a 0 cap/\m=0/\news=[])\/∃b off cap,sv=.slice (some ⟨b,off,none⟩) m cap/\news.length=m*sz/\m<=maxLen/\∀j u,news[j]?=some u->w.cell? ⟨b,off+j,none⟩=some u
theorem Row.src {B:Nat}{w:World}{v:Value}{xs:List Value}(h:Row B w v xs):uZ w 1 v xs.length xs:=by
 rcases h with ⟨a,cap,rfl,rfl⟩|⟨b,off,cap,rfl,_,h2,h3,hra⟩
 ·exact .inl ⟨a,cap,rfl,rfl,rfl⟩
 refine .inr ⟨b,off,cap,rfl,by omega,by omega,fun j u hj=>?_⟩
 have h0:j<xs.length:=by
  rcases Nat.lt_or_ge j xs.length with h|h
  ·exact h
  rw[List.getElem?_eq_none h]at hj;cases hj
 rw[List.getElem?_eq_getElem h0]at hj;rw[hra.2 j h0,hj]
theorem oZ {w:World}{base e sz n:Nat}{v:Value}{xs:List Value}(h:w.ownsRow base e sz v n xs):uZ w sz v n xs:=by
 have hl:=h.1;rcases h.2 with ⟨rfl,rfl⟩|⟨g,cap,cur,rfl,hb,hg,hnc,hcm,hcs,htake⟩
 ·exact .inl ⟨none,0,rfl,rfl,List.eq_nil_of_length_eq_zero (by simpa using hl)⟩
 refine .inr ⟨g,0,cap,rfl,hl,by omega,fun j u hj=>?_⟩;have:=h.cells (g:=g) rfl j u hj;have h0:(⟨g,0,none⟩:Addr).add j=⟨g,j,none⟩:=by unfold Addr.add;split<;>simp_all
 rw[h0]at this
 rwa [Nat.zero_add]
theorem rP {P:Program}{w:World}(base:Nat)(t ty:TypeId){e:TypeId}{sz:Nat}{z:Value}{a6:Nat}(E:ElemN P t e sz z a6)(v:Value)(n:Nat)(xs:List Value)(a8:w.ownsRow base e sz v n xs)(sv:Value)(m:Nat)(a9:List Value)(a4:uZ w sz sv m a9)(h1:∀u∈a9,u.oneCell'=true)(a3:n+m<=maxLen)(a7:(n+m)*a6<=140737488355328)(a5:base<=w.heap.size):∃v' w',(Builtin.append_ #[t,t] ty #[v,sv]).run P w=.ok v' w'/\w'.ownsRow base e sz v' (n+m) (xs++a9)/\w.grownBy w' v.ownBlock/\jJ w w' v v':=by
 obtain⟨i,hi,hz,h5,H0⟩:=info_parts E.hi;have h7:=E.pos;have H1:n+m<=9223372036854775807:=by simp only[maxLen]at a3;omega
 have H2:∀(b off j:Nat),(⟨b,off,none⟩:Addr).add j=⟨b,off+j,none⟩:=fun b off j=>by unfold Addr.add;split<;>simp_all
 have stay:∀(a':Addr) (cap:Nat),m=0->a9=[]->∃v' w',(Builtin.append_ #[t,t] ty #[v,.slice (some a') 0 cap]).run P w=.ok v' w'/\w'.ownsRow base e sz v' (n+m) (xs++a9)/\w.grownBy w' v.ownBlock/\jJ w w' v v':=by
  intro a' cap h9 hn;subst hn;subst h9;obtain⟨v',w',hr,h2,h3,h4⟩:=run_append_own (P:=P) w base t ty e i z sz a6 E.ht hi hz h5 H0 E.hz h7 v n xs a8 a' 0 cap [] (by simp) (fun j u hj=>by simp at hj) (fun u hu=>by simp at hu) (by simpa using a3) (by simpa using a7) a5;refine⟨v',w',hr,h2,h3,?_⟩;rcases a8.2 with ⟨rfl,rfl⟩|⟨b,bc,cur,rfl,hb,hg,hnc,hcm,hcs,htake⟩
  ·have:=h4.2 ⟨rfl,rfl⟩
   subst this;exact .inl rfl
  obtain⟨w2,h6,_⟩:=run_append_fits (P:=P) w base t ty e i sz E.ht hi h5 b n bc xs a8 a' 0 cap [] (by simp) (fun j u hj=>by simp at hj) (fun u hu=>by simp at hu) (by omega);rw[h6]at hr;injection hr with e1 e2;subst e1;exact .inl rfl
 rcases a4 with ⟨a',cap,rfl,rfl,rfl⟩|⟨b,off,cap,rfl,hnl,hml,hra⟩
 ·cases a' with
  | none =>
   have hr:(Builtin.append_ #[t,t] ty #[v,.slice none 0 cap]).run P w=.ok v w:=by
    rcases a8.2 with ⟨rfl,rfl⟩|⟨g,gc,cur,rfl,_,_,hnc,_⟩
    ·simp[Builtin.append_,run_underlying E.ht,sizeOf,typeInfo,hi,Builtin.lenOf,Builtin.firstCells]
    simp[Builtin.append_,run_underlying E.ht,sizeOf,typeInfo,hi,Builtin.lenOf,Builtin.firstCells,hnc,storeCells]
   exact⟨v,w,hr,by simpa using a8,zU _ _,.inl rfl⟩
  | some a'=>exact stay a' cap rfl rfl
 by_cases h9:m=0
 ·have H3:a9=[]:=List.eq_nil_of_length_eq_zero (by rw[hnl,h9];simp)
  subst h9;exact stay _ _ rfl H3
 have h0:∀j u',a9[j]?=some u'->w.cell? ((⟨b,off,none⟩:Addr).add j)=some u':=fun j u' hj=>by rw[H2];exact hra j u' hj
 obtain⟨v',w',hr,H6,H5,_⟩:=run_append_own (P:=P) w base t ty e i z sz a6 E.ht hi hz h5 H0 E.hz h7 v n xs a8 ⟨b,off,none⟩ m cap a9 hnl h0 h1 a3 a7 a5;refine⟨v',w',hr,H6,H5,?_⟩;rcases a8.2 with ⟨rfl,rfl⟩|⟨g,gc,cur,rfl,hb,hg,hnc,hcm,hcs,htake⟩
 ·have h6:=run_append_nil (P:=P) w t ty e i z E.ht hi hz ⟨b,off,none⟩ m cap a9 (by rw[hnl,h5]) h0 (by omega) (by omega) (by rw[H0];simp at a7;omega)
  rw[h6]at hr;injection hr with e1 e2;subst e1;subst e2;refine .inr ⟨wW (Ga w _ none) rfl rfl rfl rfl,fun k hk=>?_⟩;have:w.heap.size=k:=by simpa [Value.ownBlock] using hk
  omega
 by_cases hroom:n+m<=gc
 ·obtain⟨w2,h6,_⟩:=run_append_fits (P:=P) w base t ty e i sz E.ht hi h5 g n gc xs a8 ⟨b,off,none⟩ m cap a9 hnl h0 h1 hroom
  rw[h6]at hr;injection hr with e1 e2;subst e1;exact .inl rfl
 have h8:∀j u,xs[j]?=some u->w.cell? ((⟨g,0,none⟩:Addr).add j)=some u:=a8.cells (g:=g) rfl;have H4:xs.length=n*i.size:=by rw[h5];exact a8.1
 have h6:=run_append_grow (P:=P) w t ty e i z E.ht hi hz ⟨g,0,none⟩ n gc xs H4 h8 ⟨b,off,none⟩ m cap a9 (by rw[hnl,h5]) h0 (by omega) (by omega) (growslice_fits (by omega) (by rw[H0];exact a7));rw[h6]at hr;injection hr with e1 e2;subst e1;subst e2;refine .inr ⟨wW (Ga w _ none) rfl rfl rfl rfl,fun k hk=>?_⟩;have:w.heap.size=k:=by simpa [Value.ownBlock] using hk
 omega
section
variable {w0 W W':World} {F:Nat->Prop} {rs:List RowS} {ls ls':List (Nat×Obj)} {ps:List (Nat×TypeId×List Value)}
theorem Many.lit0 (h:Many w0 F W rs ls ps){j base sz:Nat}{e:TypeId}(hr:rs[j]?=some ⟨base,e,.slice none 0 0,0,[],sz⟩)(hb:base<=w0.heap.size):Many w0 F (W.alloc (.cells #[] e)) (rs.set j ⟨base,e,.slice (some ⟨W.heap.size,0,none⟩) 0 0,0,[],sz⟩) ls ps:=by
 have hg:=Ga W (.cells #[] e) none
 have:=h.append (W':=W.alloc (.cells #[] e)) (j:=j) hr (v':=.slice (some ⟨W.heap.size,0,none⟩) 0 0) (n':=0) (us:=[]) (by
  have h9:=heap_alloc_new W (.cells #[] e)
  exact⟨by simp,.inr ⟨W.heap.size,0,#[],rfl,Nat.le_trans hb h.but.size,h9,Nat.le_refl _,Nat.zero_le _,by simp,by simp⟩⟩) hg (.inr ⟨hg,fun k hk=>by
  have:W.heap.size=k:=by simpa [Value.ownBlock] using hk
  omega⟩)
 exact this
theorem Many.lits (h:Many w0 F W rs ls ps)(hs:∀p∈ls',p∈ls):Many w0 F W rs ls' ps:=⟨h.own,h.mine,h.apart,fun p hp=>h.lit p (hs p hp),h.pre,h.but⟩
theorem oF {P : Program}{ops : Array Oper}{o : Oper}{a : Act}{K : Act → World → Prop}{Q : Exit → Act → World → Prop}{R : Prop}(a8 : o.guard = none)(s x : Operand)(t : TypeId)(ho : o.op = .call { callee := .builtin .append, args := #[s, x], argTypes := #[t, t] }){e : TypeId}{sz : Nat}{z : Value}{a9 : Nat}(E : ElemN P t e sz z a9)(j : Nat)(sv : Value)(hx : a.eval x = sv)(h : ∃ (w0 : World) (F : Nat → Prop) (rs : List RowS) (ls : List (Nat × Obj)) (ps : List (Nat × TypeId × List Value)), Many w0 F W rs ls ps ∧
   ∃ (r : RowS) (m n' : Nat) (news : List Value), rs[j]? = some r ∧ r.e = e ∧ r.sz = sz ∧ a.eval s = r.v ∧ uZ W sz sv m news ∧ (∀ u ∈ news, u.oneCell' = true) ∧ r.n + m = n' ∧ n' ≤ maxLen ∧ n' * a9 ≤ 140737488355328 ∧ r.base ≤ w0.heap.size ∧
   ∀ sa sc w', Many w0 F w' (rs.set j ⟨r.base, r.e, .slice sa n' sc, n', r.xs ++ news, r.sz⟩) ls ps → K (a.put o.dst (.slice sa n' sc)) w'): if Region.wanted o (yielded ops a.tmps) = true then Oper.wp P o a W K Q else R := by
 obtain ⟨w0, F, rs, ls, ps, h, r, m, n', news, hr, rfl, rfl, hs, hrow, h1, rfl, h63, hbytes, hbase, hK⟩ := h
 have hw : Region.wanted o (yielded ops a.tmps) = true := by simp [Region.wanted, a8]
 rw [if_pos hw]
 obtain ⟨v', w', hrun, h2, h3, h4⟩ := rP (P := P) r.base t o.type E r.v r.n r.xs (h.own j r hr) sv m news hrow h1 h63 hbytes (Nat.le_trans hbase h.but.size)
 obtain ⟨sa, sc, rfl⟩ : ∃ sa sc, v' = .slice sa (r.n + m) sc := by
  rcases h2.2 with ⟨e1, e2⟩ | ⟨g, cap, cur, e1, _⟩
  ·exact ⟨none, 0, by rw [e1, e2]⟩
  ·exact ⟨_, _, e1⟩
 unfold Oper.wp execOp
 simp only [ho, resolve, invoke, builtin, Sem.run_bind, Sem.run_pure, Result.andThen_ok, List.map_toArray, List.map_cons, List.map_nil, hs, hx, hrun]
 exact hK sa sc w' (h.append hr h2 h3 h4)
end
def zP (a0:Act)(l:List (Nat×Value)):Act:=l.foldl (fun a p=>a.put (some p.1) p.2) a0
section
variable {P:Program} {md:Region.Mode} {ops:Array Oper} {Q:Exit->Act->World->Prop} {G:Array Bool->World->Prop}
theorem uR {a9:Nat}{listed:Array Bool}{a:Act}{w:World}(h:∀Wp:Nat->Array Bool->Act->World->Prop,Wp=tG P md ops Q G->∀a0,a0=a->Wp a9 listed a0 w):tG P md ops Q G a9 listed a w:=h _ rfl _ rfl
end
section
variable {P:Program} {md:Region.Mode} {ops:Array Oper} {Q:Exit->Act->World->Prop} {G:Array Bool->World->Prop}
theorem dR (I : Array Bool → Act → World → Prop)(hG : ∀ l a w, I l a w → G l w)(a9 : ∀ i o, ops[i]? = some o → ∀ listed a w, I listed a w → listed.getD i true = false → (∀ e ∈ o.after, Region.binds md e = true → listed.getD e.on false = true) →
   ∀ K' : Act → World → Prop, Shut (∀ a w, I (listed.setIfInBounds i true) a w → K' a w) → if Region.wanted o (yielded ops a.tmps) = true then Oper.wp P o a w K' Q else K' (a.put o.dst undef) w)(a8 : ∀ listed a w, I listed a w → Region.ready md ops listed = [] → Q .normal a w):
  ∀ (fuel : Nat) (listed : Array Bool) (a : Act) (w : World), qFH ops listed ≤ fuel → I listed a w → tG P md ops Q G fuel listed a w
 | 0, listed, a, w, hf, hI => by
  have hr : Region.ready md ops listed = [] := by
   rcases h : Region.ready md ops listed with _ | ⟨i, l⟩
   ·rfl
   ·have := dV (md := md) (ops := ops) (listed := listed) (i := i) (by rw [h]; exact List.mem_cons_self)
    omega
  exact ⟨hr, a8 _ _ _ hI hr⟩
 | fuel + 1, listed, a, w, hf, hI => by
  refine ⟨a8 _ _ _ hI, fun i hi => ?_⟩
  obtain ⟨h0, o, ho, hall⟩ := mem_ready.1 hi
  have hu := dV hi
  exact wpOp_mono (fun a' w' h => ⟨hG _ _ _ h, dR I hG a9 a8 fuel _ a' w' (by omega) h⟩) (wpOp_step (K := I (listed.setIfInBounds i true)) ho (fun K' hK => a9 i o ho _ _ _ hI h0 hall K' hK))
def iJ (P:Program)(md:Region.Mode)(ops:Array Oper)(Q:Exit->Act->World->Prop)(I:Array Bool->Act->World->Prop)(i:Nat)(o:Oper):Prop :=
 ∀listed a w,I listed a w->listed.getD i true=false->(∀e∈o.after,Region.binds md e=true->listed.getD e.on false=true) ->
  ∀K':Act->World->Prop,Shut (∀a w,I (listed.setIfInBounds i true) a w->K' a w)->if Region.wanted o (yielded ops a.tmps)=true then Oper.wp P o a w K' Q else K' (a.put o.dst undef) w
def pU (S:Nat->Oper->Prop):Nat->List Oper->Prop
 | _,[]=>True
 | k,o::l=>S k o/\pU S (k+1) l
theorem pU.get {S:Nat->Oper->Prop}:∀ {k:Nat} {l:List Oper},pU S k l->∀i o,l[i]?=some o->S (k+i) o
 | _,[],_,i,o,h=>by simp at h
 | k,x::l,h,0,o,e=>by
  have e:x=o:=by simpa using e
  subst e;exact h.1
 | k,x::l,h,i+1,o,e=>by
  have:=pU.get h.2 i o (by simpa using e)
  rwa [Nat.add_right_comm,Nat.add_assoc]at this
theorem qTI {S:Nat->Oper->Prop}{ops:Array Oper}(h:pU S 0 ops.toList):∀i o,ops[i]?=some o->S i o:=fun i o ho=>by
 have:=h.get i o (by simpa using ho)
 rwa [Nat.zero_add]at this
def qSW (ops:Array Oper):Bool:=(List.range ops.size).all fun i=>match ops[i]? with|some o=>o.after.all fun e=>decide (e.on<i)|none=>true
theorem qID {listed:Array Bool}(hw:qSW ops=true)(hr:Region.ready md ops listed=[]):∀j,j<ops.size->listed.getD j true=true:=by
 intro j
 induction j using Nat.strongRecOn with
 | ind j ih =>
  intro hj;rcases hl:listed.getD j true with _|_
  ·exfalso
   have h0:j<listed.size:=by
    rcases Nat.lt_or_ge j listed.size with h|h
    ·exact h
    simp[h]at hl
   have hm:j∈Region.ready md ops listed:=by
    refine mem_ready.2 ⟨hl,ops[j],Array.getElem?_eq_getElem hj,fun e he _=>?_⟩;have h1:=List.all_eq_true.1 hw j (List.mem_range.2 hj);rw[Array.getElem?_eq_getElem hj]at h1
    have h2:e.on<j:=by
     have:=Array.all_eq_true'.1 h1 e he;simpa using this
    have h3:=ih e.on h2 (by omega);have h4:e.on<listed.size:=(by omega);simpa [h4] using h3
   rw[hr]at hm;cases hm
  rfl
theorem uQ (I:Array Bool->Act->World->Prop)(hG:∀l a w,I l a w->G l w)(a8:∀(ops':Array Oper) (Q':Exit->Act->World->Prop),pU (iJ P md ops' Q' I) 0 ops.toList)(hw:qSW ops=true)(a7:∀listed a w,I listed a w->(∀j,j<ops.size->listed.getD j true=true)->Q .normal a w){a9:Nat}{listed:Array Bool}{a:Act}{w:World}(hf:qFH ops listed<=a9)(hI:I listed a w):tG P md ops Q G a9 listed a w :=
 dR I hG (qTI (a8 ops Q)) (fun l a w h hr=>a7 l a w h (qID hw hr)) a9 listed a w hf hI
end
theorem zM {l:Array Bool}{j:Nat}(h:l.getD j false=true):l.getD j true=true:=by
 rcases Nat.lt_or_ge j l.size with h'|h'
 ·simp[h']at h⊢;exact h
 simp[h']at h
theorem zD {l:Array Bool}{i j:Nat}(h:l.getD j true=true):(l.setIfInBounds i true).getD j true=true:=by
 by_cases e:i=j
 ·subst e;exact uU
 rwa [Go.getD_set_ne true e]
theorem zE {l:Array Bool}{i j:Nat}(a9:i≠j)(h:(l.setIfInBounds i true).getD j true=true):l.getD j true=true:=by rwa [Go.getD_set_ne true a9]at h
theorem zI {l:Array Bool}{i j:Nat}(h:(l.setIfInBounds i true).getD j true=false):l.getD j true=false:=by
 by_cases e:i=j
 ·subst e;rw[uU]at h;cases h
 rwa [Go.getD_set_ne true e]at h
theorem hs7P {l:Array Bool}{i j:Nat}{p:Prop}(h:Hid (l.getD j true=true->p))(a9:i≠j:=by decide):Hid ((l.setIfInBounds i true).getD j true=true->p):=Kh (fun e=>h.out (zE a9 e))
theorem hs7Q {l:Array Bool}{i j k:Nat}{p:Prop}(h:Hid (l.getD j true=true->l.getD k true=true/\p))(a9:i≠j:=by decide):Hid ((l.setIfInBounds i true).getD j true=true->(l.setIfInBounds i true).getD k true=true/\p) :=
 Kh (fun e=>⟨zD (h.out (zE a9 e)).1,(h.out (zE a9 e)).2⟩)
theorem hs7R {l:Array Bool}{i j k m:Nat}{p:Prop}(h:Hid (l.getD j true=true->l.getD k true=true/\l.getD m true=true/\p))(a9:i≠j:=by decide):Hid ((l.setIfInBounds i true).getD j true=true->(l.setIfInBounds i true).getD k true=true/\(l.setIfInBounds i true).getD m true=true/\p) :=
 Kh (fun e=>⟨zD (h.out (zE a9 e)).1,zD (h.out (zE a9 e)).2.1,(h.out (zE a9 e)).2.2⟩)
theorem hs7N {l:Array Bool}{i j:Nat}{p:Prop}(h:Hid (l.getD j true=false->p)):Hid ((l.setIfInBounds i true).getD j true=false->p):=Kh (fun e=>h.out (zI e))
theorem hs7A {l:Array Bool}{i j:Nat}{p q:Prop}(h:Hid (l.getD j true=true->l.getD i true=true/\p))(a9:l.getD i true=false)(a8:i≠j:=by decide):Hid ((l.setIfInBounds i true).getD j true=true->q) :=
 Kh (fun e=>absurd (h.out (zE a8 e)).1 (by rw[a9];simp))
theorem hs7B {l:Array Bool}{i j:Nat}{p q r:Prop}(h:Hid (l.getD j true=true->p/\l.getD i true=true/\r))(a9:l.getD i true=false)(a8:i≠j:=by decide):Hid ((l.setIfInBounds i true).getD j true=true->q) :=
 Kh (fun e=>absurd (h.out (zE a8 e)).2.1 (by rw[a9];simp))
theorem yF {l:Array Bool}{i:Nat}{p:Prop}(h:(l.setIfInBounds i true).getD i true=false):p:=by rw[uU]at h;cases h
section
variable {w0 W W':World} {F:Nat->Prop} {rs:List RowS} {ls:List (Nat×Obj)}
theorem Many.far (h:Many w0 F W rs ls []){r:Nat}(hg:W.grownBy W' (some r))(hF:F r)(a8:r<w0.heap.size)(a9:∀(j:Nat) (s:RowS),rs[j]?=some s->s.v.ownBlock≠some r):Many w0 F W' rs ls [] where
 own:=fun j s hs=>(h.own j s hs).kept hg (.inr (a9 j s hs))
 mine:=h.mine
 apart:=h.apart
 lit:=fun p hp=>⟨zB (h.lit p hp).1 hg (fun e=>by have e:=Oj e;have:=(h.lit p hp).2.2;omega),(h.lit p hp).2⟩
 pre:=fun p hp=>by cases hp
 but:=h.but.step hg (fun k e=>.inl (by have e:=Oj e;subst e;exact hF))
theorem Many.make (h:Many w0 F W rs ls []){j base sz:Nat}{e:TypeId}{cs:List Value}{n:Nat}(hr:rs[j]?=some ⟨base,e,.slice none 0 0,0,[],sz⟩)(hb:base<=w0.heap.size)(hl:cs.length=n*sz)(hm:n<=maxLen):Many w0 F (W.alloc (.cells cs.toArray e)) (rs.set j ⟨base,e,.slice (some ⟨W.heap.size,0,none⟩) n n,n,cs,sz⟩) ls []:=by
 have hg:=Ga W (.cells cs.toArray e) none
 have:=h.append (W':=W.alloc (.cells cs.toArray e)) (j:=j) hr (v':=.slice (some ⟨W.heap.size,0,none⟩) n n) (n':=n) (us:=cs) (by
  have h9:=heap_alloc_new W (.cells cs.toArray e)
  exact⟨by simpa using hl,.inr ⟨W.heap.size,n,cs.toArray,rfl,Nat.le_trans hb h.but.size,h9,Nat.le_refl _,hm,by simp[hl],by simp[<-hl]⟩⟩) hg (.inr ⟨hg,fun k hk=>by
  have:W.heap.size=k:=by simpa [Value.ownBlock] using hk
  omega⟩)
 simpa using this
end
theorem Many.not_type {w0 W:World}{F:Nat->Prop}{rs:List RowS}{ls:List (Nat×Obj)}{ps:List (Nat×TypeId×List Value)}(h:Many w0 F W rs ls ps){r e':Nat}{c:Array Value}{m:Nat×Nat}(hr:W.heap[r]?=some (.cells c e' m))(a9:∀s∈rs,s.e≠e'):∀(j:Nat) (s:RowS),rs[j]?=some s->s.v.ownBlock≠some r :=
 fun j s hs=>zV (h.own j s hs) hr (a9 s (List.mem_of_getElem? hs))
theorem sF {P:Program}{W:World}{o:Oper}{a:Act}{K:Act->World->Prop}{Q:Exit->Act->World->Prop}{R c0:Prop}[Decidable c0](a5:c0)(s x:Operand)(t:TypeId)(ho:o.op=.call { callee:=.builtin .append,args:=#[s,x],argTypes:=#[t,t] }){e:TypeId}{z:Value}{a9:Nat}(E:ElemOk P t e z a9)(j:Nat)(g c:Nat)(hx:a.eval x=.slice (some ⟨g,0,none⟩) 1 c){w0:World}{F:Nat->Prop}{rs:List RowS}{ls:List (Nat×Obj)}{ps:List (Nat×TypeId×List Value)}(h:Many w0 F W rs ls ps){r:RowS}(hr:rs[j]?=some r)(he:r.e=e)(a6:r.sz=1)(hs:a.eval s=r.v)(a4:r.n+1<=maxLen)(a8:(r.n+1)*a9<=140737488355328)(a7:r.base<=w0.heap.size){u:Value}{m:Nat×Nat}(hl:(g,Obj.cells #[u] e m)∈ls)(h1:u.oneCell'=true)(hK:∀sa sc w',Many w0 F w' (rs.set j ⟨r.base,r.e,.slice sa (r.n+1) sc,r.n+1,r.xs++[u],r.sz⟩) ls ps->W.grownBy w' r.v.ownBlock->K (a.put o.dst (.slice sa (r.n+1) sc)) w'):if c0 then Oper.wp P o a W K Q else R:=by
 subst he;rw[if_pos a5];have hu:W.cell? ⟨g,0,none⟩=some u:=by simpa using zH (h.lit _ hl).1 0 (by simp)
 obtain⟨v',w',h0,h2,h3,h4⟩:=mH (P:=P) r.base t o.type E r.v r.n r.xs (by have:=h.own j r hr;rwa [a6]at this) g c u hu h1 a4 a8 (Nat.le_trans a7 h.but.size);obtain⟨sa,sc,rfl⟩:=qU h2;unfold Oper.wp execOp;simp only[ho,resolve,invoke,builtin,Sem.run_bind,Sem.run_pure,Result.andThen_ok,List.map_toArray,List.map_cons,List.map_nil,hs,hx,h0];exact hK sa sc w' (h.append hr (by rw[a6];exact h2) h3 h4) h3
theorem rO {P:Program}{W:World}{o:Oper}{a:Act}{K:Act->World->Prop}{Q:Exit->Act->World->Prop}{R c0:Prop}[Decidable c0](a3:c0)(s x:Operand)(t:TypeId)(ho:o.op=.call { callee:=.builtin .append,args:=#[s,x],argTypes:=#[t,t] }){e:TypeId}{sz:Nat}{z:Value}{a8:Nat}(E:ElemN P t e sz z a8)(j:Nat)(sv:Value)(hx:a.eval x=sv){w0:World}{F:Nat->Prop}{rs:List RowS}{ls:List (Nat×Obj)}{ps:List (Nat×TypeId×List Value)}(h:Many w0 F W rs ls ps){r:RowS}{m n':Nat}{a9:List Value}(hr:rs[j]?=some r)(he:r.e=e)(a4:r.sz=sz)(hs:a.eval s=r.v)(a5:uZ W sz sv m a9)(h1:∀u∈a9,u.oneCell'=true)(hn:r.n+m=n')(a2:n'<=maxLen)(a7:n'*a8<=140737488355328)(a6:r.base<=w0.heap.size)(hK:∀sa sc w',Many w0 F w' (rs.set j ⟨r.base,r.e,.slice sa n' sc,n',r.xs++a9,r.sz⟩) ls ps->W.grownBy w' r.v.ownBlock->K (a.put o.dst (.slice sa n' sc)) w'):if c0 then Oper.wp P o a W K Q else R:=by
 subst he;subst a4;subst hn;rw[if_pos a3];obtain⟨v',w',h0,h2,h3,h4⟩:=rP (P:=P) r.base t o.type E r.v r.n r.xs (h.own j r hr) sv m a9 a5 h1 a2 a7 (Nat.le_trans a6 h.but.size)
 obtain⟨sa,sc,rfl⟩:∃sa sc,v'=.slice sa (r.n+m) sc:=by
  rcases h2.2 with ⟨e1,e2⟩|⟨g,cap,cur,e1,_⟩
  ·exact⟨none,0,by rw[e1,e2]⟩
  exact⟨_,_,e1⟩
 unfold Oper.wp execOp;simp only[ho,resolve,invoke,builtin,Sem.run_bind,Sem.run_pure,Result.andThen_ok,List.map_toArray,List.map_cons,List.map_nil,hs,hx,h0];exact hK sa sc w' (h.append hr h2 h3 h4) h3
theorem vX {a0:Act}:∀ {l:List (Nat×Value)},(∀p∈l,p.2=a0.tmps.getD p.1 undef)->zP a0 l=a0
 | [],_=>rfl
 | p::l,h=>by
  have h1:=h p List.mem_cons_self
  have hp:a0.put (some p.1) p.2=a0:=by
   rw[h1];show Act.mk (a0.tmps.setIfInBounds p.1 (a0.tmps.getD p.1 undef)) a0.defers=a0
   have:a0.tmps.setIfInBounds p.1 (a0.tmps.getD p.1 undef)=a0.tmps:=by
    apply Array.ext
    ·simp
    ·intro i h1 h2
     rw[Array.getElem_setIfInBounds]
     split
     ·rename_i e;subst e;simp[h2]
     ·rfl
   rw[this]
  show zP (a0.put (some p.1) p.2) l=a0;rw[hp];exact vX fun q hq=>h q (List.mem_cons_of_mem _ hq)
theorem Many.start {w:World}{F:Nat->Prop}{rs:List RowS}(a9:∀r∈rs,w.ownsRow r.base r.e r.sz r.v r.n r.xs)(hF:∀r∈rs,∀k,r.v.ownBlock=some k->F k)(a8:rs.Pairwise (fun r s=>∀k,r.v.ownBlock=some k->s.v.ownBlock≠some k)):Many w F w rs [] [] where
 own:=fun j r hr=>a9 r (List.mem_of_getElem? hr)
 mine:=fun j r hr k hk=>.inl (hF r (List.mem_of_getElem? hr) k hk)
 apart:=fun i j r s hij hr hs k hk hk2=>by
  obtain⟨hi,hri⟩:=List.getElem?_eq_some_iff.1 hr
  obtain⟨hj,hsj⟩:=List.getElem?_eq_some_iff.1 hs
  rcases Nat.lt_or_gt_of_ne hij with h|h
  ·have:=List.pairwise_iff_getElem.1 a8 i j hi hj h k
   rw[hri,hsj]at this
   exact this hk hk2
  ·have:=List.pairwise_iff_getElem.1 a8 j i hj hi h k
   rw[hri,hsj]at this
   exact this hk2 hk
 lit:=fun p hp=>by simp at hp
 pre:=fun p hp=>by simp at hp
 but:=GrownBut.refl _ _
def lD:Code->Nat->Option (Array Oper)
 | .region i ops _,k=>if i=k then some ops else none
 | .seq a b,k=>match lD a k with
  | some o=>some o
  | none=>lD b k
 | .cond _ a b,k=>match lD a k with
  | some o=>some o
  | none=>lD b k
 | .block _ b,k=>lD b k
 | .loop b,k=>lD b k
 | .scope b,k=>lD b k
 | _,_=>none
def qD (f:Func)(k:Nat):Array Oper:=match f.body with
 | some b=>(lD b k).getD #[]
 | none=>#[]
open Go.Maps
theorem qAJ:Keyed Tryz.prog 3:=int_keyed (q:=.i64) (by kernel_rfl)
end Go.Proofs.YtobakifdllameaaGreat
namespace Go.Proofs.YtobakifdllameaaGreat
def wP {α:Type}[DecidableEq α](acc:List α)(x:α):List α:=if x∈acc then acc else acc++[x]
def yQ {α:Type}[DecidableEq α](l:List α):List α:=l.foldl wP []
section
variable {α:Type} [DecidableEq α]
theorem tD {acc:List α}{x:α}(h:x∈acc):wP acc x=acc:=if_pos h
theorem vO {acc:List α}{x:α}(h:x ∉ acc):wP acc x=acc++[x]:=if_neg h
theorem lZ {acc:List α}{x y:α}:y∈wP acc x↔y∈acc\/y=x:=by
 unfold wP
 split
 ·rename_i h
  exact⟨.inl,fun h'=>by rcases h' with h'|rfl<;>assumption⟩
 simp
theorem sD (l:List α)(x:α):yQ (l++[x])=wP (yQ l) x:=by simp[yQ,List.foldl_append]
theorem gZ (l:List α):∀(acc:List α) (y:α),y∈l.foldl wP acc↔y∈acc\/y∈l:=by
 induction l with
 | nil=>intro acc y;simp
 | cons a l ih=>intro acc y;rw[List.foldl_cons,ih,lZ,List.mem_cons];exact or_assoc
theorem xX {l:List α}{y:α}:y∈yQ l↔y∈l:=by rw[yQ,gZ];simp
theorem gW {acc:List α}{x:α}(h:acc.Nodup):(wP acc x).Nodup:=by
 unfold wP
 split
 ·exact h
 rename_i hx
 rw[List.nodup_append];exact⟨h,by simp,fun a ha b hb=>by rw[List.mem_singleton]at hb;subst hb;rintro rfl;exact hx ha⟩
theorem iD (l:List α):∀ {acc:List α},acc.Nodup->(l.foldl wP acc).Nodup:=by
 induction l with
 | nil=>intro acc h;exact h
 | cons a l ih=>intro acc h;exact ih (gW h)
theorem sX (l:List α):(yQ l).Nodup:=iD l (by simp)
theorem mC (acc:List α)(x:α):acc <+: wP acc x:=by
 unfold wP;split
 ·exact List.prefix_refl _
 exact List.prefix_append _ _
theorem kZ (l:List α):∀(acc:List α),acc <+: l.foldl wP acc:=by
 induction l with
 | nil=>intro acc;exact List.prefix_refl _
 | cons a l ih=>intro acc;exact(mC acc a).trans (ih _)
theorem rI (l:List α)(k:Nat):yQ (l.take k) <+: yQ l:=by
 conv=>rhs;rw[<-List.take_append_drop k l]
 rw[yQ,yQ,List.foldl_append];exact kZ _ _
theorem uX (l:List α):(yQ l).length<=l.length:=by
 have key:∀(l acc:List α),(l.foldl wP acc).length<=acc.length+l.length:=by
  intro l
  induction l with
  | nil=>intro acc;simp
  | cons a l ih =>
   intro acc;rw[List.foldl_cons];have h1:=ih (wP acc a);have h2:(wP acc a).length<=acc.length+1:=by unfold wP;split<;>simp
   rw[List.length_cons];omega
 simpa [yQ] using key l []
theorem gT {l m:List α}{x:α}(h:l <+: m)(hx:x∈l):m.idxOf x=l.idxOf x:=by
 obtain⟨r,rfl⟩:=h;rw[List.idxOf_append,if_pos hx]
theorem qCV {l:List α}{x y:α}(hx:x∈l)(h:l.idxOf x=l.idxOf y):x=y:=by
 have h1:=List.idxOf_lt_length_of_mem hx;have e1:=List.getElem_idxOf h1;have e2:=List.getElem_idxOf (show l.idxOf y<l.length by omega);rw[<-e1,<-e2];simp only[h]
def numb (l:List α):List Nat:=l.map fun x=>(yQ l).idxOf x
theorem yW (l:List α):(numb l).length=l.length:=by simp[numb]
theorem pP {l:List α}{i:Nat}(h:i<l.length):(numb l)[i]'(by rw[yW];exact h)=(yQ l).idxOf l[i]:=by simp[numb]
theorem qKF {l:List α}:∀c∈numb l,c<(yQ l).length:=by
 intro c hc;obtain⟨x,hx,rfl⟩:=List.mem_map.1 hc;exact List.idxOf_lt_length_of_mem (xX.2 hx)
theorem nN {l:List α}{i j:Nat}(hi:i<l.length)(hj:j<l.length):(numb l).getD i 0=(numb l).getD j 0↔l[i]=l[j]:=by
 simp only[List.getD,List.getElem?_eq_getElem (show i<(numb l).length by rw[yW];exact hi),List.getElem?_eq_getElem (show j<(numb l).length by rw[yW];exact hj),Option.getD_some,pP hi,pP hj];exact⟨fun h=>qCV (xX.2 (List.getElem_mem hi)) h,fun h=>by rw[h]⟩
theorem qCB {l:List α}{k:Nat}(hk:k<l.length):(yQ (l.take (k+1))).idxOf l[k]=(yQ l).idxOf l[k]:=by
 refine(gT (rI l (k+1)) (xX.2 ?_)).symm;rw[List.take_succ_eq_append_getElem hk];exact List.mem_append_right _ (List.mem_singleton_self _)
end
def qSD (p q:List Nat):Prop:=p.length=q.length/\∀i j,i<p.length->j<p.length->(p.getD i 0=p.getD j 0↔q.getD i 0=q.getD j 0)
def Norm (p:List Nat):Prop:=numb p=p
theorem zN {α:Type}{l:List α}{i:Nat}{d:α}(h:i<l.length):l.getD i d=l[i]:=by simp[List.getD,List.getElem?_eq_getElem h]
theorem dJ {α β:Type}[DecidableEq α][DecidableEq β](f:α->β)(l:List α)(h:∀x∈l,∀y∈l,f x=f y->x=y):yQ (l.map f)=(yQ l).map f:=by
 have key:∀(m acc:List α),(∀x∈acc++m,∀y∈acc++m,f x=f y->x=y)->(m.map f).foldl wP (acc.map f)=(m.foldl wP acc).map f:=by
  intro m
  induction m with
  | nil=>intro acc _;rfl
  | cons a m ih =>
   intro acc hh;rw[List.map_cons,List.foldl_cons,List.foldl_cons]
   have e:wP (acc.map f) (f a)=(wP acc a).map f:=by
    unfold wP;by_cases ha:a∈acc
    ·rw[if_pos ha,if_pos (List.mem_map_of_mem ha)]
    rw[if_neg ha,if_neg]
    ·simp
    intro hm;obtain⟨b,hb,e⟩:=List.mem_map.1 hm;have:=hh b (by simp[hb]) a (by simp) e;subst this;exact ha hb
   rw[e];refine ih _ fun x hx y hy=>hh x ?_ y ?_
   ·rw[List.mem_append,lZ]at hx;simp;rcases hx with (h|h)|h<;>simp[h]
   rw[List.mem_append,lZ]at hy;simp;rcases hy with (h|h)|h<;>simp[h]
 have:=key l [] (by simpa using h);simpa [yQ] using this
theorem qAL {α β:Type}[DecidableEq α][DecidableEq β](f:α->β)(l:List α)(x:α)(hx:x∈l)(h:∀y∈l,f y=f x->y=x):(l.map f).idxOf (f x)=l.idxOf x:=by
 induction l with
 | nil=>simp at hx
 | cons a l ih =>
  rw[List.map_cons,List.idxOf_cons,List.idxOf_cons];by_cases e:a=x
  ·subst e;simp
  have:f a≠f x:=fun h'=>e (h a (by simp) h');simp only[beq_eq_false_iff_ne.2 this,beq_eq_false_iff_ne.2 e,cond_false];rw[ih (by simpa [Ne.symm e] using hx) (fun y hy=>h y (by simp[hy]))]
theorem lU {α β:Type}[DecidableEq α][DecidableEq β]:∀(l:List α) (m:List β) (he:l.length=m.length),(∀i j (hi:i<l.length) (hj:j<l.length),(l[i]=l[j]↔m[i]'(by omega)=m[j]'(by omega)))->numb l=numb m:=by
 intro l m he h
 have key:∀(k:Nat) (hk:k<=l.length),∃ps:List (Fin l.length),yQ (l.take k)=ps.map (fun i=>l[i])/\yQ (m.take k)=ps.map (fun i=>m[i.1]'(by omega)):=by
  intro k
  induction k with
  | zero=>intro _;exact⟨[],by simp[yQ],by simp[yQ]⟩
  | succ k ih =>
   intro hk;obtain⟨ps,h1,h2⟩:=ih (by omega);have h3:k<l.length:=(by omega);rw[List.take_succ_eq_append_getElem h3,List.take_succ_eq_append_getElem (show k<m.length by omega),sD,sD,h1,h2]
   have h0:(l[k]∈ps.map (fun i=>l[i]))↔(m[k]'(by omega)∈ps.map (fun i=>m[i.1]'(by omega))):=by
    simp only[List.mem_map];constructor
    ·rintro ⟨i,hi,e⟩;exact⟨i,hi,(h i.1 k i.2 h3).1 e⟩
    rintro ⟨i,hi,e⟩;exact⟨i,hi,(h i.1 k i.2 h3).2 e⟩
   by_cases hm:l[k]∈ps.map (fun i=>l[i])
   ·exact⟨ps,tD hm,tD (h0.1 hm)⟩
   refine⟨ps++[⟨k,h3⟩],?_,?_⟩
   ·rw[vO hm];simp
   rw[vO (fun h'=>hm (h0.2 h'))];simp
 obtain⟨ps,h1,h2⟩:=key l.length (Nat.le_refl _);rw[List.take_length]at h1;rw[show m.take l.length=m from List.take_of_length_le (by omega)]at h2;refine List.ext_getElem (by simp[numb,he]) fun i hi _=>?_;rw[yW]at hi;rw[pP hi,pP (by omega),h1,h2]
 have aux:∀(qs:List (Fin l.length)),(qs.map (fun i=>l[i])).idxOf l[i]=(qs.map (fun i=>m[i.1]'(by omega))).idxOf (m[i]'(by omega)):=by
  intro qs
  induction qs with
  | nil=>simp
  | cons a qs ih =>
   rw[List.map_cons,List.map_cons,List.idxOf_cons,List.idxOf_cons,ih];have:=h a.1 i a.2 hi;by_cases e:l[a]=l[i]
   ·have e':=this.1 e
    simp only[beq_iff_eq.2 e,beq_iff_eq.2 e']
   have e':¬(m[a.1]'(by omega)=m[i]'(by omega)):=fun h'=>e (this.2 h');simp only[beq_eq_false_iff_ne.2 e,beq_eq_false_iff_ne.2 e']
 exact aux ps
theorem mS {α:Type}[DecidableEq α](l:List α):Norm (numb l):=by
 refine lU _ _ (yW l) fun i j hi hj=>?_;rw[yW]at hi hj;have:=nN (l:=l) hi hj;rw[zN (by rw[yW];exact hi),zN (by rw[yW];exact hj)]at this;exact this
theorem jS {p q:List Nat}(hp:Norm p)(hq:Norm q)(h:qSD p q):p=q:=by
 rw[<-hp,<-hq];refine lU _ _ h.1 fun i j hi hj=>?_;have:=h.2 i j hi hj;rw[zN hi,zN hj,zN (by rw[<-h.1];exact hi),zN (by rw[<-h.1];exact hj)]at this;exact this
structure DfaV where
 letters:Int
 start:Int
 final:List Bool
 next:List (List Int)
def rowD (letters:Int)(n:Nat)(r:List Int):Bool:=decide ((r.length:Int)=letters) && r.all fun x=>decide (0<=x/\x<n)
def uJ (d:DfaV):Int :=
 if d.letters<1\/6<d.letters then 1 else if 512<d.final.length then 3
 else if d.final.length=0\/d.next.length≠d.final.length\/d.start<0\/d.final.length<=d.start then 4
 else if d.next.all (rowD d.letters d.final.length) then 0 else 4
structure VD (d:DfaV)(n k:Nat):Prop where
 hk:d.letters=k
 k1:1<=k
 k6:k<=6
 hn:d.final.length=n
 n1:1<=n
 nbig:n<=4194304
 nl:d.next.length=n
 s0:0<=d.start
 sn:d.start<n
 row:∀q,q<n->(d.next.getD q []).length=k
 lo:∀q a,q<n->a<k->0<=ent d.next q a
 hi:∀q a,q<n->a<k->ent d.next q a<n
theorem nG {k:Int}{n:Nat}{r:List Int}:rowD k n r=true↔(r.length:Int)=k/\∀y,y<r.length->0<=r.getD y 0/\r.getD y 0<n:=by
 simp only[rowD,Bool.and_eq_true,decide_eq_true_eq,List.all_eq_true];refine and_congr_right fun _=>⟨fun h y hy=>?_,fun h x hx=>?_⟩
 ·have:=h (r[y]) (List.getElem_mem hy)
  rwa [<-zN (d:=0) hy]at this
 obtain⟨y,hy,rfl⟩:=List.getElem_of_mem hx;have:=h y hy
 rwa [zN hy]at this
theorem qQS {d:DfaV}(h:uJ d=0):VD d d.final.length d.letters.toNat:=by
 unfold uJ at h
 split at h
 ·omega
 rename_i h1
 split at h
 ·omega
 rename_i h2
 split at h
 ·omega
 rename_i h3
 split at h
 ·rename_i h4
  rw[List.all_eq_true]at h4
  have hr:∀q,q<d.next.length->rowD d.letters d.final.length (d.next.getD q [])=true:=fun q hq=>by
   rw[zN hq];exact h4 _ (List.getElem_mem hq)
  have h0:d.next.length=d.final.length:=by
   apply Classical.byContradiction;intro hh;exact h3 (.inr (.inl hh))
  refine⟨by omega,by omega,by omega,rfl,by omega,by omega,h0,by omega,by omega,fun q hq=>?_,fun q a hq ha=>?_,fun q a hq ha=>?_⟩
  ·have:=(nG.1 (hr q (by omega))).1;omega
  ·obtain⟨e,h⟩:=nG.1 (hr q (by omega))
   exact(h a (by omega)).1
  obtain⟨e,h⟩:=nG.1 (hr q (by omega));exact(h a (by omega)).2
 omega
theorem jL {d:DfaV}{n k:Nat}(h:VD d n k)(h5:n<=512):uJ d=0:=by
 unfold uJ
 rw[if_neg (by have:=h.hk;have:=h.k1;have:=h.k6;omega),if_neg (by have:=h.hn;omega),
  if_neg (by have:=h.hn;have:=h.n1;have:=h.nl;have:=h.s0;have:=h.sn;omega),if_pos]
 rw[List.all_eq_true];intro r hr;obtain⟨q,hq,rfl⟩:=List.getElem_of_mem hr;have h0:q<n:=by have:=h.nl;omega
 rw[nG];have hl:=h.row q h0;rw[zN hq]at hl;refine⟨by rw[hl,h.hk],fun y hy=>?_⟩;have h1:=h.lo q y h0 (by omega);have h2:=h.hi q y h0 (by omega);unfold ent at h1 h2;rw[zN hq]at h1 h2;rw[h.hn];exact⟨h1,h2⟩
def nx (d:DfaV)(q a:Nat):Nat:=entN d.next q a
theorem qKD {d:DfaV}{n k:Nat}(h:VD d n k){q a:Nat}(hq:q<n)(ha:a<k):(nx d q a:Int)=ent d.next q a:=Int.toNat_of_nonneg (h.lo q a hq ha)
theorem pB {d:DfaV}{n k:Nat}(h:VD d n k){q a:Nat}(hq:q<n)(ha:a<k):nx d q a<n:=by
 have h1:=qKD h hq ha;have h2:=h.hi q a hq ha;omega
def st0 (d:DfaV):Nat:=d.start.toNat
theorem aG {d:DfaV}{n k:Nat}(h:VD d n k):(st0 d:Int)=d.start:=Int.toNat_of_nonneg h.s0
theorem mP {d:DfaV}{n k:Nat}(h:VD d n k):st0 d<n:=by have:=aG h;have:=h.sn;omega
def finB (b:Bool):Int:=if b then 1 else 0
def nM (d:DfaV):List Nat:=numb (d.final.map finB)
def rL (d:DfaV)(p:List Nat)(a:Nat):List Nat:=(List.range p.length).map fun q=>p.getD (nx d q a) 0
def qBY (m:Nat)(a b:Nat):Int:=(a:Int)*(m+1)+b
def lG (p q:List Nat):List Int:=List.zipWith (qBY p.length) p q
def fE (p q:List Nat):List Nat:=numb (lG p q)
def tH (d:DfaV)(p:List Nat):Nat->List Nat
 | 0=>p
 | k+1=>fE (tH d p k) (rL d p k)
theorem pO (d:DfaV):(nM d).length=d.final.length:=by simp[nM,yW]
theorem xS (d:DfaV)(p:List Nat)(a:Nat):(rL d p a).length=p.length:=by simp[rL]
theorem qI {p q:List Nat}(h:q.length=p.length):(lG p q).length=p.length:=by simp[lG,h]
theorem gV {p q:List Nat}(h:q.length=p.length):(fE p q).length=p.length:=by rw[fE,yW,qI h]
theorem xM (d:DfaV)(p:List Nat):∀k,(tH d p k).length=p.length
 | 0=>rfl
 | k+1=>by rw[tH,gV (by rw[xS,xM d p k]),xM d p k]
theorem pV {p:List Nat}(h:Norm p):∀c∈p,c<p.length:=by
 intro c hc;have h1:=qKF (l:=p);rw[h]at h1;have:=h1 c hc;have:=uX p;omega
theorem cY {m a b a' b':Nat}(hb:b<=m)(a9:b'<=m):qBY m a b=qBY m a' b'↔a=a'/\b=b':=by
 unfold qBY;constructor
 ·intro h
  have h':a*(m+1)+b=a'*(m+1)+b':=by exact_mod_cast h
  have e1:(a*(m+1)+b) / (m+1)=a:=by rw[Nat.mul_comm,Nat.mul_add_div (by omega),Nat.div_eq_of_lt (by omega)];omega
  have e2:(a'*(m+1)+b') / (m+1)=a':=by rw[Nat.mul_comm,Nat.mul_add_div (by omega),Nat.div_eq_of_lt (by omega)];omega
  have ha:a=a':=by rw[<-e1,<-e2,h']
  subst ha;exact⟨rfl,by omega⟩
 rintro ⟨rfl,rfl⟩;rfl
theorem qDH {p q:List Nat}(h:q.length=p.length)(hq:∀c∈q,c<p.length){i j:Nat}(hi:i<p.length)(hj:j<p.length):(fE p q).getD i 0=(fE p q).getD j 0↔p.getD i 0=p.getD j 0/\q.getD i 0=q.getD j 0:=by
 have h1:i<(lG p q).length:=by rw[qI h];exact hi
 have h0:j<(lG p q).length:=by rw[qI h];exact hj
 rw[fE,nN h1 h0];simp only[lG,List.getElem_zipWith];rw[cY (Nat.le_of_lt (hq _ (List.getElem_mem _))) (Nat.le_of_lt (hq _ (List.getElem_mem _))),zN hi,zN hj,zN (show i<q.length by omega),zN (show j<q.length by omega)]
theorem oT {d:DfaV}{p:List Nat}{a i:Nat}(hi:i<p.length):(rL d p a).getD i 0=p.getD (nx d i a) 0:=by
 rw[zN (by rw[xS];exact hi)];simp[rL]
theorem sV {p:List Nat}{n i:Nat}(h:∀c∈p,c<n)(hn:0<n):p.getD i 0<n:=by
 by_cases hi:i<p.length
 ·rw[zN hi];exact h _ (List.getElem_mem hi)
 rw[List.getD,List.getElem?_eq_none (by omega)];exact hn
theorem rE {d:DfaV}{n k:Nat}(hd:VD d n k){p:List Nat}(hp:p.length=n)(a9:∀c∈p,c<n){i j:Nat}(hi:i<n)(hj:j<n):
  ∀m,m<=k->((tH d p m).getD i 0=(tH d p m).getD j 0↔p.getD i 0=p.getD j 0/\∀a,a<m->p.getD (nx d i a) 0=p.getD (nx d j a) 0)
 | 0,_=>by simp[tH]
 | m+1,hm=>by
  rw[tH,qDH (by rw[xS,xM]) (fun c hc=>?_) (by rw[xM];omega) (by rw[xM];omega),rE hd hp a9 hi hj m (by omega),oT (by omega),oT (by omega)]
  ·constructor
   ·rintro ⟨⟨h1,h2⟩,h3⟩
    refine⟨h1,fun a ha=>?_⟩
    rcases Nat.lt_succ_iff_lt_or_eq.1 ha with ha|rfl
    ·exact h2 a ha
    ·exact h3
   ·rintro ⟨h1,h2⟩
    exact⟨⟨h1,fun a ha=>h2 a (by omega)⟩,h2 m (by omega)⟩
  ·rw[xM,hp]
   obtain⟨q,hq,rfl⟩:=List.mem_map.1 hc
   exact sV a9 hd.n1
theorem lS {d:DfaV}{p:List Nat}(hp:Norm p):∀m,Norm (tH d p m)
 | 0=>hp
 | m+1=>mS _
def cls (p:List Nat):Nat:=(yQ p).length
theorem qAP {p q:List Nat}(hl:q.length=p.length)(h:∀i j,i<p.length->j<p.length->q.getD i 0=q.getD j 0->p.getD i 0=p.getD j 0):cls p<=cls q/\(cls p=cls q->∀i j,i<p.length->j<p.length->p.getD i 0=p.getD j 0->q.getD i 0=q.getD j 0):=by
 let f:Nat->Nat:=fun c=>p.getD (q.idxOf c) 0
 have hf:∀i,i<p.length->f (q.getD i 0)=p.getD i 0:=by
  intro i hi;have h9:i<q.length:=by omega
  have hm:q.getD i 0∈q:=by rw[zN h9];exact List.getElem_mem _
  have h8:=List.idxOf_lt_length_of_mem hm;refine h _ i (by omega) hi ?_;rw[zN h8,List.getElem_idxOf]
 have h3:∀c∈yQ p,c∈(yQ q).map f:=by
  intro c hc;obtain⟨i,hi,rfl⟩:=List.getElem_of_mem (xX.1 hc);rw[List.mem_map];refine⟨q.getD i 0,xX.2 (by rw[zN (by omega)];exact List.getElem_mem _),?_⟩;rw[hf i hi,zN hi]
 have h5:(yQ p).length<=((yQ q).map f).length:=(sX p).length_le_of_subset h3;rw[List.length_map]at h5;refine⟨h5,fun e i j hi hj hp=>?_⟩
 have h4:∀x∈yQ q,∀y∈yQ q,f x=f y->x=y:=by
  intro x hx y hy h6;apply Classical.byContradiction;intro h7
  have h0:∀c∈yQ p,c∈((yQ q).erase x).map f:=by
   intro c hc;obtain⟨z,hz,rfl⟩:=List.mem_map.1 (h3 c hc);by_cases e:z=x
   ·subst e
    exact List.mem_map.2 ⟨y,(List.mem_erase_of_ne (Ne.symm h7)).2 hy,h6.symm⟩
   exact List.mem_map.2 ⟨z,(List.mem_erase_of_ne e).2 hz,rfl⟩
  have h1:=(sX p).length_le_of_subset h0;rw[List.length_map,List.length_erase_of_mem hx]at h1;have h2:=List.length_pos_of_mem hx;unfold cls at e;omega
 have mem:∀i,i<p.length->q.getD i 0∈yQ q:=fun i hi=>xX.2 (by rw[zN (by omega)];exact List.getElem_mem _);exact h4 _ (mem i hi) _ (mem j hj) (by rw[hf i hi,hf j hj,hp])
theorem uW {α:Type}{l:List α}{d:α}{q:Nat}(h:q<l.length):l.getD q d∈l:=by
 rw[List.getD_eq_getElem?_getD,List.getElem?_eq_getElem h];exact List.getElem_mem _
theorem cls_le (p:List Nat):cls p<=p.length:=uX p
theorem iS (d:DfaV):Norm (nM d):=mS _
def xI (d:DfaV)(k:Nat):Nat->List Nat
 | 0=>nM d
 | m+1=>tH d (xI d k m) k
theorem xH (d:DfaV)(k:Nat):∀m,(xI d k m).length=d.final.length
 | 0=>pO d
 | m+1=>by rw[xI,xM,xH d k m]
theorem tN (d:DfaV)(k:Nat):∀m,Norm (xI d k m)
 | 0=>iS d
 | m+1=>lS (tN d k m) k
theorem qAQ (d:DfaV)(k m:Nat):∀c∈xI d k m,c<d.final.length:=by
 have:=pV (tN d k m)
 rwa [xH]at this
theorem jE {p:List Nat}(h:0<p.length):0<cls p:=by
 have hm:p[0]∈yQ p:=xX.2 (List.getElem_mem h);exact List.length_pos_of_mem hm
theorem nH {d:DfaV}{n k:Nat}(hd:VD d n k){p:List Nat}(hp:p.length=n)(hn:Norm p)(a9:tH d p k≠p):cls p<cls (tH d p k):=by
 have h0:∀c∈p,c<n:=by have:=pV hn;rwa [hp]at this
 obtain⟨h1,h2⟩:=qAP (p:=p) (q:=tH d p k) (xM d p k) (fun i j hi hj h=>((rE hd hp h0 (by omega) (by omega) k (Nat.le_refl _)).1 h).1);refine Nat.lt_of_le_of_ne h1 fun e=>a9 ?_;refine jS (lS hn k) hn ⟨xM d p k,fun i j hi hj=>?_⟩;rw[xM]at hi hj;exact⟨fun h=>((rE hd hp h0 (by omega) (by omega) k (Nat.le_refl _)).1 h).1,fun h=>h2 e i j hi hj h⟩
def yK (d:DfaV)(k:Nat):List Nat:=xI d k d.final.length
theorem qDG {d:DfaV}{k m:Nat}(h:tH d (xI d k m) k=xI d k m):∀j,m<=j->xI d k j=xI d k m
 | 0,hj=>by rw[show m=0 by omega]
 | j+1,hj=>by
  by_cases e:m=j+1
  ·rw[e]
  ·rw[xI,qDG h j (by omega),h]
theorem pX {d:DfaV}{k m:Nat}(hm:m<=d.final.length)(h:tH d (xI d k m) k=xI d k m):yK d k=xI d k m:=qDG h _ hm
theorem qGC {d:DfaV}{n k:Nat}(hd:VD d n k):∀m,(∃j,j<=m/\tH d (xI d k j) k=xI d k j)\/m<cls (xI d k m)
 | 0=>.inr (jE (by rw[xH,hd.hn];exact hd.n1))
 | m+1=>by
  rcases qGC hd m with ⟨j,hj,h⟩|h
  ·exact .inl ⟨j,by omega,h⟩
  ·by_cases e:tH d (xI d k m) k=xI d k m
   ·exact .inl ⟨m,by omega,e⟩
   ·have:=nH hd (by rw[xH,hd.hn]) (tN d k m) e
    exact .inr (by rw[xI];omega)
theorem lE {d:DfaV}{n k:Nat}(hd:VD d n k):tH d (yK d k) k=yK d k:=by
 rcases qGC hd d.final.length with ⟨j,hj,h⟩|h
 ·rw[pX hj h,h]
 have:=cls_le (xI d k d.final.length);rw[xH]at this;omega
theorem vD (d:DfaV)(k:Nat):(yK d k).length=d.final.length:=xH _ _ _
theorem uG (d:DfaV)(k:Nat):Norm (yK d k):=tN _ _ _
theorem qEN {p:List Nat}(h:Norm p):yQ p=List.range (cls p):=by
 refine List.ext_getElem (by simp[cls]) fun i h1 h2=>?_;rw[List.getElem_range];have hm:=List.getElem_mem h1;obtain⟨q,hq,e⟩:=List.getElem_of_mem (xX.1 hm);have hh:(numb p)[q]'(by rw[yW];exact hq)=p[q]:=by simp only[show numb p=p from h]
 rw[pP hq,e]at hh;have h3:=List.idxOf_lt_length_of_mem hm;have h4:=List.getElem_idxOf h3;have:=(List.getElem_inj (sX p)).1 h4;omega
theorem mI {p:List Nat}(h:Norm p)(k:Nat):yQ (p.take k)=List.range (cls (p.take k)):=by
 have h1:=rI p k;rw[qEN h]at h1;obtain⟨r,hr⟩:=h1;refine List.ext_getElem (by simp[cls]) fun i h1 h2=>?_;rw[List.getElem_range];have:(yQ (p.take k)++r)[i]'(by rw[List.length_append];omega)=i:=by simp only[hr,List.getElem_range]
 rwa [List.getElem_append_left h1]at this
theorem lV {p:List Nat}(h:Norm p){q:Nat}(hq:q<p.length):p.getD q 0<=cls (p.take q)/\(p.getD q 0=cls (p.take q)->cls (p.take (q+1))=cls (p.take q)+1)/\(p.getD q 0≠cls (p.take q)->cls (p.take (q+1))=cls (p.take q)):=by
 have h1:=mI h (q+1);have e:yQ (p.take (q+1))=wP (yQ (p.take q)) p[q]:=by rw[List.take_succ_eq_append_getElem hq,sD]
 have h0:=mI h q;rw[zN hq];by_cases hm:p[q]∈yQ (p.take q)
 ·have h2:p[q]<cls (p.take q):=by rw[h0]at hm;exact List.mem_range.1 hm
  rw[tD hm]at e;have:cls (p.take (q+1))=cls (p.take q):=by unfold cls;rw[e]
  exact⟨by omega,fun h=>by omega,fun _=>this⟩
 rw[vO hm]at e;have hc:cls (p.take (q+1))=cls (p.take q)+1:=by unfold cls;rw[e];simp
 have hl:p[q]=cls (p.take q):=by
  rw[h1,h0,hc,List.range_succ]at e;have:=List.append_cancel_left e;simpa using this.symm
 exact⟨by omega,fun _=>hc,fun h=>absurd hl h⟩
def tU (p:List Nat)(k:Nat):List Nat:=(List.range k).filter fun q=>p.getD q 0 == cls (p.take q)
theorem uP {p:List Nat}{k:Nat}(h:p.getD k 0=cls (p.take k)):tU p (k+1)=tU p k++[k]:=by
 rw[tU,List.range_succ,List.filter_append,List.filter_cons,if_pos (beq_iff_eq.2 h)];rfl
theorem uO {p:List Nat}{k:Nat}(h:p.getD k 0≠cls (p.take k)):tU p (k+1)=tU p k:=by
 rw[tU,List.range_succ,List.filter_append,List.filter_cons,if_neg (fun e=>h (beq_iff_eq.1 e)),List.filter_nil,List.append_nil];rfl
theorem vM {p:List Nat}(h:Norm p):∀k,k<=p.length->(tU p k).length=cls (p.take k)
 | 0,_=>by simp[tU,cls,yQ]
 | k+1,hk=>by
  obtain⟨h0,h1,h2⟩:=lV h (show k<p.length by omega)
  have ih:=vM h k (by omega)
  by_cases e:p.getD k 0=cls (p.take k)
  ·rw[uP e,List.length_append,ih,h1 e];rfl
  ·rw[uO e,ih,h2 e]
theorem iP {p:List Nat}(h:Norm p):∀k,k<=p.length->∀c,c<cls (p.take k)->p.getD ((tU p k).getD c 0) 0=c/\(tU p k).getD c 0<k
 | 0,_,c,hc=>by simp[cls,yQ]at hc
 | k+1,hk,c,hc=>by
  obtain⟨h0,h1,h2⟩:=lV h (show k<p.length by omega)
  have hl:=vM h k (by omega)
  by_cases e:p.getD k 0=cls (p.take k)
  ·rw[h1 e]at hc
   rw[uP e]
   by_cases hc':c<cls (p.take k)
   ·have ih:=iP h k (by omega) c hc'
    rw[show (tU p k++[k]).getD c 0=(tU p k).getD c 0 from by simp[List.getD,List.getElem?_append_left (show c<(tU p k).length by omega)]]
    exact⟨ih.1,by omega⟩
   ·have hc2:c=(tU p k).length:=by omega
    rw[show (tU p k++[k]).getD c 0=k from by simp[List.getD,hc2]]
    exact⟨by omega,by omega⟩
  ·rw[h2 e]at hc
   rw[uO e]
   have ih:=iP h k (by omega) c hc
   exact⟨ih.1,by omega⟩
def reps (p:List Nat):List Nat:=tU p p.length
def uD (p:List Nat)(r:List Int):List Int:=r.map fun s=>((p.getD s.toNat 0:Nat):Int)
def uL (d:DfaV)(p:List Nat):DfaV :=
 ⟨d.letters,((p.getD (st0 d) 0:Nat):Int),(reps p).map fun q=>d.final.getD q false,(reps p).map fun q=>uD p (d.next.getD q [])⟩
theorem xZ {α β:Type}{l:List α}{f:α->β}{i:Nat}{x:α}{y:β}(h:i<l.length):(l.map f).getD i y=f (l.getD i x):=by
 rw[zN (by simpa using h),zN h];simp
theorem iT {p:List Nat}{r:List Int}{a:Nat}(h:a<r.length):(uD p r).getD a 0=((p.getD (r.getD a 0).toNat 0:Nat):Int):=by
 rw[uD,xZ (x:=0) h]
theorem qZ {p:List Nat}(h:Norm p):(reps p).length=cls p:=by
 have:=vM h p.length (Nat.le_refl _)
 rwa [List.take_length]at this
theorem pM {p:List Nat}(h:Norm p){c:Nat}(hc:c<cls p):p.getD ((reps p).getD c 0) 0=c/\(reps p).getD c 0<p.length :=
 iP h p.length (Nat.le_refl _) c (by rwa [List.take_length])
theorem sC {p:List Nat}(h:Norm p){i:Nat}(hi:i<p.length):p.getD i 0<cls p:=by
 have:=qKF (l:=p);rw[h]at this;rw[zN hi];exact this _ (List.getElem_mem hi)
section
variable {d:DfaV} {n k:Nat} {p:List Nat}
theorem aT (hd:VD d n k)(hp:p.length=n)(hn:Norm p){c a:Nat}(hc:c<cls p)(ha:a<k):ent (uL d p).next c a=((p.getD (nx d ((reps p).getD c 0) a) 0:Nat):Int):=by
 have hr:=pM hn hc;unfold ent uL;rw[xZ (x:=0) (by rw[qZ hn];exact hc),iT (by rw[hd.row _ (by omega)];exact ha)];rfl
theorem aR (hd:VD d n k)(hp:p.length=n)(hn:Norm p):VD (uL d p) (cls p) k where
 hk:=hd.hk
 k1:=hd.k1
 k6:=hd.k6
 hn:=by simp[uL,qZ hn]
 n1:=jE (by rw[hp];exact hd.n1)
 nbig:=Nat.le_trans (cls_le p) (by rw[hp];exact hd.nbig)
 nl:=by simp[uL,qZ hn]
 s0:=by simp[uL]
 sn:=by
  have:=sC hn (i:=st0 d) (by rw[hp];exact mP hd);simp only[uL];omega
 row:=fun c hc=>by
  simp only[uL];rw[xZ (x:=0) (by rw[qZ hn];exact hc)];have hr:=pM hn hc;rw[uD,List.length_map,hd.row _ (by omega)]
 lo:=fun c a hc ha=>by rw[aT hd hp hn hc ha];omega
 hi:=fun c a hc ha=>by
  rw[aT hd hp hn hc ha];have hr:=pM hn hc;have:=sC hn (i:=nx d ((reps p).getD c 0) a) (by rw[hp];exact pB hd (by omega) ha);omega
theorem qQY (hd:VD d n k)(hp:p.length=n)(hn:Norm p)(a9:tH d p k=p){q a:Nat}(hq:q<n)(ha:a<k):nx (uL d p) (p.getD q 0) a=p.getD (nx d q a) 0:=by
 have h0:∀c∈p,c<n:=by have:=pV hn;rwa [hp]at this
 have hc:=sC hn (i:=q) (by omega);have hr:=pM hn hc;have h1:=rE hd hp h0 (i:=(reps p).getD (p.getD q 0) 0) (j:=q) (by omega) hq k (Nat.le_refl _);rw[a9]at h1;have h2:=(h1.1 hr.1).2 a ha;show (ent (uL d p).next (p.getD q 0) a).toNat=_;rw[aT hd hp hn hc ha,h2];simp
end
def run (d:DfaV)(q:Nat)(w:List Nat):Nat:=w.foldl (nx d) q
def tS (k:Nat)(w:List Nat):Prop:=∀a∈w,a<k
theorem qJF {d:DfaV}{n k:Nat}(hd:VD d n k):∀(w:List Nat) {q:Nat},q<n->tS k w->run d q w<n
 | [],q,hq,_=>hq
 | a::w,q,hq,hw=>qJF hd w (pB hd hq (hw a (by simp))) (fun b hb=>hw b (by simp[hb]))
theorem qMZ (d:DfaV)(q:Nat)(w:List Nat)(a:Nat):run d q (w++[a])=nx d (run d q w) a:=by simp[run]
theorem aS {d:DfaV}{n k:Nat}{p:List Nat}(hd:VD d n k)(hp:p.length=n)(hn:Norm p)(a9:tH d p k=p):∀(w:List Nat) {q:Nat},q<n->tS k w->run (uL d p) (p.getD q 0) w=p.getD (run d q w) 0
 | [],q,_,_=>rfl
 | a::w,q,hq,hw=>by
  have ha:=hw a (by simp)
  show run (uL d p) (nx (uL d p) (p.getD q 0) a) w=p.getD (run d (nx d q a) w) 0
  rw[qQY hd hp hn a9 hq ha]
  exact aS hd hp hn a9 w (pB hd hq ha) (fun b hb=>hw b (by simp[hb]))
def vS (d:DfaV)(l:List Nat)(i:Nat):Nat->List Nat
 | 0=>l
 | a+1=>wP (vS d l i a) (nx d (l.getD i 0) a)
def qK (d:DfaV)(k:Nat):Nat->Nat->List Nat->List Nat
 | 0,_,l=>l
 | f+1,i,l=>if i<l.length then qK d k f (i+1) (vS d l i k) else l
def yJ (d:DfaV)(k:Nat):List Nat:=qK d k d.final.length 0 [st0 d]
theorem tO (d:DfaV)(l:List Nat)(i:Nat):∀a,l <+: vS d l i a
 | 0=>List.prefix_refl _
 | a+1=>(tO d l i a).trans (mC _ _)
theorem lK {d:DfaV}{l:List Nat}(h:l.Nodup)(i:Nat):∀a,(vS d l i a).Nodup
 | 0=>h
 | a+1=>gW (lK h i a)
theorem sO {d:DfaV}{l:List Nat}{i:Nat}{y:Nat}:∀ {a},y∈vS d l i a↔y∈l\/∃b,b<a/\y=nx d (l.getD i 0) b
 | 0=>by simp[vS]
 | a+1=>by
  rw[vS,lZ,sO,or_assoc]
  refine or_congr_right ⟨?_,?_⟩
  ·rintro (⟨b,hb,h⟩|h)
   ·exact⟨b,by omega,h⟩
   ·exact⟨a,by omega,h⟩
  ·rintro ⟨b,hb,h⟩
   rcases Nat.lt_succ_iff_lt_or_eq.1 hb with hb|rfl
   ·exact .inl ⟨b,hb,h⟩
   ·exact .inr h
structure AccI (d:DfaV)(n k i:Nat)(l:List Nat):Prop where
 nd:l.Nodup
 lt:∀q∈l,q<n
 hd:0<l.length/\l.getD 0 0=st0 d
 cl:∀j a,j<i->j<l.length->a<k->nx d (l.getD j 0) a∈l
 re:∀q∈l,∃w,tS k w/\run d (st0 d) w=q
theorem pF {l m:List Nat}(h:l <+: m){i:Nat}(hi:i<l.length):m.getD i 0=l.getD i 0:=by
 obtain⟨r,rfl⟩:=h;simp[List.getD,List.getElem?_append_left hi]
theorem AccI.row {d:DfaV}{n k i:Nat}{l:List Nat}(hd:VD d n k)(h:AccI d n k i l)(hi:i<l.length):AccI d n k (i+1) (vS d l i k):=by
 have hp:=tO d l i k;have h2:=hp.length_le;have h0:l.getD i 0∈l:=by rw[zN hi];exact List.getElem_mem _
 have h1:=h.lt _ h0;refine⟨lK h.nd i k,fun q hq=>?_,⟨by have:=h.hd.1;omega,by rw[pF hp h.hd.1];exact h.hd.2⟩,fun j a hj hjl ha=>?_,fun q hq=>?_⟩
 ·rcases sO.1 hq with hq|⟨b,hb,rfl⟩
  ·exact h.lt q hq
  exact pB hd h1 hb
 ·rw[pF hp (show j<l.length by omega)]
  rcases Nat.lt_succ_iff_lt_or_eq.1 hj with hj|rfl
  ·exact sO.2 (.inl (h.cl j a hj (by omega) ha))
  exact sO.2 (.inr ⟨a,ha,rfl⟩)
 rcases sO.1 hq with hq|⟨b,hb,rfl⟩
 ·exact h.re q hq
 obtain⟨w,hw,e⟩:=h.re _ h0;refine⟨w++[b],fun c hc=>?_,by rw[qMZ,e]⟩;rcases List.mem_append.1 hc with hc|hc
 ·exact hw c hc
 rw[List.mem_singleton]at hc;subst hc;exact hb
theorem qN {l:List Nat}{n:Nat}(h:l.Nodup)(hl:∀q∈l,q<n):l.length<=n:=by
 have:=h.length_le_of_subset (fun q hq=>List.mem_range.2 (hl q hq));simpa using this
theorem AccI.start {d:DfaV}{n k:Nat}(hd:VD d n k):AccI d n k 0 [st0 d] :=
 ⟨by simp,fun q hq=>by rw[List.mem_singleton]at hq;subst hq;exact mP hd,⟨by simp,by simp⟩,fun j a hj=>by omega,fun q hq=>by
  rw[List.mem_singleton]at hq;subst hq;exact⟨[],fun a ha=>by simp at ha,rfl⟩⟩
theorem qGI {d:DfaV}{n k:Nat}(hd:VD d n k):∀f i l,AccI d n k i l->n<=i+f->AccI d n k n (qK d k f i l)/\(qK d k f i l).length<=n
 | 0,i,l,h,hf=>by
  have hl:=qN h.nd h.lt
  exact⟨⟨h.nd,h.lt,h.hd,fun j a hj hjl ha=>h.cl j a (by omega) hjl ha,h.re⟩,hl⟩
 | f+1,i,l,h,hf=>by
  rw[qK]
  split
  ·rename_i hi
   exact qGI hd f (i+1) _ (h.row hd hi) (by omega)
  ·rename_i hi
   have hl:=qN h.nd h.lt
   exact⟨⟨h.nd,h.lt,h.hd,fun j a hj hjl ha=>h.cl j a (by omega) hjl ha,h.re⟩,hl⟩
theorem wJ {d:DfaV}{n k:Nat}(hd:VD d n k):AccI d n k n (yJ d k)/\(yJ d k).length<=n:=qGI hd _ _ _ (AccI.start hd) (by rw[hd.hn];omega)
theorem dE {d:DfaV}{k f i:Nat}{l:List Nat}(h:¬i<l.length):qK d k f i l=l:=by
 cases f with
 | zero=>rfl
 | succ f=>rw[qK,if_neg h]
def qJ (l:List Nat)(q:Nat):Int:=if q∈l then (l.idxOf q:Int) else -1
def vG (l:List Nat)(r:List Int):List Int:=r.map fun s=>qJ l s.toNat
def wR (d:DfaV)(k:Nat):DfaV:=⟨d.letters,0,(yJ d k).map fun q=>d.final.getD q false,(yJ d k).map fun q=>vG (yJ d k) (d.next.getD q [])⟩
section
variable {d:DfaV} {n k:Nat}
theorem jM (hd:VD d n k){i a:Nat}(hi:i<(yJ d k).length)(ha:a<k):ent (wR d k).next i a=(((yJ d k).idxOf (nx d ((yJ d k).getD i 0) a):Nat):Int):=by
 have hA:=(wJ hd).1;have hq:=hA.lt _ (show (yJ d k).getD i 0∈yJ d k by rw[zN hi];exact List.getElem_mem _);have hn:=(wJ hd).2;unfold ent wR;rw[xZ (x:=0) hi,vG,xZ (x:=0) (by rw[hd.row _ hq];exact ha),qJ,if_pos]
 ·rfl
 exact hA.cl i a (by omega) hi ha
theorem kQ (hd:VD d n k):VD (wR d k) (yJ d k).length k where
 hk:=hd.hk
 k1:=hd.k1
 k6:=hd.k6
 hn:=by simp[wR]
 n1:=(wJ hd).1.hd.1
 nbig:=Nat.le_trans (wJ hd).2 hd.nbig
 nl:=by simp[wR]
 s0:=by simp[wR]
 sn:=by have:=(wJ hd).1.hd.1;simp only[wR];omega
 row:=fun i hi=>by
  have hA:=(wJ hd).1
  have hq:=hA.lt _ (show (yJ d k).getD i 0∈yJ d k by rw[zN hi];exact List.getElem_mem _)
  simp only[wR]
  rw[xZ (x:=0) hi,vG,List.length_map,hd.row _ hq]
 lo:=fun i a hi ha=>by rw[jM hd hi ha];omega
 hi:=fun i a hi ha=>by
  have hn:=(wJ hd).2
  rw[jM hd hi ha]
  have:=List.idxOf_lt_length_of_mem ((wJ hd).1.cl i a (by omega) hi ha)
  omega
theorem qIN (hd:VD d n k){i a:Nat}(hi:i<(yJ d k).length)(ha:a<k):nx (wR d k) i a=(yJ d k).idxOf (nx d ((yJ d k).getD i 0) a):=by
 show (ent (wR d k).next i a).toNat=_;rw[jM hd hi ha];simp
theorem qFI (hd:VD d n k):∀(w:List Nat) {i:Nat},i<(yJ d k).length->tS k w->(yJ d k).getD (run (wR d k) i w) 0=run d ((yJ d k).getD i 0) w
 | [],i,_,_=>rfl
 | a::w,i,hi,hw=>by
  have ha:=hw a (by simp)
  have hn:=(wJ hd).2
  have hm:=(wJ hd).1.cl i a (by omega) hi ha
  have hlt:=List.idxOf_lt_length_of_mem hm
  have h:=qFI hd w (i:=nx (wR d k) i a) (by rw[qIN hd hi ha];exact hlt) (fun b hb=>hw b (by simp[hb]))
  show (yJ d k).getD (run (wR d k) (nx (wR d k) i a) w) 0=run d (nx d ((yJ d k).getD i 0) a) w
  rw[h,qIN hd hi ha,zN hlt,List.getElem_idxOf]
theorem iK (hd:VD d n k){i:Nat}(hi:i<(yJ d k).length):(wR d k).final.getD i false=d.final.getD ((yJ d k).getD i 0) false:=by
 simp only[wR];rw[xZ (x:=0) hi]
end
def minD (d:DfaV)(k:Nat):DfaV:=wR (uL d (yK d k)) k
def minN (d:DfaV)(k:Nat):Nat:=(yJ (uL d (yK d k)) k).length
section
variable {d:DfaV} {n k:Nat}
theorem lT (hd:VD d n k):VD (uL d (yK d k)) (cls (yK d k)) k:=aR hd (by rw[vD,hd.hn]) (uG d k)
theorem gO (hd:VD d n k):VD (minD d k) (minN d k) k:=kQ (lT hd)
theorem qKQ (hd:VD d n k):minN d k<=n:=Nat.le_trans (wJ (lT hd)).2 (Nat.le_trans (cls_le _) (by rw[vD,hd.hn];exact Nat.le_refl _))
end
open Go.RowKit
def tR (B:Nat)(w:World)(v:Value)(d:DfaV):Prop:=∃fv nv,v=.agg #[.int .i64 d.letters,.int .i64 d.start,fv,nv]/\Row B w fv (bls d.final)/\Mat B w nv d.next
theorem tR.kept {B:Nat}{w w':World}{v:Value}{d:DfaV}{row:Option Nat}(h:tR B w v d)(hg:w.grownBy w' row)(hr:∀k,row=some k->B<=k):tR B w' v d:=by
 obtain⟨fv,nv,h1,h2,h3⟩:=h;exact⟨fv,nv,h1,h2.kept hg hr,h3.kept hg hr⟩
theorem tR.mono {B B':Nat}{w:World}{v:Value}{d:DfaV}(h:tR B w v d)(hB:B<=B'):tR B' w v d:=by
 obtain⟨fv,nv,h1,h2,h3⟩:=h;exact⟨fv,nv,h1,h2.mono hB,h3.mono hB⟩
theorem kK {d:DfaV}(h:d.letters<1\/6<d.letters):uJ d=1:=by rw[uJ,if_pos h]
theorem dU {d:DfaV}(h:¬(d.letters<1\/6<d.letters))(h2:512<d.final.length):uJ d=3:=by rw[uJ,if_neg h,if_pos h2]
theorem gK {d:DfaV}(h:¬(d.letters<1\/6<d.letters))(h2:¬512<d.final.length)(h3:d.final.length=0\/d.next.length≠d.final.length\/d.start<0\/d.final.length<=d.start):uJ d=4:=by rw[uJ,if_neg h,if_neg h2,if_pos h3]
theorem qS {d:DfaV}(h:¬(d.letters<1\/6<d.letters))(h2:¬512<d.final.length)(h3:¬(d.final.length=0\/d.next.length≠d.final.length\/d.start<0\/d.final.length<=d.start)){q:Nat}(hq:q<d.next.length)(hb:rowD d.letters d.final.length (d.next.getD q [])=false):uJ d=4:=by
 rw[uJ,if_neg h,if_neg h2,if_neg h3,if_neg];intro ha;have:=List.all_eq_true.1 ha d.next[q] (List.getElem_mem hq);rw[zN hq,this]at hb;cases hb
theorem qBC {d:DfaV}(h:¬(d.letters<1\/6<d.letters))(h2:¬512<d.final.length)(h3:¬(d.final.length=0\/d.next.length≠d.final.length\/d.start<0\/d.final.length<=d.start))(ha:∀q,q<d.next.length->rowD d.letters d.final.length (d.next.getD q [])=true):uJ d=0:=by
 rw[uJ,if_neg h,if_neg h2,if_neg h3,if_pos];rw[List.all_eq_true];intro r hr;obtain⟨q,hq,rfl⟩:=List.getElem_of_mem hr;have:=ha q hq
 rwa [zN hq]at this
theorem qFP {k:Int}{n:Nat}{r:List Int}(h:(r.length:Int)≠k):rowD k n r=false:=by simp[rowD,h]
theorem fI {k:Int}{n:Nat}{r:List Int}{y:Nat}(hy:y<r.length)(h:r.getD y 0<0\/n<=r.getD y 0):rowD k n r=false:=by
 rw[<-Bool.not_eq_true];intro hr;have:=(nG.1 hr).2 y hy;omega
def qTQ (d:DfaV)(k:Nat):Prop:=∀x,x<k->rowD d.letters d.final.length (d.next.getD x [])=true
end Go.Proofs.YtobakifdllameaaGreat
