/- Part 4 of the proof. -/
import Derived.Test.YtiknckajkdlppaaGreatQb3
import Derived.Laws.Concat
set_option linter.unusedVariables false
set_option linter.unusedSimpArgs false
set_option maxRecDepth 100000
set_option maxHeartbeats 16000000
namespace Go.Proofs.YtiknckajkdlppaaGreat
open Go.RowKit
variable{z u v v':Value}{a9 base e n sz k j i n' g r e' a8 sa sb sc sd s a1 i0:Nat}{w w' w5:World}{row:Option Nat}{p q R c0:Prop}{o:Oper}{xs:List Value}{m:Nat×Nat}{listed l:Array Bool}{a a0:Act}{K:Act->World->Prop}{ws:List ByteArray}
structure ElemN (P:Program)(t e:TypeId)(sz:Nat)(z:Value)(bytes:Nat):Prop where
 ht:P.underlying t=some (.slice e)
 hi:(P.info? e).map (fun i=>(i.zero,i.size,i.bytes))=some (some z,sz,bytes)
 hz:z.cells.size=sz
 pos:0<sz
theorem ElemOk.toN {P:Program}{t e:TypeId}(E:ElemOk P t e z a9):ElemN P t e 1 z a9:=⟨E.ht,E.hi,E.hz,jd⟩
theorem nS {P:Program}(base:Nat)(t ty:TypeId){e:TypeId}{a7:Nat}(E:ElemOk P t e z a7)(v:Value)(n:Nat)(xs:List Value)(a8:w.ownsRow base e 1 v n xs)(g c:Nat)(u:Value)(hu:w.cell? ⟨g,0,none⟩=some u)(h1:u.oneCell'=true)(a5:n+1<=maxLen)(a9:(n+1)*a7<=140737488355328)(a6:base<=w.heap.size):∃v' w',(Builtin.append_ #[t,t] ty #[v,.slice (some ⟨g,0,none⟩) 1 c]).run P w=.ok v' w'/\w'.ownsRow base e 1 v' (n+1) (xs++[u])/\w.grownBy w' v.ownBlock/\nW w w' v v':=by
 obtain⟨i,hi,hz,h5,H0⟩:=info_parts E.hi
 have h0:∀j u',[u][j]?=some u'->w.cell? ((⟨g,0,none⟩:Addr).add j)=some u':=by
  intro j u' hj
  match j,hj with
  | 0,hj=>simp at hj;subst hj;simpa [Addr.add] using hu
 have h7:∀u'∈[u],u'.oneCell'=true:=by intro u' hu;simp at hu;subst hu;exact h1
 obtain⟨v',w',hr,h2,h3,h4⟩:=run_append_own (P:=P) w base t ty e i z 1 a7 E.ht hi hz h5 H0 E.hz jd v n xs a8 ⟨g,0,none⟩ 1 c [u] rfl h0 h7 a5 a9 a6;refine⟨v',w',hr,h2,h3,?_⟩;have h9:n+1<=9223372036854775807:=by simp only[maxLen]at a5;omega
 rcases a8.2 with ⟨rfl,rfl⟩|⟨b,cap,cur,rfl,hb,hg,hnc,hcm,hcs,htake⟩
 ·have h6:=run_append_nil (P:=P) w t ty e i z E.ht hi hz ⟨g,0,none⟩ 1 c [u] (by simp[h5]) h0 yo yo (by rw[H0];simp at a9;omega)
  rw[h6]at hr;injection hr with e1 e2;subst e1;subst e2;refine .inr ⟨uG (Ga w _ none) rfl rfl rfl rfl,fun k hk=>?_⟩;have:w.heap.size=k:=by simpa [Value.ownBlock] using hk
  omega
 by_cases hroom:n+1<=cap
 ·obtain⟨w2,h6,_⟩:=run_append_fits (P:=P) w base t ty e i 1 E.ht hi h5 b n cap xs a8 ⟨g,0,none⟩ 1 c [u] rfl h0 h7 hroom
  rw[h6]at hr;injection hr with e1 e2;subst e1;exact .inl rfl
 have h8:∀j u,xs[j]?=some u->w.cell? ((⟨b,0,none⟩:Addr).add j)=some u:=a8.cells (g:=b) rfl;have H1:xs.length=n*i.size:=by rw[h5];exact a8.1
 have h6:=run_append_grow (P:=P) w t ty e i z E.ht hi hz ⟨b,0,none⟩ n cap xs H1 h8 ⟨g,0,none⟩ 1 c [u] (by simp[h5]) h0 yo yo (growslice_fits yo (by rw[H0];exact a9));rw[h6]at hr;injection hr with e1 e2;subst e1;subst e2;refine .inr ⟨uG (Ga w _ none) rfl rfl rfl rfl,fun k hk=>?_⟩;have:w.heap.size=k:=by simpa [Value.ownBlock] using hk
 omega
structure RowS where
 base:Nat
 e:TypeId
 v:Value
 n:Nat
 xs:List Value
 sz:Nat
structure GrownBut (w w':World)(F:Nat->Prop):Prop where
 os:w'.os=w.os
 tape:w'.tape=w.tape
 output:w'.output=w.output
 size:w.heap.size<=w'.heap.size
 block:∀k,k<w.heap.size->¬F k->w'.heap[k]?=w.heap[k]?
theorem GrownBut.refl (w:World)(F:Nat->Prop):GrownBut w w F:=⟨rfl,rfl,rfl,Nat.le_refl _,fun _ _ _=>rfl⟩
theorem GrownBut.step {a9:World}{F:Nat->Prop}(h:GrownBut w w' F)(hg:w'.grownBy a9 row)(hr:∀k,row=some k->F k\/w.heap.size<=k):GrownBut w a9 F :=
 ⟨hg.os.trans h.os,hg.tape.trans h.tape,hg.output.trans h.output,Nat.le_trans h.size hg.size,fun k hk hf=>by
  refine(hg.block k (Nat.lt_of_lt_of_le hk h.size) fun e=>?_).trans (h.block k hk hf)
  rcases hr k e.symm with h|h
  ·exact hf h
  ·omega⟩
theorem GrownBut.grown {w0:World}{F:Nat->Prop}(h:GrownBut w w' F)(h0:w0.grownBy w row)(hF:∀k,F k->row=some k\/w0.heap.size<=k):w0.grownBy w' row :=
 ⟨h.os.trans h0.os,h.tape.trans h0.tape,h.output.trans h0.output,Nat.le_trans h0.size h.size,fun k hk hne=>by
  refine(h.block k (Nat.lt_of_lt_of_le hk h0.size) fun hf=>?_).trans (h0.block k hk hne)
  rcases hF k hf with e|e
  ·exact hne e.symm
  ·omega⟩
theorem GrownBut.cell {F:Nat->Prop}(h:GrownBut w w' F){p:Addr}(hc:w.cell? p=some u)(hf:¬F p.block):w'.cell? p=some u :=
 (World.cell?_of_block (h.block p.block (World.block_lt_of_cell? w p hc) hf)).trans hc
theorem GrownBut.heap {F:Nat->Prop}(h:GrownBut w w' F){p:Nat}{o:Obj}(hc:w.heap[p]?=some o)(hf:¬F p):w'.heap[p]?=some o :=
 (h.block p (zS hc) hf).trans hc
structure Many (w0:World)(F:Nat->Prop)(W:World)(rs:List RowS)(ls:List (Nat×Obj))(ps:List (Nat×TypeId×List Value)):Prop where
 own:∀(j:Nat) (r:RowS),rs[j]?=some r->W.ownsRow r.base r.e r.sz r.v r.n r.xs
 mine:∀(j:Nat) (r:RowS),rs[j]?=some r->∀k,r.v.ownBlock=some k->F k\/w0.heap.size<=k
 apart:∀(i j:Nat) (r s:RowS),i≠j->rs[i]?=some r->rs[j]?=some s->∀k,r.v.ownBlock=some k->s.v.ownBlock≠some k
 lit:∀p∈ls,W.heap[p.1]?=some p.2/\(∀(j:Nat) (r:RowS),rs[j]?=some r->r.v.ownBlock≠some p.1)/\w0.heap.size<=p.1
 pre:∀p∈ps,Arr W p.1 p.2.1 p.2.2/\∀(j:Nat) (r:RowS),rs[j]?=some r->r.v.ownBlock=some p.1->p.2.2 <+: r.xs/\r.e=p.2.1/\r.sz=1
 but:GrownBut w0 W F
section
variable {w0 W:World} {F:Nat->Prop} {rs:List RowS} {ls:List (Nat×Obj)} {ps:List (Nat×TypeId×List Value)}
theorem qJQ (h:w.ownsRow base e sz v n xs)(hk:v.ownBlock=some k):k<w.heap.size:=(h.lt k hk).2
theorem zZ (h:w.ownsRow base e sz v n xs)(hg:w.grownBy w' none):w'.ownsRow base e sz v n xs:=by
 refine h.kept hg ?_;rcases hv:v.ownBlock with _|k
 ·exact .inl rfl
 exact .inr yq
theorem Many.alloc (h:Many w0 F W rs ls ps)(o:Obj):Many w0 F (W.alloc o) rs ((W.heap.size,o)::ls) ps where
 own:=fun j r hr=>(h.own j r hr).alloc o
 mine:=h.mine
 apart:=h.apart
 lit:=fun p hp=>by
  rcases List.mem_cons.1 hp with rfl|hp
  ·exact⟨heap_alloc_new W o,fun j r hr e=>(by have:=qJQ (h.own j r hr) e;simp only at this;omega),h.but.size⟩
  ·exact⟨zD (h.lit p hp).1 (Ga W o none) yq,(h.lit p hp).2⟩
 pre:=fun p hp=>⟨(h.pre p hp).1.kept (Ga W o none) yq,(h.pre p hp).2⟩
 but:=h.but.step (Ga W o none) yq
theorem fU {α:Type}{l:List α}{x r:α}(h:(l.set j x)[i]?=some r):(i=j/\r=x/\j<l.length)\/(i≠j/\l[i]?=some r):=by
 by_cases e:i=j
 ·subst e
  left;rw[List.getElem?_set]at h;simp only[if_true]at h
  split at h
  ·exact⟨rfl,(Oj h).symm,by assumption⟩
  cases h
 exact .inr ⟨e,by rwa [List.getElem?_set_ne (Ne.symm e)]at h⟩
theorem Many.append {W':World}(h:Many w0 F W rs ls ps){r:RowS}(hr:rs[j]?=some r){us:List Value}(ho:W'.ownsRow r.base r.e r.sz v' n' (r.xs++us))(hg:W.grownBy W' r.v.ownBlock)(hm:nW W W' r.v v'):Many w0 F W' (rs.set j ⟨r.base,r.e,v',n',r.xs++us,r.sz⟩) ls ps where
 own:=fun i s hs=>by
  rcases fU hs with ⟨rfl,rfl,_⟩|⟨hne,hs⟩
  ·exact ho
  ·refine(h.own i s hs).kept hg ?_
   rcases hb:s.v.ownBlock with _|k
   ·exact .inl rfl
   ·exact .inr fun e=>h.apart i j s r hne hs hr k hb (by rw[<-e])
 mine:=fun i s hs k hk=>by
  rcases fU hs with ⟨rfl,rfl,_⟩|⟨hne,hs⟩
  ·rcases hm with hm|⟨_,hm⟩
   ·exact h.mine i r hr k (hm ▸ hk)
   ·have:=hm k hk
    have:=h.but.size
    exact .inr yo
  ·exact h.mine i s hs k hk
 apart:=fun i i' s s' hne hs hs' k hk=>by
  rcases fU hs with ⟨rfl,rfl,_⟩|⟨h1,hs2⟩
  ·rcases fU hs' with ⟨rfl,_,_⟩|⟨h2,hs'⟩
   ·exact absurd rfl hne
   ·rcases hm with hm|⟨_,hm⟩
    ·exact h.apart i i' r s' hne hr hs' k (hm ▸ hk)
    ·intro e
     have h3:=hm k hk
     have h4:=qJQ (h.own i' s' hs') e
     omega
  ·rcases fU hs' with ⟨rfl,rfl,_⟩|⟨h2,hs'⟩
   ·rcases hm with hm|⟨_,hm⟩
    ·exact fun e=>h.apart i i' s r hne hs2 hr k hk (by rw[<-hm];exact e)
    ·intro e
     have h3:=hm k e
     have h4:=qJQ (h.own i s hs2) hk
     omega
   ·exact h.apart i i' s s' hne hs2 hs' k hk
 lit:=fun p hp=>by
  obtain⟨h1,h2,hlow⟩:=h.lit p hp
  refine⟨zD h1 hg (h2 j r hr),fun i s hs e=>?_,hlow⟩
  rcases fU hs with ⟨rfl,rfl,_⟩|⟨hne,hs⟩
  ·rcases hm with hm|⟨_,hm⟩
   ·exact h2 i r hr (hm ▸ e)
   ·have h3:=hm _ e
    have h4:=zS h1
    omega
  ·exact h2 i s hs e
 pre:=fun p hp=>by
  obtain⟨h1,h2⟩:=h.pre p hp
  have harr:Arr W' p.1 p.2.1 p.2.2:=by
   by_cases e:r.v.ownBlock=some p.1
   ·rcases hm with hm|⟨hm,_⟩
    ·obtain⟨h3,h4,h5⟩:=h2 j r hr e
     rw[h5]at ho;rcases ho.2 with ⟨hv,_⟩|⟨g,cap,cur,hv,_⟩
     ·rw[hv]at hm;rw[e]at hm;simp[Value.ownBlock]at hm
     ·subst hv
      have h0:g=p.1:=by rw[e]at hm;simpa [Value.ownBlock] using hm
      subst h0;have ha:=Arr.of_owns ho;rw[h4]at ha;obtain⟨q,hq⟩:=h3;rw[<-hq,List.append_assoc]at ha;exact ha.front
    ·exact h1.kept hm yq
   ·exact h1.kept hg e
  refine⟨harr,fun i s hs e=>?_⟩;rcases fU hs with ⟨rfl,rfl,_⟩|⟨hne,hs⟩
  ·rcases hm with hm|⟨_,hm⟩
   ·obtain⟨h3,h4,h5⟩:=h2 i r hr (hm ▸ e)
    exact⟨h3.trans (List.prefix_append _ _),h4,h5⟩
   ·have h3:=hm _ e
    have h4:=h1.lt;omega
  ·exact h2 i s hs e
 but:=h.but.step hg (h.mine j r hr)
theorem Many.litcell (h:Many w0 F W rs ls ps)(hl:(g,Obj.cells #[u] e m)∈ls):W.cell? ⟨g,0,none⟩=some u:=by
 simpa using zJ (h.lit _ hl).1 0 yq
theorem Many.precell (h:Many w0 F W rs ls ps)(hp:(g,e,xs)∈ps)(i:Nat)(hi:i<xs.length):W.cell? ⟨g,i,none⟩=some xs[i]:=(h.pre _ hp).1.cell i hi
theorem wR {P : Program}{W : World}{ops : Array Oper}{o : Oper}{a : Act}{K : Act → World → Prop}{Q : Exit → Act → World → Prop}{R : Prop}(a8 : o.guard = none)(s x : Operand)(t : TypeId)(ho : o.op = .call { callee := .builtin .append, args := #[s, x], argTypes := #[t, t] }){e : TypeId}{z : Value}{a9 : Nat}(E : ElemOk P t e z a9)(j : Nat)(g c : Nat)(hx : a.eval x = .slice (some ⟨g, 0, none⟩) 1 c)(h : ∃ (w0 : World) (F : Nat → Prop) (rs : List RowS) (ls : List (Nat × Obj)) (ps : List (Nat × TypeId × List Value)), Many w0 F W rs ls ps ∧
   ∃ r : RowS, rs[j]? = some r ∧ r.e = e ∧ r.sz = 1 ∧ a.eval s = r.v ∧ r.n + 1 ≤ maxLen ∧ (r.n + 1) * a9 ≤ 140737488355328 ∧ r.base ≤ w0.heap.size ∧
   ∃ (u : Value) (g' : Nat) (m : Nat × Nat), (g', Obj.cells #[u] e m) ∈ ls ∧ g' = g ∧ u.oneCell' = true ∧
   ∀ sa sc w', Many w0 F w' (rs.set j ⟨r.base, r.e, .slice sa (r.n + 1) sc, r.n + 1, r.xs ++ [u], r.sz⟩) ls ps → K (a.put o.dst (.slice sa (r.n + 1) sc)) w'): if Region.wanted o (yielded ops a.tmps) = true then Oper.wp P o a W K Q else R := by
 obtain ⟨w0, F, rs, ls, ps, h, r, hr, rfl, hsz, hs, h63, hbytes, hbase, u, g', m, hl, rfl, h1, hK⟩ := h
 have hw : Region.wanted o (yielded ops a.tmps) = true := by simp [Region.wanted, a8]
 rw [if_pos hw]
 have hu : W.cell? ⟨g', 0, none⟩ = some u := by simpa using zJ (h.lit _ hl).1 0 yq
 obtain ⟨v', w', hrun, h2, h3, h4⟩ := nS (P := P) r.base t o.type E r.v r.n r.xs (by have := h.own j r hr; rwa [hsz] at this) g' c u hu h1 h63 hbytes (Nat.le_trans hbase h.but.size)
 obtain ⟨sa, sc, rfl⟩ := rX h2
 unfold Oper.wp execOp
 simp only [ho, resolve, invoke, builtin, Sem.run_bind, Sem.run_pure, Result.andThen_ok, List.map_toArray, List.map_cons, List.map_nil, hs, hx, hrun]
 exact hK sa sc w' (h.append hr (by rw [hsz]; exact h2) h3 h4)
end
theorem Many.two {r s:RowS}(hr:w.ownsRow r.base r.e r.sz r.v r.n r.xs)(hs:w.ownsRow s.base s.e s.sz s.v s.n s.xs)(a9:∀k,r.v.ownBlock=some k->s.v.ownBlock≠some k):
  Many w (fun k=>r.v.ownBlock=some k\/s.v.ownBlock=some k) w [r,s] [] [] where
 own:=fun j x hx=>by
  match j,hx with
  | 0,hx=>simp at hx;subst hx;exact hr
  | 1,hx=>simp at hx;subst hx;exact hs
 mine:=fun j x hx k hk=>by
  match j,hx with
  | 0,hx=>simp at hx;subst hx;exact .inl (.inl hk)
  | 1,hx=>simp at hx;subst hx;exact .inl (.inr hk)
 apart:=fun i j x y hij hx hy k hk=>by
  match i,j,hij,hx,hy with
  | 0,1,_,hx,hy=>simp at hx hy;subst hx;subst hy;exact a9 k hk
  | 1,0,_,hx,hy=>simp at hx hy;subst hx;subst hy;exact fun e=>a9 k e hk
  | 0,0,h,_,_=>exact absurd rfl h
  | 1,1,h,_,_=>exact absurd rfl h
 lit:=fun p hp=>by simp at hp
 pre:=fun p hp=>by simp at hp
 but:=GrownBut.refl _ _
theorem Many.see {w0 W:World}{F:Nat->Prop}{rs:List RowS}{ls:List (Nat×Obj)}{ps:List (Nat×TypeId×List Value)}(h:Many w0 F W rs ls ps){cap:Nat}{r:RowS}(hr:rs[j]?=some r)(hv:r.v=.slice (some ⟨g,0,none⟩) r.n cap)(hz:r.sz=1):Many w0 F W rs ls ((g,r.e,r.xs)::ps) where
 own:=h.own
 mine:=h.mine
 apart:=h.apart
 lit:=h.lit
 pre:=fun p hp=>by
  rcases List.mem_cons.1 hp with rfl|hp
  ·have ho:=h.own j r hr
   rw[hv,hz]at ho
   refine⟨Arr.of_owns ho,fun i s hs e=>?_⟩
   by_cases hij:i=j
   ·subst hij
    rw[hr]at hs
    have:=Oj hs
    subst this
    exact⟨List.prefix_refl _,rfl,hz⟩
   ·exact absurd (by rw[hv];rfl) (h.apart i j s r hij hs hr g e)
  ·exact h.pre p hp
 but:=h.but
def tM (w:World)(sz:Nat)(sv:Value)(m:Nat)(news:List Value):Prop :=
 (∃a cap,sv=.slice a 0 cap/\m=0/\news=[])\/∃b off cap,sv=.slice (some ⟨b,off,none⟩) m cap/\news.length=m*sz/\m<=maxLen/\∀j u,news[j]?=some u->w.cell? ⟨b,off+j,none⟩=some u
theorem oO (h:w.ownsRow base e sz v n xs):tM w sz v n xs:=by
 have hl:=h.1;rcases h.2 with ⟨rfl,rfl⟩|⟨g,cap,cur,rfl,hb,hg,hnc,hcm,hcs,htake⟩
 ·exact .inl ⟨none,0,rfl,rfl,List.eq_nil_of_length_eq_zero (by simpa using hl)⟩
 refine .inr ⟨g,0,cap,rfl,hl,yo,fun j u hj=>?_⟩;have:=h.cells (g:=g) rfl j u hj;have h0:(⟨g,0,none⟩:Addr).add j=⟨g,j,none⟩:=by unfold Addr.add;split<;>simp_all
 rw[h0]at this
 rwa [Nat.zero_add]
theorem rV {P:Program}(base:Nat)(t ty:TypeId){e:TypeId}{a6:Nat}(E:ElemN P t e sz z a6)(v:Value)(n:Nat)(xs:List Value)(a8:w.ownsRow base e sz v n xs)(sv:Value)(m:Nat)(a9:List Value)(a4:tM w sz sv m a9)(h1:∀u∈a9,u.oneCell'=true)(a3:n+m<=maxLen)(a7:(n+m)*a6<=140737488355328)(a5:base<=w.heap.size):∃v' w',(Builtin.append_ #[t,t] ty #[v,sv]).run P w=.ok v' w'/\w'.ownsRow base e sz v' (n+m) (xs++a9)/\w.grownBy w' v.ownBlock/\nW w w' v v':=by
 obtain⟨i,hi,hz,h5,H0⟩:=info_parts E.hi;have h7:=E.pos;have H1:n+m<=9223372036854775807:=by simp only[maxLen]at a3;omega
 have H2:∀(b off j:Nat),(⟨b,off,none⟩:Addr).add j=⟨b,off+j,none⟩:=fun b off j=>by unfold Addr.add;split<;>simp_all
 have stay:∀(a':Addr) (cap:Nat),m=0->a9=[]->∃v' w',(Builtin.append_ #[t,t] ty #[v,.slice (some a') 0 cap]).run P w=.ok v' w'/\w'.ownsRow base e sz v' (n+m) (xs++a9)/\w.grownBy w' v.ownBlock/\nW w w' v v':=by
  intro a' cap h9 hn;subst hn;subst h9;obtain⟨v',w',hr,h2,h3,h4⟩:=run_append_own (P:=P) w base t ty e i z sz a6 E.ht hi hz h5 H0 E.hz h7 v n xs a8 a' 0 cap [] yq (fun j u hj=>by simp at hj) (fun u hu=>by simp at hu) (by simpa using a3) (by simpa using a7) a5;refine⟨v',w',hr,h2,h3,?_⟩;rcases a8.2 with ⟨rfl,rfl⟩|⟨b,bc,cur,rfl,hb,hg,hnc,hcm,hcs,htake⟩
  ·have:=h4.2 ⟨rfl,rfl⟩
   subst this;exact .inl rfl
  obtain⟨w2,h6,_⟩:=run_append_fits (P:=P) w base t ty e i sz E.ht hi h5 b n bc xs a8 a' 0 cap [] yq (fun j u hj=>by simp at hj) (fun u hu=>by simp at hu) yo;rw[h6]at hr;injection hr with e1 e2;subst e1;exact .inl rfl
 rcases a4 with ⟨a',cap,rfl,rfl,rfl⟩|⟨b,off,cap,rfl,hnl,hml,hra⟩
 ·cases a' with
  | none =>
   have hr:(Builtin.append_ #[t,t] ty #[v,.slice none 0 cap]).run P w=.ok v w:=by
    rcases a8.2 with ⟨rfl,rfl⟩|⟨g,gc,cur,rfl,_,_,hnc,_⟩
    ·simp[Builtin.append_,run_underlying E.ht,sizeOf,typeInfo,hi,Builtin.lenOf,Builtin.firstCells]
    simp[Builtin.append_,run_underlying E.ht,sizeOf,typeInfo,hi,Builtin.lenOf,Builtin.firstCells,hnc,storeCells]
   exact⟨v,w,hr,by simpa using a8,zX _ _,.inl rfl⟩
  | some a'=>exact stay a' cap rfl rfl
 by_cases h9:m=0
 ·have H3:a9=[]:=List.eq_nil_of_length_eq_zero (by rw[hnl,h9];simp)
  subst h9;exact stay _ _ rfl H3
 have h0:∀j u',a9[j]?=some u'->w.cell? ((⟨b,off,none⟩:Addr).add j)=some u':=fun j u' hj=>by rw[H2];exact hra j u' hj
 obtain⟨v',w',hr,H6,H5,_⟩:=run_append_own (P:=P) w base t ty e i z sz a6 E.ht hi hz h5 H0 E.hz h7 v n xs a8 ⟨b,off,none⟩ m cap a9 hnl h0 h1 a3 a7 a5;refine⟨v',w',hr,H6,H5,?_⟩;rcases a8.2 with ⟨rfl,rfl⟩|⟨g,gc,cur,rfl,hb,hg,hnc,hcm,hcs,htake⟩
 ·have h6:=run_append_nil (P:=P) w t ty e i z E.ht hi hz ⟨b,off,none⟩ m cap a9 (by rw[hnl,h5]) h0 yo yo (by rw[H0];simp at a7;omega)
  rw[h6]at hr;injection hr with e1 e2;subst e1;subst e2;refine .inr ⟨uG (Ga w _ none) rfl rfl rfl rfl,fun k hk=>?_⟩;have:w.heap.size=k:=by simpa [Value.ownBlock] using hk
  omega
 by_cases hroom:n+m<=gc
 ·obtain⟨w2,h6,_⟩:=run_append_fits (P:=P) w base t ty e i sz E.ht hi h5 g n gc xs a8 ⟨b,off,none⟩ m cap a9 hnl h0 h1 hroom
  rw[h6]at hr;injection hr with e1 e2;subst e1;exact .inl rfl
 have h8:∀j u,xs[j]?=some u->w.cell? ((⟨g,0,none⟩:Addr).add j)=some u:=a8.cells (g:=g) rfl;have H4:xs.length=n*i.size:=by rw[h5];exact a8.1
 have h6:=run_append_grow (P:=P) w t ty e i z E.ht hi hz ⟨g,0,none⟩ n gc xs H4 h8 ⟨b,off,none⟩ m cap a9 (by rw[hnl,h5]) h0 yo yo (growslice_fits yo (by rw[H0];exact a7));rw[h6]at hr;injection hr with e1 e2;subst e1;subst e2;refine .inr ⟨uG (Ga w _ none) rfl rfl rfl rfl,fun k hk=>?_⟩;have:w.heap.size=k:=by simpa [Value.ownBlock] using hk
 omega
section
variable {w0 W W':World} {F:Nat->Prop} {rs:List RowS} {ls ls':List (Nat×Obj)} {ps:List (Nat×TypeId×List Value)}
theorem Many.lit0 (h:Many w0 F W rs ls ps){e:TypeId}(hr:rs[j]?=some ⟨base,e,.slice none 0 0,0,[],sz⟩)(hb:base<=w0.heap.size):Many w0 F (W.alloc (.cells #[] e)) (rs.set j ⟨base,e,.slice (some ⟨W.heap.size,0,none⟩) 0 0,0,[],sz⟩) ls ps:=by
 have hg:=Ga W (.cells #[] e) none
 have:=h.append (W':=W.alloc (.cells #[] e)) (j:=j) hr (v':=.slice (some ⟨W.heap.size,0,none⟩) 0 0) (n':=0) (us:=[]) (by
  have h9:=heap_alloc_new W (.cells #[] e)
  exact⟨yq,.inr ⟨W.heap.size,0,#[],rfl,Nat.le_trans hb h.but.size,h9,Nat.le_refl _,Nat.zero_le _,yq,yq⟩⟩) hg (.inr ⟨hg,fun k hk=>by
  have:W.heap.size=k:=by simpa [Value.ownBlock] using hk
  omega⟩)
 exact this
theorem Many.lits (h:Many w0 F W rs ls ps)(hs:∀p∈ls',p∈ls):Many w0 F W rs ls' ps:=⟨h.own,h.mine,h.apart,fun p hp=>h.lit p (hs p hp),h.pre,h.but⟩
theorem oC {P : Program}{ops : Array Oper}{o : Oper}{a : Act}{K : Act → World → Prop}{Q : Exit → Act → World → Prop}{R : Prop}(a8 : o.guard = none)(s x : Operand)(t : TypeId)(ho : o.op = .call { callee := .builtin .append, args := #[s, x], argTypes := #[t, t] }){e : TypeId}{sz : Nat}{z : Value}{a9 : Nat}(E : ElemN P t e sz z a9)(j : Nat)(sv : Value)(hx : a.eval x = sv)(h : ∃ (w0 : World) (F : Nat → Prop) (rs : List RowS) (ls : List (Nat × Obj)) (ps : List (Nat × TypeId × List Value)), Many w0 F W rs ls ps ∧
   ∃ (r : RowS) (m n' : Nat) (news : List Value), rs[j]? = some r ∧ r.e = e ∧ r.sz = sz ∧ a.eval s = r.v ∧ tM W sz sv m news ∧ (∀ u ∈ news, u.oneCell' = true) ∧ r.n + m = n' ∧ n' ≤ maxLen ∧ n' * a9 ≤ 140737488355328 ∧ r.base ≤ w0.heap.size ∧
   ∀ sa sc w', Many w0 F w' (rs.set j ⟨r.base, r.e, .slice sa n' sc, n', r.xs ++ news, r.sz⟩) ls ps → K (a.put o.dst (.slice sa n' sc)) w'): if Region.wanted o (yielded ops a.tmps) = true then Oper.wp P o a W K Q else R := by
 obtain ⟨w0, F, rs, ls, ps, h, r, m, n', news, hr, rfl, rfl, hs, hrow, h1, rfl, h63, hbytes, hbase, hK⟩ := h
 have hw : Region.wanted o (yielded ops a.tmps) = true := by simp [Region.wanted, a8]
 rw [if_pos hw]
 obtain ⟨v', w', hrun, h2, h3, h4⟩ := rV (P := P) r.base t o.type E r.v r.n r.xs (h.own j r hr) sv m news hrow h1 h63 hbytes (Nat.le_trans hbase h.but.size)
 obtain ⟨sa, sc, rfl⟩ : ∃ sa sc, v' = .slice sa (r.n + m) sc := by
  rcases h2.2 with ⟨e1, e2⟩ | ⟨g, cap, cur, e1, _⟩
  ·exact ⟨none, 0, by rw [e1, e2]⟩
  ·exact ⟨_, _, e1⟩
 unfold Oper.wp execOp
 simp only [ho, resolve, invoke, builtin, Sem.run_bind, Sem.run_pure, Result.andThen_ok, List.map_toArray, List.map_cons, List.map_nil, hs, hx, hrun]
 exact hK sa sc w' (h.append hr h2 h3 h4)
end
def yK (a0:Act)(l:List (Nat×Value)):Act:=l.foldl (fun a p=>a.put (some p.1) p.2) a0
section
variable {P:Program} {md:Region.Mode} {ops:Array Oper} {Q:Exit->Act->World->Prop} {G:Array Bool->World->Prop}
theorem uM (h:∀Wp:Nat->Array Bool->Act->World->Prop,Wp=uU P md ops Q G->∀a0,a0=a->Wp a9 listed a0 w):uU P md ops Q G a9 listed a w:=h _ rfl _ rfl
end
section
variable {P:Program} {md:Region.Mode} {ops:Array Oper} {Q:Exit->Act->World->Prop} {G:Array Bool->World->Prop}
theorem dF (I : Array Bool → Act → World → Prop)(hG : ∀ l a w, I l a w → G l w)(a9 : ∀ i o, ops[i]? = some o → ∀ listed a w, I listed a w → listed.getD i true = false → (∀ e ∈ o.after, Region.binds md e = true → listed.getD e.on false = true) →
   ∀ K' : Act → World → Prop, Shut (∀ a w, I (listed.setIfInBounds i true) a w → K' a w) → if Region.wanted o (yielded ops a.tmps) = true then Oper.wp P o a w K' Q else K' (a.put o.dst undef) w)(a8 : ∀ listed a w, I listed a w → Region.ready md ops listed = [] → Q .normal a w):
  ∀ (fuel : Nat) (listed : Array Bool) (a : Act) (w : World), qEQ ops listed ≤ fuel → I listed a w → uU P md ops Q G fuel listed a w
 | 0, listed, a, w, hf, hI => by
  have hr : Region.ready md ops listed = [] := by
   rcases h : Region.ready md ops listed with _ | ⟨i, l⟩
   ·rfl
   ·have := dK (md := md) (ops := ops) (listed := listed) (i := i) (by rw [h]; exact List.mem_cons_self)
    omega
  exact ⟨hr, a8 _ _ _ hI hr⟩
 | fuel + 1, listed, a, w, hf, hI => by
  refine ⟨a8 _ _ _ hI, fun i hi => ?_⟩
  obtain ⟨h0, o, ho, hall⟩ := mem_ready.1 hi
  have hu := dK hi
  exact wpOp_mono (fun a' w' h => ⟨hG _ _ _ h, dF I hG a9 a8 fuel _ a' w' yo h⟩) (wpOp_step (K := I (listed.setIfInBounds i true)) ho (fun K' hK => a9 i o ho _ _ _ hI h0 hall K' hK))
def mX (P:Program)(md:Region.Mode)(ops:Array Oper)(Q:Exit->Act->World->Prop)(I:Array Bool->Act->World->Prop)(i:Nat)(o:Oper):Prop :=
 ∀listed a w,I listed a w->listed.getD i true=false->(∀e∈o.after,Region.binds md e=true->listed.getD e.on false=true) ->
  ∀K':Act->World->Prop,Shut (∀a w,I (listed.setIfInBounds i true) a w->K' a w)->if Region.wanted o (yielded ops a.tmps)=true then Oper.wp P o a w K' Q else K' (a.put o.dst undef) w
def qI (S:Nat->Oper->Prop):Nat->List Oper->Prop
 | _,[]=>True
 | k,o::l=>S k o/\qI S (k+1) l
def qQB (P:Program)(md:Region.Mode)(ops:Array Oper)(Q:Exit->Act->World->Prop)(I:Array Bool->Act->World->Prop)(listed:Array Bool)(a:Act)(w:World)(i:Nat)(o:Oper):Prop :=
 listed.getD i true=false->(∀e∈o.after,Region.binds md e=true->listed.getD e.on false=true) ->
  ∀K':Act->World->Prop,Shut (∀a w,I (listed.setIfInBounds i true) a w->K' a w)->if Region.wanted o (yielded ops a.tmps)=true then Oper.wp P o a w K' Q else K' (a.put o.dst undef) w
theorem kT {I:Array Bool->Act->World->Prop}:∀ {k:Nat} {l:List Oper},(∀listed a w,I listed a w->qI (qQB P md ops Q I listed a w) k l)->qI (mX P md ops Q I) k l
 | _,[],_=>trivial
 | _,_::_,h=>⟨fun listed a w hI=>(h listed a w hI).1,kT (fun listed a w hI=>(h listed a w hI).2)⟩
theorem hs7Z {I:Array Bool->Act->World->Prop}(h:listed.getD i true=true):qQB P md ops Q I listed a w i o:=fun hun=>absurd h (by rw[hun];simp)
theorem qI.get {S:Nat->Oper->Prop}:∀ {k:Nat} {l:List Oper},qI S k l->∀i o,l[i]?=some o->S (k+i) o
 | _,[],_,i,o,h=>by simp at h
 | k,x::l,h,0,o,e=>by
  have e:x=o:=by simpa using e
  subst e;exact h.1
 | k,x::l,h,i+1,o,e=>by
  have:=qI.get h.2 i o (by simpa using e)
  rwa [Nat.add_right_comm,Nat.add_assoc]at this
theorem qTE {S:Nat->Oper->Prop}{ops:Array Oper}(h:qI S 0 ops.toList):∀i o,ops[i]?=some o->S i o:=fun i o ho=>by
 have:=h.get i o (by simpa using ho)
 rwa [Nat.zero_add]at this
def qSU (ops:Array Oper):Bool:=(List.range ops.size).all fun i=>match ops[i]? with|some o=>o.after.all fun e=>decide (e.on<i)|none=>true
theorem qHX (hw:qSU ops=true)(hr:Region.ready md ops listed=[]):∀j,j<ops.size->listed.getD j true=true:=by
 intro j
 induction j using Nat.strongRecOn with
 | ind j ih =>
  intro hj;rcases hl:listed.getD j true with _|_
  ·exfalso
   have h0:j<listed.size:=by
    rcases Nat.lt_or_ge j listed.size with h|h
    ·exact h
    simp[h]at hl
   have hm:j∈Region.ready md ops listed:=by
    refine mem_ready.2 ⟨hl,ops[j],Array.getElem?_eq_getElem hj,fun e he _=>?_⟩;have h1:=List.all_eq_true.1 hw j (List.mem_range.2 hj);rw[Array.getElem?_eq_getElem hj]at h1
    have h2:e.on<j:=by
     have:=Array.all_eq_true'.1 h1 e he;simpa using this
    have h3:=ih e.on h2 yo;have h4:e.on<listed.size:=yo;simpa [h4] using h3
   rw[hr]at hm;cases hm
  rfl
theorem uL (I:Array Bool->Act->World->Prop)(hG:∀l a w,I l a w->G l w)(a8:∀(ops':Array Oper) (Q':Exit->Act->World->Prop),qI (mX P md ops' Q' I) 0 ops.toList)(hw:qSU ops=true)(a7:∀listed a w,I listed a w->(∀j,j<ops.size->listed.getD j true=true)->Q .normal a w)(hf:qEQ ops listed<=a9)(hI:I listed a w):uU P md ops Q G a9 listed a w :=
 dF I hG (qTE (a8 ops Q)) (fun l a w h hr=>a7 l a w h (qHX hw hr)) a9 listed a w hf hI
end
theorem zO (h:l.getD j false=true):l.getD j true=true:=by
 rcases Nat.lt_or_ge j l.size with h'|h'
 ·simp[h']at h⊢;exact h
 simp[h']at h
theorem zF (h:l.getD j true=true):(l.setIfInBounds i true).getD j true=true:=by
 by_cases e:i=j
 ·subst e;exact tG
 rwa [Go.getD_set_ne true e]
theorem zG (a9:i≠j)(h:(l.setIfInBounds i true).getD j true=true):l.getD j true=true:=by rwa [Go.getD_set_ne true a9]at h
theorem zK (h:(l.setIfInBounds i true).getD j true=false):l.getD j true=false:=by
 by_cases e:i=j
 ·subst e;rw[tG]at h;cases h
 rwa [Go.getD_set_ne true e]at h
theorem hs7P (h:Hid (l.getD j true=true->p))(a9:i≠j:=by decide):Hid ((l.setIfInBounds i true).getD j true=true->p):=Kh (fun e=>h.out (zG a9 e))
theorem hs7Q (h:Hid (l.getD j true=true->l.getD k true=true/\p))(a9:i≠j:=by decide):Hid ((l.setIfInBounds i true).getD j true=true->(l.setIfInBounds i true).getD k true=true/\p) :=
 Kh (fun e=>⟨zF (h.out (zG a9 e)).1,(h.out (zG a9 e)).2⟩)
theorem hs7R {m:Nat}(h:Hid (l.getD j true=true->l.getD k true=true/\l.getD m true=true/\p))(a9:i≠j:=by decide):Hid ((l.setIfInBounds i true).getD j true=true->(l.setIfInBounds i true).getD k true=true/\(l.setIfInBounds i true).getD m true=true/\p) :=
 Kh (fun e=>⟨zF (h.out (zG a9 e)).1,zF (h.out (zG a9 e)).2.1,(h.out (zG a9 e)).2.2⟩)
theorem hs7N (h:Hid (l.getD j true=false->p)):Hid ((l.setIfInBounds i true).getD j true=false->p):=Kh (fun e=>h.out (zK e))
theorem hs7A (h:Hid (l.getD j true=true->l.getD i true=true/\p))(a9:l.getD i true=false)(a8:i≠j:=by decide):Hid ((l.setIfInBounds i true).getD j true=true->q) :=
 Kh (fun e=>absurd (h.out (zG a8 e)).1 (by rw[a9];simp))
theorem hs7B {r:Prop}(h:Hid (l.getD j true=true->p/\l.getD i true=true/\r))(a9:l.getD i true=false)(a8:i≠j:=by decide):Hid ((l.setIfInBounds i true).getD j true=true->q) :=
 Kh (fun e=>absurd (h.out (zG a8 e)).2.1 (by rw[a9];simp))
theorem hs7C (h:l.getD j true=false:=by decide +kernel):Hid (l.getD j true=true->p):=Kh (fun e=>absurd e (by rw[h];simp))
theorem yF (h:(l.setIfInBounds i true).getD i true=false):p:=by rw[tG]at h;cases h
section
variable {w0 W W':World} {F:Nat->Prop} {rs:List RowS} {ls:List (Nat×Obj)}
theorem Many.far (h:Many w0 F W rs ls [])(hg:W.grownBy W' (some r))(hF:F r)(a8:r<w0.heap.size)(a9:∀(j:Nat) (s:RowS),rs[j]?=some s->s.v.ownBlock≠some r):Many w0 F W' rs ls [] where
 own:=fun j s hs=>(h.own j s hs).kept hg (.inr (a9 j s hs))
 mine:=h.mine
 apart:=h.apart
 lit:=fun p hp=>⟨zD (h.lit p hp).1 hg (fun e=>by have e:=Oj e;have:=(h.lit p hp).2.2;omega),(h.lit p hp).2⟩
 pre:=fun p hp=>by cases hp
 but:=h.but.step hg (fun k e=>.inl (by have e:=Oj e;subst e;exact hF))
theorem Many.make (h:Many w0 F W rs ls []){e:TypeId}{cs:List Value}(hr:rs[j]?=some ⟨base,e,.slice none 0 0,0,[],sz⟩)(hb:base<=w0.heap.size)(hl:cs.length=n*sz)(hm:n<=maxLen):Many w0 F (W.alloc (.cells cs.toArray e)) (rs.set j ⟨base,e,.slice (some ⟨W.heap.size,0,none⟩) n n,n,cs,sz⟩) ls []:=by
 have hg:=Ga W (.cells cs.toArray e) none
 have:=h.append (W':=W.alloc (.cells cs.toArray e)) (j:=j) hr (v':=.slice (some ⟨W.heap.size,0,none⟩) n n) (n':=n) (us:=cs) (by
  have h9:=heap_alloc_new W (.cells cs.toArray e)
  exact⟨by simpa using hl,.inr ⟨W.heap.size,n,cs.toArray,rfl,Nat.le_trans hb h.but.size,h9,Nat.le_refl _,hm,by simp[hl],by simp[<-hl]⟩⟩) hg (.inr ⟨hg,fun k hk=>by
  have:W.heap.size=k:=by simpa [Value.ownBlock] using hk
  omega⟩)
 simpa using this
end
theorem Many.not_type {w0 W:World}{F:Nat->Prop}{rs:List RowS}{ls:List (Nat×Obj)}{ps:List (Nat×TypeId×List Value)}(h:Many w0 F W rs ls ps){c:Array Value}(hr:W.heap[r]?=some (.cells c e' m))(a9:∀s∈rs,s.e≠e'):∀(j:Nat) (s:RowS),rs[j]?=some s->s.v.ownBlock≠some r :=
 fun j s hs=>zR (h.own j s hs) hr (a9 s (List.mem_of_getElem? hs))
theorem tL {P:Program}{W:World}{Q:Exit->Act->World->Prop}[Decidable c0](a5:c0)(s x:Operand)(t:TypeId)(ho:o.op=.call { callee:=.builtin .append,args:=#[s,x],argTypes:=#[t,t] }){e:TypeId}(E:ElemOk P t e z a9)(j:Nat)(g c:Nat)(hx:a.eval x=.slice (some ⟨g,0,none⟩) 1 c){w0:World}{F:Nat->Prop}{rs:List RowS}{ls:List (Nat×Obj)}{ps:List (Nat×TypeId×List Value)}(h:Many w0 F W rs ls ps){r:RowS}(hr:rs[j]?=some r)(he:r.e=e)(a6:r.sz=1)(hs:a.eval s=r.v)(a4:r.n+1<=maxLen)(a8:(r.n+1)*a9<=140737488355328)(a7:r.base<=w0.heap.size)(hl:(g,Obj.cells #[u] e m)∈ls)(h1:u.oneCell'=true)(hK:∀sa sc w',Many w0 F w' (rs.set j ⟨r.base,r.e,.slice sa (r.n+1) sc,r.n+1,r.xs++[u],r.sz⟩) ls ps->W.grownBy w' r.v.ownBlock->K (a.put o.dst (.slice sa (r.n+1) sc)) w'):if c0 then Oper.wp P o a W K Q else R:=by
 subst he;rw[if_pos a5];have hu:W.cell? ⟨g,0,none⟩=some u:=by simpa using zJ (h.lit _ hl).1 0 yq
 obtain⟨v',w',h0,h2,h3,h4⟩:=nS (P:=P) r.base t o.type E r.v r.n r.xs (by have:=h.own j r hr;rwa [a6]at this) g c u hu h1 a4 a8 (Nat.le_trans a7 h.but.size);obtain⟨sa,sc,rfl⟩:=rX h2;unfold Oper.wp execOp;simp only[ho,resolve,invoke,builtin,Sem.run_bind,Sem.run_pure,Result.andThen_ok,List.map_toArray,List.map_cons,List.map_nil,hs,hx,h0];exact hK sa sc w' (h.append hr (by rw[a6];exact h2) h3 h4) h3
theorem rU {P:Program}{W:World}{Q:Exit->Act->World->Prop}[Decidable c0](a3:c0)(s x:Operand)(t:TypeId)(ho:o.op=.call { callee:=.builtin .append,args:=#[s,x],argTypes:=#[t,t] }){e:TypeId}(E:ElemN P t e sz z a8)(j:Nat)(sv:Value)(hx:a.eval x=sv){w0:World}{F:Nat->Prop}{rs:List RowS}{ls:List (Nat×Obj)}{ps:List (Nat×TypeId×List Value)}(h:Many w0 F W rs ls ps){r:RowS}{m:Nat}{a9:List Value}(hr:rs[j]?=some r)(he:r.e=e)(a4:r.sz=sz)(hs:a.eval s=r.v)(a5:tM W sz sv m a9)(h1:∀u∈a9,u.oneCell'=true)(hn:r.n+m=n')(a2:n'<=maxLen)(a7:n'*a8<=140737488355328)(a6:r.base<=w0.heap.size)(hK:∀sa sc w',Many w0 F w' (rs.set j ⟨r.base,r.e,.slice sa n' sc,n',r.xs++a9,r.sz⟩) ls ps->W.grownBy w' r.v.ownBlock->K (a.put o.dst (.slice sa n' sc)) w'):if c0 then Oper.wp P o a W K Q else R:=by
 subst he;subst a4;subst hn;rw[if_pos a3];obtain⟨v',w',h0,h2,h3,h4⟩:=rV (P:=P) r.base t o.type E r.v r.n r.xs (h.own j r hr) sv m a9 a5 h1 a2 a7 (Nat.le_trans a6 h.but.size)
 obtain⟨sa,sc,rfl⟩:∃sa sc,v'=.slice sa (r.n+m) sc:=by
  rcases h2.2 with ⟨e1,e2⟩|⟨g,cap,cur,e1,_⟩
  ·exact⟨none,0,by rw[e1,e2]⟩
  exact⟨_,_,e1⟩
 unfold Oper.wp execOp;simp only[ho,resolve,invoke,builtin,Sem.run_bind,Sem.run_pure,Result.andThen_ok,List.map_toArray,List.map_cons,List.map_nil,hs,hx,h0];exact hK sa sc w' (h.append hr h2 h3 h4) h3
theorem uF {a0:Act}:∀ {l:List (Nat×Value)},(∀p∈l,p.2=a0.tmps.getD p.1 undef)->yK a0 l=a0
 | [],_=>rfl
 | p::l,h=>by
  have h1:=h p List.mem_cons_self
  have hp:a0.put (some p.1) p.2=a0:=by
   rw[h1];show Act.mk (a0.tmps.setIfInBounds p.1 (a0.tmps.getD p.1 undef)) a0.defers=a0
   have:a0.tmps.setIfInBounds p.1 (a0.tmps.getD p.1 undef)=a0.tmps:=by
    apply Array.ext
    ·simp
    ·intro i h1 h2
     rw[Array.getElem_setIfInBounds]
     split
     ·rename_i e;subst e;simp[h2]
     ·rfl
   rw[this]
  show yK (a0.put (some p.1) p.2) l=a0;rw[hp];exact uF fun q hq=>h q (List.mem_cons_of_mem _ hq)
theorem Many.start {F:Nat->Prop}{rs:List RowS}(a9:∀r∈rs,w.ownsRow r.base r.e r.sz r.v r.n r.xs)(hF:∀r∈rs,∀k,r.v.ownBlock=some k->F k)(a8:rs.Pairwise (fun r s=>∀k,r.v.ownBlock=some k->s.v.ownBlock≠some k)):Many w F w rs [] [] where
 own:=fun j r hr=>a9 r (List.mem_of_getElem? hr)
 mine:=fun j r hr k hk=>.inl (hF r (List.mem_of_getElem? hr) k hk)
 apart:=fun i j r s hij hr hs k hk hk2=>by
  obtain⟨hi,hri⟩:=List.getElem?_eq_some_iff.1 hr
  obtain⟨hj,hsj⟩:=List.getElem?_eq_some_iff.1 hs
  rcases Nat.lt_or_gt_of_ne hij with h|h
  ·have:=List.pairwise_iff_getElem.1 a8 i j hi hj h k
   rw[hri,hsj]at this
   exact this hk hk2
  ·have:=List.pairwise_iff_getElem.1 a8 j i hj hi h k
   rw[hri,hsj]at this
   exact this hk2 hk
 lit:=fun p hp=>by simp at hp
 pre:=fun p hp=>by simp at hp
 but:=GrownBut.refl _ _
theorem qJR {base':Nat}{a9:List Value}(h:w.ownsRow base e sz v n xs)(h':w.ownsRow base' e' a8 v' n' a9)(a7:e≠e'):∀k,v.ownBlock=some k->v'.ownBlock≠some k:=by
 intro k hk e2;rcases h'.2 with ⟨hv,_⟩|⟨g,cap,cur,hv,_,hg,_⟩
 ·rw[hv]at e2;simp[Value.ownBlock]at e2
 rw[hv]at e2;have:g=k:=by simpa [Value.ownBlock] using e2
 subst this;exact zR h hg a7 hk
def mS:Code->Nat->Option (Array Oper)
 | .region i ops _,k=>if i=k then some ops else none
 | .seq a b,k=>match mS a k with
  | some o=>some o
  | none=>mS b k
 | .cond _ a b,k=>match mS a k with
  | some o=>some o
  | none=>mS b k
 | .block _ b,k=>mS b k
 | .loop b,k=>mS b k
 | .scope b,k=>mS b k
 | _,_=>none
def rL (f:Func)(k:Nat):Array Oper:=match f.body with
 | some b=>(mS b k).getD #[]
 | none=>#[]
theorem rZ:ElemOk Tryz.prog 37 9 (.string ⟨#[]⟩) 16:=⟨Tryz.underlying37,yk,rfl⟩
def metL (n:Nat)(l:List Nat):List Bool:=(List.range n).map fun q=>decide (q∈l)
theorem wF (n:Nat)(l:List Nat):(metL n l).length=n:=by simp[metL]
theorem lK {l:List Nat}{q:Nat}(h:q<n):(metL n l).getD q false=decide (q∈l):=by
 rw[zQ (by rw[wF];exact h)];simp[metL]
theorem jO {l:List Nat}{q:Nat}:(metL n l).set q true=metL n (l++[q]):=by
 refine List.ext_getElem (by simp[metL]) fun i h1 h2=>?_;rw[List.getElem_set];simp only[metL,List.getElem_map,List.getElem_range,List.mem_append,List.mem_singleton];by_cases e:q=i
 ·subst e;simp
 rw[if_neg e];congr 1;simp[Ne.symm e]
theorem aK (n:Nat):metL n []=List.replicate n false:=by
 refine List.ext_getElem (by simp[metL]) fun i h1 h2=>by simp[metL]
def eV (ws:List ByteArray):Prop:=∀j,j<ws.length->(ws.getD j ⟨#[]⟩).size<=j
def strV (ws:List ByteArray):List Value:=ws.map Value.string
theorem eV.snoc {x:ByteArray}(h:eV ws)(hx:x.size<=ws.length):eV (ws++[x]):=by
 intro j hj;rw[List.length_append,List.length_singleton]at hj;by_cases h1:j<ws.length
 ·have:=h j h1
  simpa [List.getD,List.getElem?_append_left h1] using this
 have:j=ws.length:=yo
 subst this;simpa [List.getD] using hx
theorem qIP (ws:List ByteArray)(x:ByteArray):strV (ws++[x])=strV ws++[.string x]:=by simp[strV]
def qUL (w:World)(l:List Nat)(e:Ending)(w':World):Prop :=
 ∃(sa:Option Addr) (sc:Nat) (v:Value),e=.returned (.tuple #[.slice sa l.length sc,v])/\w'.ownsRow w.heap.size 3 1 (.slice sa l.length sc) l.length (nats l)/\w.grownBy w' none
inductive acc13I (P sa sb sc sd s a1 i0:Nat)(m:List Nat)(ws:List ByteArray)(u X:ByteArray)(F:Nat->Prop)(w5:World)(a0:Act)(l:Array Bool)(a:Act)(w:World):Prop
 | mk (x55:Value) (x56:Value) (x65:Value) (x66:Value) (x67:Value) (x68:Value) (x69:Value) (x4:Value) (x5:Value) (vA:Value) (nA:Nat) (xA:List Value) (vB:Value) (nB:Nat) (xB:List Value) (ls:List (Nat×Obj)) (ha:a=yK a0 [(55,x55),(56,x56),(65,x65),(66,x66),(67,x67),(68,x68),(69,x69),(4,x4),(5,x5)]) (HR:∀j∈[0,1,4,5,6,7,8,9,10,11],l.getD j true=true) (H2:Hid (l.getD 2 true=true->∃g,x55=.slice (some ⟨g,0,none⟩) 1 1/\(g,Obj.cells #[Value.int .i64 (s:Int)] 3 (0,0))∈ls)) (H3n:Hid (l.getD 3 true=false->vA=.slice (some ⟨sa,0,none⟩) m.length sc/\m.length=nA/\xA=nats m)) (H3:Hid (l.getD 3 true=true->∃ra rc,vA=.slice ra (m.length+1) rc/\x56=.slice ra (m.length+1) rc/\nA=m.length+1/\xA=nats m++[Value.int .i64 (s:Int)])) (H12:Hid (l.getD 12 true=true->∃g,x65=.slice (some ⟨g,0,none⟩) 1 1/\(g,Obj.cells #[Value.int .u8 (97+(a1:Int))] 5 (0,0))∈ls)) (H13:Hid (l.getD 13 true=true->x66=.string X)) (H14:Hid (l.getD 14 true=true->x67=.string (u++X))) (H15:Hid (l.getD 15 true=true->∃g,x68=.slice (some ⟨g,0,none⟩) 1 1/\(g,Obj.cells #[Value.string (u++X)] 9 (0,0))∈ls)) (H16n:Hid (l.getD 16 true=false->vB=.slice (some ⟨sb,0,none⟩) m.length sd/\m.length=nB/\xB=strV ws)) (H16:Hid (l.getD 16 true=true->l.getD 3 true=true/\∃ra rc,vB=.slice ra (m.length+1) rc/\x69=.slice ra (m.length+1) rc/\nB=m.length+1/\xB=strV ws++[Value.string (u++X)])) (H17:Hid (l.getD 17 true=true->l.getD 3 true=true/\x4=x56)) (H18:Hid (l.getD 18 true=true->l.getD 16 true=true/\x5=x69)) (HM:(Many w5 F w [⟨P,3,vA,nA,xA,1⟩,⟨P,9,vB,nB,xB,1⟩] ls [(sb,9,strV ws)]))
theorem qRX {P:Nat}{m:List Nat}{u X:ByteArray}{F:Nat->Prop}(a9:∀W rs ls,Many w5 F W rs ls [(sb,9,strV ws)]->W.cell? ⟨sb,i0,none⟩=some (.string u))(h:acc13I P sa sb sc sd s a1 i0 m ws u X F w5 a0 l a w):xM 99 (fun W=>W.cell? ⟨sb,i0,none⟩=some (.string u)) (fun W=>W.cell? ⟨sb,i0,none⟩=some (.string u)) l w:=by
 obtain⟨x55,x56,x65,x66,x67,x68,x69,x4,x5,vA,nA,xA,vB,nB,xB,ls,ha,HR,H2,h1,H3,h8,h7,h6,h5,h0,h4,h3,h2,HM⟩:=h;exact⟨a9 w _ _ HM,fun _=>a9 w _ _ HM⟩
theorem pW {P:Nat}{m:List Nat}{u X:ByteArray}{F:Nat->Prop}(h:acc13I P sa sb sc sd s a1 i0 m ws u X F w5 a0 l a w):∀j∈[0,1,4,5,6,7,8,9,10,11],l.getD j true=true:=by
 obtain⟨x55,x56,x65,x66,x67,x68,x69,x4,x5,vA,nA,xA,vB,nB,xB,ls,ha,HR,H2,h1,H3,h8,h7,h6,h5,h0,h4,h3,h2,HM⟩:=h;exact HR
theorem qEJ {P:Nat}{m:List Nat}{u X:ByteArray}{F:Nat->Prop}{v0 v1 v2 v3 v4 v5 v6 v7 v8 v9 f3 f4 f5 f6 f7 f8 f9 e0 e1 e2 e3 e4 e5 e6 e7 e8 e9 d0 d1 d2 d3 d4 d5 d6 d7 d8 d9 c0 c1 c2 c3 c4 c5 c6 c7 c8 c9 b0 b1 b2 b3 b4 b5 b6 b7 b8 b9 a2 a3 a4 a5 a6:Value}{dd:_}(a9:a0=⟨#[v0,v1,v2,v3,v4,v5,v6,v7,v8,v9,f3,f4,f5,f6,f7,f8,f9,e0,e1,e2,e3,e4,e5,e6,e7,e8,e9,d0,d1,d2,d3,d4,d5,d6,d7,d8,d9,c0,c1,c2,c3,c4,c5,c6,c7,c8,c9,b0,b1,b2,b3,b4,b5,.slice (some ⟨sa,0,none⟩) m.length sc,.int .i64 (s:Int),b6,b7,.slice (some ⟨sb,0,none⟩) m.length sd,.slice (some ⟨sb,0,none⟩) m.length sd,.int .i64 (i0:Int),.pointer (some ⟨sb,i0,none⟩),.string u,.int .i64 (a1:Int),.int .i64 (97+(a1:Int)),.int .u8 (97+(a1:Int)),b8,b9,a2,a3,a4,a5,a6],dd⟩)(f1:m.length<=4194304)(a8:P<=w5.heap.size)(f2:∀(W:World) (g:Nat),W.cell? ⟨g,0,none⟩=some (.int .u8 (97+(a1:Int)))->(convert 67 9 (.slice (some ⟨g,0,none⟩) 1 1)).run Tryz.prog W=.ok (.string X) W)(f0:∀W:World,(Op.stringOp .add u X).run Tryz.prog W=.ok (.string (u++X)) W)(a7:Array Oper)(Q7:Exit->Act->World->Prop):qI (mX Tryz.prog .any a7 Q7 (acc13I P sa sb sc sd s a1 i0 m ws u X F w5 a0)) 0 (rL Tryz.f60 13).toList:=by
 refine⟨?s0,?s1,?s2,?s3,?s4,?s5,?s6,?s7,?s8,?s9,?s10,?s11,?s12,?s13,?s14,?s15,?s16,?s17,?s18,trivial⟩
 case s0 =>
  exact fun l a w h h3=>absurd (pW h 0 yq) (by rw[h3];simp)
 case s1 =>
  exact fun l a w h h3=>absurd (pW h 1 yq) (by rw[h3];simp)
 case s2 =>
  intro l a w h h3 h0 K hK;obtain⟨x55,x56,x65,x66,x67,x68,x69,x4,x5,vA,nA,xA,vB,nB,xB,ls,ha,HR,H2,h5,H3,H4,H1,H0,h9,h4,h8,h7,h6,HM⟩:=h;subst ha;rw[a9];simp only[yK,List.foldl_cons,List.foldl_nil,Act.put,sPa,sPb,sPc];go_simp;refine hK.out _ _ ?_;refine⟨(.slice (some ⟨w.heap.size,0,none⟩) 1 1),x56,x65,x66,x67,x68,x69,x4,x5,vA,nA,xA,vB,nB,xB,((w.heap.size,Obj.cells #[Value.int .i64 (s:Int)] 3 (0,0))::ls),?fa2,fun j hj=>zF (HR j hj),Kh (fun _=>⟨w.heap.size,rfl,List.Mem.head _⟩),(hs7N h5),(hs7P H3),Kh (fun h=>let ⟨g,h1,h2⟩:=H4.out (zG jd h);⟨g,h1,List.Mem.tail _ h2⟩),(hs7P H1),(hs7P H0),Kh (fun h=>let ⟨g,h1,h2⟩:=h9.out (zG jd h);⟨g,h1,List.Mem.tail _ h2⟩),(hs7N h4),(hs7Q h8),(hs7Q h7),(hs7Q h6),HM.alloc (.cells #[Value.int .i64 (s:Int)] 3)⟩
  case fa2=>rw[a9];simp only[yK,List.foldl_cons,List.foldl_nil,Act.put,sPa,sPb,sPc]
 case s3 =>
  intro l a w h h3 h0 K hK;obtain⟨x55,x56,x65,x66,x67,x68,x69,x4,x5,vA,nA,xA,vB,nB,xB,ls,ha,HR,H2,h5,H3,H4,H1,H0,h9,h4,h8,h7,h6,HM⟩:=h;have DH2:=H2.out (zO (h0 ⟨2,.data⟩ yq rfl));obtain⟨g5,rfl,H5⟩:=DH2;obtain⟨rfl,rfl,rfl⟩:=h5.out h3;subst ha;rw[a9];simp only[yK,List.foldl_cons,List.foldl_nil,Act.put,sPa,sPb,sPc];refine tL (by simp[Region.wanted]) (.tmp 53) (.tmp 55) 22 rfl yJ 0 g5 1 rfl HM rfl rfl rfl rfl ?g13 ?g23 ?g33 H5 rfl ?_
  case g13=>show m.length+1<=maxLen;unfold maxLen;omega
  case g23=>show (m.length+1)*8<=140737488355328;omega
  case g33=>exact a8
  intro sa2 sc2 w6 H7 H8;refine hK.out _ _ ?_;refine⟨(.slice (some ⟨g5,0,none⟩) 1 1),(.slice sa2 (m.length+1) sc2),x65,x66,x67,x68,x69,x4,x5,(.slice sa2 (m.length+1) sc2),(m.length+1),(nats m++[Value.int .i64 (s:Int)]),vB,nB,xB,ls,?fa3,fun j hj=>zF (HR j hj),Kh (fun _=>⟨g5,rfl,H5⟩),Kh (fun h=>yF h),Kh (fun _=>⟨sa2,sc2,rfl,rfl,rfl,rfl⟩),(hs7P H4),(hs7P H1),(hs7P H0),(hs7P h9),(hs7N h4),(hs7A h8 h3),(hs7A h7 h3),(hs7Q h6),H7⟩
  case fa3=>rw[a9];simp only[yK,List.foldl_cons,List.foldl_nil,Act.put,sPa,sPb,sPc]
 case s4 =>
  exact fun l a w h h3=>absurd (pW h 4 yq) (by rw[h3];simp)
 case s5 =>
  exact fun l a w h h3=>absurd (pW h 5 yq) (by rw[h3];simp)
 case s6 =>
  exact fun l a w h h3=>absurd (pW h 6 yq) (by rw[h3];simp)
 case s7 =>
  exact fun l a w h h3=>absurd (pW h 7 yq) (by rw[h3];simp)
 case s8 =>
  exact fun l a w h h3=>absurd (pW h 8 yq) (by rw[h3];simp)
 case s9 =>
  exact fun l a w h h3=>absurd (pW h 9 yq) (by rw[h3];simp)
 case s10 =>
  exact fun l a w h h3=>absurd (pW h 10 yq) (by rw[h3];simp)
 case s11 =>
  exact fun l a w h h3=>absurd (pW h 11 yq) (by rw[h3];simp)
 case s12 =>
  intro l a w h h3 h0 K hK;obtain⟨x55,x56,x65,x66,x67,x68,x69,x4,x5,vA,nA,xA,vB,nB,xB,ls,ha,HR,H2,h5,H3,H4,H1,H0,h9,h4,h8,h7,h6,HM⟩:=h;subst ha;rw[a9];simp only[yK,List.foldl_cons,List.foldl_nil,Act.put,sPa,sPb,sPc];go_simp;refine hK.out _ _ ?_;refine⟨x55,x56,(.slice (some ⟨w.heap.size,0,none⟩) 1 1),x66,x67,x68,x69,x4,x5,vA,nA,xA,vB,nB,xB,((w.heap.size,Obj.cells #[Value.int .u8 (97+(a1:Int))] 5 (0,0))::ls),?fa12,fun j hj=>zF (HR j hj),Kh (fun h=>let ⟨g,h1,h2⟩:=H2.out (zG jd h);⟨g,h1,List.Mem.tail _ h2⟩),(hs7N h5),(hs7P H3),Kh (fun _=>⟨w.heap.size,rfl,List.Mem.head _⟩),(hs7P H1),(hs7P H0),Kh (fun h=>let ⟨g,h1,h2⟩:=h9.out (zG jd h);⟨g,h1,List.Mem.tail _ h2⟩),(hs7N h4),(hs7Q h8),(hs7Q h7),(hs7Q h6),HM.alloc (.cells #[Value.int .u8 (97+(a1:Int))] 5)⟩
  case fa12=>rw[a9];simp only[yK,List.foldl_cons,List.foldl_nil,Act.put,sPa,sPb,sPc]
 case s13 =>
  intro l a w h h3 h0 K hK;obtain⟨x55,x56,x65,x66,x67,x68,x69,x4,x5,vA,nA,xA,vB,nB,xB,ls,ha,HR,H2,h5,H3,H4,H1,H0,h9,h4,h8,h7,h6,HM⟩:=h;have DH12:=H4.out (zO (h0 ⟨12,.data⟩ yq rfl));obtain⟨g5,rfl,H5⟩:=DH12;subst ha;rw[a9];simp only[yK,List.foldl_cons,List.foldl_nil,Act.put,sPa,sPb,sPc];have hq:=f2 w g5 (HM.litcell H5);go_simp;refine hK.out _ _ ?_;refine⟨x55,x56,(.slice (some ⟨g5,0,none⟩) 1 1),(.string X),x67,x68,x69,x4,x5,vA,nA,xA,vB,nB,xB,ls,?fa13,fun j hj=>zF (HR j hj),(hs7P H2),(hs7N h5),(hs7P H3),Kh (fun _=>⟨g5,rfl,H5⟩),Kh (fun _=>rfl),(hs7P H0),(hs7P h9),(hs7N h4),(hs7Q h8),(hs7Q h7),(hs7Q h6),HM⟩
  case fa13=>rw[a9];simp only[yK,List.foldl_cons,List.foldl_nil,Act.put,sPa,sPb,sPc]
 case s14 =>
  intro l a w h h3 h0 K hK;obtain⟨x55,x56,x65,x66,x67,x68,x69,x4,x5,vA,nA,xA,vB,nB,xB,ls,ha,HR,H2,h5,H3,H4,H1,H0,h9,h4,h8,h7,h6,HM⟩:=h;have DH13:=H1.out (zO (h0 ⟨13,.data⟩ yq rfl));subst DH13;subst ha;rw[a9];simp only[yK,List.foldl_cons,List.foldl_nil,Act.put,sPa,sPb,sPc];go_simp;refine hK.out _ _ ?_;refine⟨x55,x56,x65,(.string X),(.string (u++X)),x68,x69,x4,x5,vA,nA,xA,vB,nB,xB,ls,?fa14,fun j hj=>zF (HR j hj),(hs7P H2),(hs7N h5),(hs7P H3),(hs7P H4),Kh (fun _=>rfl),Kh (fun _=>rfl),(hs7P h9),(hs7N h4),(hs7Q h8),(hs7Q h7),(hs7Q h6),HM⟩
  case fa14=>rw[a9];simp only[yK,List.foldl_cons,List.foldl_nil,Act.put,sPa,sPb,sPc]
 case s15 =>
  intro l a w h h3 h0 K hK;obtain⟨x55,x56,x65,x66,x67,x68,x69,x4,x5,vA,nA,xA,vB,nB,xB,ls,ha,HR,H2,h5,H3,H4,H1,H0,h9,h4,h8,h7,h6,HM⟩:=h;have DH14:=H0.out (zO (h0 ⟨14,.data⟩ yq rfl));subst DH14;subst ha;rw[a9];simp only[yK,List.foldl_cons,List.foldl_nil,Act.put,sPa,sPb,sPc];go_simp;refine hK.out _ _ ?_;refine⟨x55,x56,x65,x66,(.string (u++X)),(.slice (some ⟨w.heap.size,0,none⟩) 1 1),x69,x4,x5,vA,nA,xA,vB,nB,xB,((w.heap.size,Obj.cells #[Value.string (u++X)] 9 (0,0))::ls),?fa15,fun j hj=>zF (HR j hj),Kh (fun h=>let ⟨g,h1,h2⟩:=H2.out (zG jd h);⟨g,h1,List.Mem.tail _ h2⟩),(hs7N h5),(hs7P H3),Kh (fun h=>let ⟨g,h1,h2⟩:=H4.out (zG jd h);⟨g,h1,List.Mem.tail _ h2⟩),(hs7P H1),Kh (fun _=>rfl),Kh (fun _=>⟨w.heap.size,rfl,List.Mem.head _⟩),(hs7N h4),(hs7Q h8),(hs7Q h7),(hs7Q h6),HM.alloc (.cells #[Value.string (u++X)] 9)⟩
  case fa15=>rw[a9];simp only[yK,List.foldl_cons,List.foldl_nil,Act.put,sPa,sPb,sPc]
 case s16 =>
  intro l a w h h3 h0 K hK;obtain⟨x55,x56,x65,x66,x67,x68,x69,x4,x5,vA,nA,xA,vB,nB,xB,ls,ha,HR,H2,h5,H3,H4,H1,H0,h9,h4,h8,h7,h6,HM⟩:=h;have DH15:=h9.out (zO (h0 ⟨15,.data⟩ yq rfl));obtain⟨g5,rfl,H5⟩:=DH15;obtain⟨rfl,rfl,rfl⟩:=h4.out h3;have g0:=zO (h0 ⟨3,.chain⟩ yq rfl);subst ha;rw[a9];simp only[yK,List.foldl_cons,List.foldl_nil,Act.put,sPa,sPb,sPc];refine tL (by simp[Region.wanted]) (.tmp 57) (.tmp 68) 37 rfl rZ 1 g5 1 rfl HM rfl rfl rfl rfl ?g116 ?g216 ?g316 H5 rfl ?_
  case g116=>show m.length+1<=maxLen;unfold maxLen;omega
  case g216=>show (m.length+1)*16<=140737488355328;omega
  case g316=>exact a8
  intro sa2 sc2 w6 H7 H8;refine hK.out _ _ ?_;refine⟨x55,x56,x65,x66,x67,(.slice (some ⟨g5,0,none⟩) 1 1),(.slice sa2 (m.length+1) sc2),x4,x5,vA,nA,xA,(.slice sa2 (m.length+1) sc2),(m.length+1),(strV ws++[Value.string (u++X)]),ls,?fa16,fun j hj=>zF (HR j hj),(hs7P H2),(hs7N h5),(hs7P H3),(hs7P H4),(hs7P H1),(hs7P H0),Kh (fun _=>⟨g5,rfl,H5⟩),Kh (fun h=>yF h),Kh (fun _=>⟨zF g0,sa2,sc2,rfl,rfl,rfl,rfl⟩),(hs7Q h7),(hs7A h6 h3),H7⟩
  case fa16=>rw[a9];simp only[yK,List.foldl_cons,List.foldl_nil,Act.put,sPa,sPb,sPc]
 case s17 =>
  intro l a w h h3 h0 K hK;obtain⟨x55,x56,x65,x66,x67,x68,x69,x4,x5,vA,nA,xA,vB,nB,xB,ls,ha,HR,H2,h5,H3,H4,H1,H0,h9,h4,h8,h7,h6,HM⟩:=h;have DH3:=H3.out (zO (h0 ⟨3,.data⟩ yq rfl));obtain⟨ra,rc,rfl,rfl,rfl,rfl⟩:=DH3;have H6:=zO (h0 ⟨3,.data⟩ yq rfl);subst ha;rw[a9];simp only[yK,List.foldl_cons,List.foldl_nil,Act.put,sPa,sPb,sPc];go_simp;refine hK.out _ _ ?_;refine⟨x55,(.slice ra (m.length+1) rc),x65,x66,x67,x68,x69,(.slice ra (m.length+1) rc),x5,(.slice ra (m.length+1) rc),(m.length+1),(nats m++[Value.int .i64 (s:Int)]),vB,nB,xB,ls,?fa17,fun j hj=>zF (HR j hj),(hs7P H2),Kh (fun h=>absurd (zF H6) (by rw[h];simp)),Kh (fun _=>⟨ra,rc,rfl,rfl,rfl,rfl⟩),(hs7P H4),(hs7P H1),(hs7P H0),(hs7P h9),(hs7N h4),(hs7Q h8),Kh (fun _=>⟨zF H6,rfl⟩),(hs7Q h6),HM⟩
  case fa17=>rw[a9];simp only[yK,List.foldl_cons,List.foldl_nil,Act.put,sPa,sPb,sPc]
 intro l a w h h3 h0 K hK;obtain⟨x55,x56,x65,x66,x67,x68,x69,x4,x5,vA,nA,xA,vB,nB,xB,ls,ha,HR,H2,h5,H3,H4,H1,H0,h9,h4,h8,h7,h6,HM⟩:=h;have DH16:=h8.out (zO (h0 ⟨16,.data⟩ yq rfl));obtain⟨H9,ra,rc,rfl,rfl,rfl,rfl⟩:=DH16;have H6:=zO (h0 ⟨16,.data⟩ yq rfl);subst ha;rw[a9];simp only[yK,List.foldl_cons,List.foldl_nil,Act.put,sPa,sPb,sPc];go_simp;refine hK.out _ _ ?_;refine⟨x55,x56,x65,x66,x67,x68,(.slice ra (m.length+1) rc),x4,(.slice ra (m.length+1) rc),vA,nA,xA,(.slice ra (m.length+1) rc),(m.length+1),(strV ws++[Value.string (u++X)]),ls,?fa18,fun j hj=>zF (HR j hj),(hs7P H2),(hs7N h5),(hs7P H3),(hs7P H4),(hs7P H1),(hs7P H0),(hs7P h9),Kh (fun h=>absurd (zF H6) (by rw[h];simp)),Kh (fun _=>⟨zF H9,ra,rc,rfl,rfl,rfl,rfl⟩),(hs7Q h7),Kh (fun _=>⟨zF H6,rfl⟩),HM⟩
 case fa18=>rw[a9];simp only[yK,List.foldl_cons,List.foldl_nil,Act.put,sPa,sPb,sPc]
theorem qHY (B:Nat)(w:World)(v:Value)(d:DfaV)(n k:Nat)(hB:B<=w.heap.size)(h:rP B w v d)(hd:VD d n k):Calls Tryz.prog 60 #[v] w (qUL w (yN d k)):=by
 obtain⟨fb,fo,fc,b,off,cap,RB,RO,RC,rfl,b6⟩:=h.at hd;have hn:=hd.hn;have n3:=hd.n1;have g2:=hd.nbig;have n7:=hd.k6;have n8:=hd.k1;have o3:=b6.fcap.1;have c9:=b6.fcap.2;have o4:=b6.cap.1;have d4:=b6.cap.2;have k4:fc<=9223372036854775807:=jl c9
 have k3:cap<=9223372036854775807:=jl d4
 obtain⟨S,hS⟩:=Nm (st0 d);have i0:S<n:=by rw[hS];exact jB hd
 have i3:=Kh hS;rw[<-hS];obtain⟨wA,d5⟩:=Nm (w.alloc (.cells #[.int .i64 (k:Int),.int .i64 (S:Int),.slice (some ⟨fb,fo,none⟩) n fc,.slice (some ⟨b,off,none⟩) n cap] 29));have a1:wA.heap[w.heap.size]?=some (.cells #[.int .i64 (k:Int),.int .i64 (S:Int),.slice (some ⟨fb,fo,none⟩) n fc,.slice (some ⟨b,off,none⟩) n cap] 29 (0,0)):=by rw[d5];exact heap_alloc_new w _
 have e8:w.grownBy wA none:=by rw[d5];exact Ga w _ none
 have b5:wA.heap.size=w.heap.size+1:=by rw[d5,zW]
 obtain⟨c0,c1,c2,c3⟩:=zM a1;obtain⟨P,hP⟩:=Nm w.heap.size;have i4:=Kh hP;rw[<-hP]at a1 c0 c1 c2 c3 b5 hB;obtain⟨e5,l7,l3⟩:=Kc a1 e8 d5;have m0:=Kh (b6.kept e8 yq);have HN:=Kh hn;have HD:=Kh hd;unfold dAgg;clear a1 e8 d5 b6 hn hd h c9 d4 hS;go_enter Tryz.func60,Tryz.ntmps60;go_upto_region 1 with fail;rw[<-l3.out,<-i4.out];clear hP;obtain⟨wB,b7⟩:=Nm ((wA.alloc (.cells #[.int .i64 (S:Int)] 3)).alloc (.cells #[.string ⟨#[]⟩] 9))
 have a7:wB.ownsRow (P+1) 3 1 (.slice (some ⟨P+1,0,none⟩) 1 1) 1 (nats [S]):=by
  rw[b7];have:=xO (World.ownsRow_lit wA #[.int .i64 (S:Int)] 1 (e:=3) (size:=1) (Nat.le_refl _) jm yq) (Nat.le_of_eq b5.symm);rw[b5]at this;exact this.alloc _
 have a6:wB.ownsRow (P+1) 9 1 (.slice (some ⟨P+1+1,0,none⟩) 1 1) 1 (strV [⟨#[]⟩]):=by
  rw[b7];have:=xO (World.ownsRow_lit (wA.alloc (.cells #[.int .i64 (S:Int)] 3)) #[.string ⟨#[]⟩] 1 (e:=9) (size:=1) (Nat.le_refl _) jm yq) (base':=P+1) (by rw[zW,b5];omega);rw[zW,b5]at this;exact this
 have g3:wA.grownBy wB none:=by rw[b7];exact kN (Ga wA _ none) _
 obtain⟨l2,i6,i5,f8⟩:=Kd b7 a7 a6 g3;have j5:wB.heap.size=P+1+1+1:=by rw[b7,zW,zW,b5]
 clear b7 a7 a6 g3;go_upto_region 2 with fail;rw[<-l2.out];obtain⟨d0,d1,d2,d3⟩:=zM (zD e5.out f8.out);go_upto_region 3 with (first|(at_make;refine pL rfl _ _ _ rfl xK rfl .i64 .i64 _ _ n rfl rfl rfl rfl ?b1 ?b2 ?_;(case b1=>omega);(case b2=>(unfold maxLen;omega));intro w2 h0 e2 e7)|fail);clear d0 d1 d2 d3;obtain⟨d0,d1,d2,d3⟩:=zM (zD e5.out (zI f8.out e2));obtain⟨G,hG⟩:=Nm (P+1+1+1);have i1:wB.heap.size=G:=yo
 rw[i1]at h0;rw[<-hG];have o8:P+2<G:=yo
 clear hG j5 e7;rw[<-qQ,<-aK]at h0;have fS:=h0.frozen S;have cS:=h0.bool S (by rw[wF];exact i0);have e9:=h0.bool_set S (by rw[wF];exact i0) true;rw[jO,List.nil_append]at e9;have e1:wB.grownBy (w2.setCell ⟨G,S,none⟩ (.bool true)) none:=zE e2 (zH w2 ⟨G,S,none⟩ _) (fun q e=>by have h7:G=q:=Oj e;have:=e2.size;omega);have k2:G≠P+1:=yo
 have k0:G≠P+1+1:=yo
 have d6:AccI d n k 0 [S]:=by have:=AccI.start HD.out;rw[<-i3.out]at this;exact this
 have c7:qL d k (n-0) 0 [S]=yN d k:=by rw[yN,HN.out,<-i3.out];rfl
 obtain⟨h6,d8,j1⟩:=Kc d6 c7 e9;have i9:=Kh (zI f8.out e1);have i7:=Kh (yY i6.out e1 yq);have i2:=Kh (yY i5.out e1 yq);have H1:Hid (eV [⟨#[]⟩]):=Kh (fun j hj=>by simp at hj;subst hj;simp[List.getD];rfl);clear h0 e2 e9 e1 d6 c7 i1;have k9:(S:Int)<n:=yo
 go_wp2;clear d0 d1 d2 d3 fS cS c0 c1 c2 c3
 go_loopg [4,5,7] n (fun gh v4 v5 i wr=>∃(i':Nat) (l:List Nat) (ws:List ByteArray) (sa sb:Nat) (sc sd:Nat),gh+i'=n/\i=.int .i64 i'/\v4=.slice (some ⟨sa,0,none⟩) l.length sc/\v5=.slice (some ⟨sb,0,none⟩) l.length sd /\
  wr.ownsRow (P+1) 3 1 (.slice (some ⟨sa,0,none⟩) l.length sc) l.length (nats l)/\wr.ownsRow (P+1) 9 1 (.slice (some ⟨sb,0,none⟩) l.length sd) l.length (strV ws)/\Arr wr G 4 (bls (metL n l))/\AccI d n k i' l/\qL d k (n-i') i' l=yN d k/\i'<=l.length/\eV ws/\wA.grownBy wr none)
 case atStart=>exact⟨0,[S],[⟨#[]⟩],P+1,P+1+1,1,1,rfl,rfl,rfl,rfl,i7.out,i2.out,j1.out,h6.out,d8.out,yq,H1.out,i9.out⟩
 clear i7 i2 j1 h6 d8 H1 i9 i6 i5;obtain⟨i',l,ws,sa,sb,sc,sd,hg,rfl,rfl,rfl,h2,h3,h0,a4,c7,o0,H9,H6⟩:=hrel;have n6:=qN a4.nd a4.lt;obtain⟨HG,HO,HW,HA,h6,d8⟩:=Kf hg h2 h3 h0 a4 c7;have H1:=Kh H9;have H8:=Kh H6;clear hg h2 h3 h0 a4 c7 H9 H6;by_cases hi:i'<l.length
 ·have o1:(i':Int)<l.length:=yo
  have n9:i'<n:=yo;have a9:l.getD i' 0<n:=h6.out.lt _ (by rw[zQ hi];exact List.getElem_mem _);obtain⟨q0,a8⟩:=Nm (l.getD i' 0);rw[<-a8]at a9;have f1:=Kh a8;clear a8;go_wp2
  go_loopg [4,5,8] k (fun gh v4 v5 i wr=>∃(a:Nat) (m:List Nat) (ws:List ByteArray) (sa sb:Nat) (sc sd:Nat),gh+a=k/\i=.int .i64 a/\m=uJ d l i' a/\v4=.slice (some ⟨sa,0,none⟩) m.length sc/\v5=.slice (some ⟨sb,0,none⟩) m.length sd /\
   wr.ownsRow (P+1) 3 1 (.slice (some ⟨sa,0,none⟩) m.length sc) m.length (nats m)/\wr.ownsRow (P+1) 9 1 (.slice (some ⟨sb,0,none⟩) m.length sd) m.length (strV ws)/\Arr wr G 4 (bls (metL n m))/\eV ws/\wA.grownBy wr none)
  case atStart=>exact⟨0,l,ws,sa,sb,sc,sd,rfl,rfl,rfl,rfl,rfl,HO.out,HW.out,HA.out,H1.out,H8.out⟩
  clear HO HW HA H1 H8;obtain⟨a,m,ws,sa,sb,sc,sd,hg,rfl,hm,rfl,rfl,h2,h3,h0,H9,H6⟩:=hrel;have b4:=Kh hg;have HM:=Kh hm;have H0:=sC d l i' a;rw[<-hm]at H0;have n5:=H0.length_le;clear hg hm;by_cases ha:a<k
  ·have o6:(a:Int)<k:=yo
   have b0:m.Nodup:=by rw[HM.out];exact mW h6.out.nd i' a
   have b3:∀q∈m,q<n:=by
    intro q hq;rw[HM.out]at hq;rcases rE.1 hq with hq|⟨b,hb,rfl⟩
    ·exact h6.out.lt q hq
    rw[<-f1.out];exact mF HD.out a9 yo
   have n4:=qN b0 b3;have H7:=m0.out.kept H6 yq;obtain⟨d0,d1,d2,d3⟩:=zM (zD e5.out H6);have cq:=(Arr.of_owns h2).nat i' yo;rw[pG H0 hi,<-f1.out]at cq;have ch:=H7.hd q0 a9;have ce:=H7.el q0 a a9 ha;have n2:=(H7.rcap q0 a9).1;have b9:=(H7.rcap q0 a9).2;have hs:=mF HD.out a9 ha;obtain⟨s,e6⟩:=Nm (nx d q0 a);rw[<-e6]at ce hs;have n0:(s:Int)<n:=yo;have j9:(q0:Int)<n:=yo;have j7:RC q0<=9223372036854775807:=jl b9
   have cm:=h0.bool s (by rw[wF];exact hs);rw[lK hs]at cm;have d7:Hid (uJ d l i' (a+1)=wU m s):=Kh (by rw[uJ,<-f1.out,<-e6,<-HM.out]);clear e6 b9 H7;by_cases hin2:s∈m
   ·rw[decide_eq_true hin2]at cm
    have f4:Hid (m=uJ d l i' (a+1)):=Kh (by rw[d7.out,tZ hin2]);obtain⟨HO,HW,HA,H1,H8⟩:=Ke h2 h3 h0 H9 H6;clear hin2 h2 h3 h0 H9 H6 b0 b3 H0;go_wp2
    go_quiet (fail)
    go_wp2;go_roundg (k-(a+1))
    case measure=>have:=b4.out;omega
    have o2:=zT wr 1 none;exact⟨a+1,m,ws,sa,sb,sc,sd,yo,by go_num,f4.out,rfl,rfl,yY HO.out (zT wr _ none) yq,yY HW.out (zT wr _ none) yq,HA.out.kept (zT wr _ none) yq,H1.out,zI H8.out (zT wr _ _)⟩
   rw[decide_eq_false hin2]at cm;have f4:Hid (m++[s]=uJ d l i' (a+1)):=Kh (by rw[d7.out,uK hin2]);obtain⟨o9,H1,H8⟩:=Kc hin2 H9 H6;have fm:wr.frozen? ⟨G,s,none⟩=false:=h0.frozen s;obtain⟨H5,H4,h8⟩:=Kc h2 h3 h0;clear hin2 h2 h3 h0 H9 H6 b0 b3 H0;go_upto_region 10 with fail
   go_quiet (fail)
   go_upto_region 13 with fail;obtain⟨w5,e0⟩:=Nm (((wr.drewN nq).setCell ⟨G,s,none⟩ (.bool true)).drew);have l5:=Kh e0;have c8:wr.grownBy w5 (some G):=by rw[e0];exact uG (zH wr ⟨G,s,none⟩ (.bool true)) rfl rfl rfl rfl
   have e3:Arr w5 G 4 (bls (metL n (m++[s]))):=by
    have h1:=h8.out.bool_set s (by rw[wF];exact hs) true;rw[jO]at h1;rw[e0];exact h1.of_heap rfl
   have c4:w5.ownsRow (P+1) 3 1 (.slice (some ⟨sa,0,none⟩) m.length sc) m.length (nats m):=H5.out.kept c8 (.inr (by obtain⟨cur,rest,hq,_⟩:=h8.out;exact zR H5.out hq jd));have h9:w5.ownsRow (P+1) 9 1 (.slice (some ⟨sb,0,none⟩) m.length sd) m.length (strV ws):=H4.out.kept c8 (.inr (by obtain⟨cur,rest,hq,_⟩:=h8.out;exact zR H4.out hq jd))
   have c5:∀q,(Value.slice (some ⟨sa,0,none⟩) m.length sc).ownBlock=some q->(Value.slice (some ⟨sb,0,none⟩) m.length sd).ownBlock≠some q:=by
    intro q hq e;have:q=sb:=by simpa [Value.ownBlock] using e.symm
    subst this;obtain⟨cur,rest,j8,_⟩:=Arr.of_owns h9;exact zR c4 j8 jd hq
   have g1:ws.length=m.length:=by have:=h9.1;simpa [strV] using this
   obtain⟨u,hu⟩:=Nm (ws.getD i' ⟨#[]⟩);have m9:u.size<=i':=by rw[hu];exact H1.out i' yo
   obtain⟨F,hF⟩:∃F:Nat->Prop,F=fun q=>(Value.slice (some ⟨sa,0,none⟩) m.length sc).ownBlock=some q\/(Value.slice (some ⟨sb,0,none⟩) m.length sd).ownBlock=some q:=⟨_,rfl⟩;have j0:=Kh hF
   have hM:Many w5 F w5 [⟨P+1,3,.slice (some ⟨sa,0,none⟩) m.length sc,m.length,nats m,1⟩,⟨P+1,9,.slice (some ⟨sb,0,none⟩) m.length sd,m.length,strV ws,1⟩] [] [(sb,9,strV ws)]:=by
    rw[hF];exact((Many.two (r:=⟨P+1,3,.slice (some ⟨sa,0,none⟩) m.length sc,m.length,nats m,1⟩) (s:=⟨P+1,9,.slice (some ⟨sb,0,none⟩) m.length sd,m.length,strV ws,1⟩) c4 h9 c5).see (j:=1) rfl rfl rfl)
   have a5:Hid (∀W rs ls,Many w5 F W rs ls [(sb,9,strV ws)]->W.cell? ⟨sb,i',none⟩=some (.string u)):=Kh (fun W rs ls h=>by
    have:=h.precell (List.Mem.head _) i' (by simp[strV];omega);rw[this,hu,zQ yo]
    simp[strV])
   have j6:P+1<=w5.heap.size:=by have:=c8.size;have:=H8.out.size;omega
   obtain⟨l9,m2,l0⟩:=Kc c8 e3 g1;have k8:IntKind.i64.wrap (97+(a:Int))=97+(a:Int):=IntWalk.i64_in _ yo;have o5:IntKind.u8.wrap (97+(a:Int))=97+(a:Int):=IntWalk.u8_in _ yo;obtain⟨X,hX⟩:=Nm (strOfNums [97+(a:Int)]);have o7:X.size=1:=by rw[hX];rfl
   have g5:∀(W:World) (g:Nat),W.cell? ⟨g,0,none⟩=some (.int .u8 (97+(a:Int)))->(convert 67 9 (.slice (some ⟨g,0,none⟩) 1 1)).run Tryz.prog W=.ok (.string X) W:=fun W g h=>by rw[hX];exact mD 67 5 Tryz.underlying67 Tryz.underlying5 9 Tryz.underlying9 h
   have g6:∀W:World,(Op.stringOp .add u X).run Tryz.prog W=.ok (.string (u++X)) W:=fun W=>run_string_add_sum W u X yo;have f3:Hid ((Value.slice (some ⟨sa,0,none⟩) m.length sc).ownBlock≠some G):=Kh (by obtain⟨cur,rest,hq,_⟩:=e3;exact zR c4 hq jd);have f2:Hid ((Value.slice (some ⟨sb,0,none⟩) m.length sd).ownBlock≠some G):=Kh (by obtain⟨cur,rest,hq,_⟩:=e3;exact zR h9 hq jd);have f6:Hid (∀q,(Value.slice (some ⟨sa,0,none⟩) m.length sc).ownBlock=some q->P+1<=q):=Kh (fun q hq=>(c4.lt q hq).1);have f5:Hid (∀q,(Value.slice (some ⟨sb,0,none⟩) m.length sd).ownBlock=some q->P+1<=q):=Kh (fun q hq=>(h9.lt q hq).1);clear hX;clear hF hu e0 c8 e3 c5 c4 h9 g1 cq ch ce cm fm d0 d1 d2 d3 H5 H4 h8;have k7:i'<m.length:=yo;have k5:(i':Int)<m.length:=yo;have p0:Hid (∀W rs ls,Many w5 F W rs ls [(sb,9,strV ws)]->W.cell? ⟨sb,i',none⟩=some (.string u)/\W.cell? ⟨sb,i',none⟩=some (.string u)):=Kh (fun W rs ls h=>⟨a5.out W rs ls h,a5.out W rs ls h⟩);refine wp_region_noPanic ?_;refine yI (G:=xM 99 (fun W=>W.cell? ⟨sb,i',none⟩=some (.string u)) (fun W=>W.cell? ⟨sb,i',none⟩=some (.string u))) yk ?_;rw[<-l5.out];have C:Hid (w5.cell? ⟨sb,i',none⟩=some (.string u)):=Kh (a5.out _ _ _ hM);refine uB 0 ⟨C.out,fun _=>C.out⟩ ?_;refine uB 1 ⟨C.out,fun _=>C.out⟩ ?_;refine uB 4 ⟨C.out,fun _=>C.out⟩ ?_;refine uB 5 ⟨C.out,fun _=>C.out⟩ ?_;refine uB 6 ⟨C.out,fun _=>C.out⟩ ?_;refine uB 7 ⟨C.out,fun _=>C.out⟩ ?_;refine uB 8 ⟨C.out,fun _=>C.out⟩ ?_;refine uB 9 ⟨C.out,fun _=>C.out⟩ ?_;refine uB 10 ⟨C.out,fun _=>C.out⟩ ?_;refine uB 11 ⟨C.out,fun _=>C.out⟩ ?_;refine uM (fun Wp hWp a0 ha0=>?_);subst hWp
   try simp only[Act.put,sPd,sPe,sPf,sPa,sPb,sPc]at ha0
   have m3:=Kh ha0;refine uL (I:=acc13I (P+1) sa sb sc sd s a i' m ws u X F w5 a0) (fun l a w h=>qRX a5.out h) (qEJ ha0 yo j6 g5 g6) yk ?hend (by decide +kernel) ?hinit
   case hinit =>
    clear ha0;refine⟨a0.tmps.getD 55 undef,a0.tmps.getD 56 undef,a0.tmps.getD 65 undef,a0.tmps.getD 66 undef,a0.tmps.getD 67 undef,a0.tmps.getD 68 undef,a0.tmps.getD 69 undef,a0.tmps.getD 4 undef,a0.tmps.getD 5 undef,.slice (some ⟨sa,0,none⟩) m.length sc,m.length,nats m,.slice (some ⟨sb,0,none⟩) m.length sd,m.length,strV ws,[],(uF yq).symm,by decide +kernel,hs7C,Kh (fun _=>⟨rfl,rfl,rfl⟩),hs7C,hs7C,hs7C,hs7C,hs7C,Kh (fun _=>⟨rfl,rfl,rfl⟩),hs7C,hs7C,hs7C,hM⟩
   clear ha0;intro l1 a2 w6 h a3;obtain⟨x55,x56,x65,x66,x67,x68,x69,x4,x5,vA,nA,xA,vB,nB,xB,ls,ha,HR,H2,m4,H3,m8,m7,m6,m5,g0,j4,j3,j2,HM⟩:=h;obtain⟨r3,c3,rfl,rfl,rfl,rfl⟩:=H3.out (a3 3 jd);obtain⟨_,r16,c16,rfl,rfl,rfl,rfl⟩:=j4.out (a3 16 jd);obtain⟨_,rfl⟩:=j3.out (a3 17 jd);obtain⟨_,rfl⟩:=j2.out (a3 18 jd);clear H2 m4 H3 m8 m7 m6 m5 g0 j4 j3 j2 HR;subst ha;rw[m3.out];simp only[yK,List.foldl_cons,List.foldl_nil,Act.put,sPa,sPb,sPc];refine NoPanic.normal ?_
   have g7:∀q,F q->q≠G:=fun q hq=>by
    rw[j0.out]at hq;have h1:=HM.own;rintro rfl;rcases hq with hq|hq
    ·exact f3.out hq
    exact f2.out hq
   have h5:=HM.own 0 _ rfl;have h4:=HM.own 1 _ rfl
   have g4:wA.grownBy w6 none:=GrownBut.grown HM.but (zE H8.out l9.out (fun q e=>by have h7:G=q:=Oj e;omega)) (fun q hq=>by
    rw[j0.out]at hq;rcases hq with hq|hq
    ·exact .inr (by have:=f6.out q hq;omega)
    exact .inr (by have:=f5.out q hq;omega))
   have g9:Arr w6 G 4 (bls (metL n (m++[s]))):=by
    obtain⟨cur,rest,hq,hc⟩:=m2.out;exact⟨cur,rest,HM.but.heap hq (fun hf=>g7 G hf rfl),hc⟩
   have b8:eV (ws++[u++X]):=H1.out.snoc (by rw[ByteArray.size_append];have:=l0.out;omega);simp only[]at h5 h4;rw[<-qF]at h5;rw[<-qIP]at h4;have c6:(m++[s]).length=m.length+1:=yq
   obtain⟨ka,rfl,_,_,_⟩:=yV h5 yo;obtain⟨kb,rfl,_,_,_⟩:=yV h4 yo;obtain⟨l6,l4,l8,m1,f0,e4⟩:=Kf h5 h4 g4 g9 b8 c6;clear HM h5 h4 g4 g9 b8 g7 c6 g5 g6;go_wp2;go_roundg (k-(a+1))
   case measure=>have:=b4.out;omega
   exact⟨a+1,m++[s],ws++[u++X],ka,kb,_,_,yo,by go_num,f4.out,by rw[e4.out],by rw[e4.out],by rw[e4.out];exact l6.out,by rw[e4.out];exact l4.out,m1.out,f0.out,l8.out⟩
  have g8:a=k:=by have:=b4.out;omega
  have i8:Hid (m=uJ d l i' k):=Kh (by rw[HM.out,g8]);have d9:=Kh (h6.out.row HD.out hi)
  have f7:Hid (qL d k (n-(i'+1)) (i'+1) (uJ d l i' k)=yN d k):=Kh (by
   have h1:=d8.out;rw[show n-i'=(n-(i'+1))+1 by omega,qL,if_pos hi]at h1
   exact h1)
  obtain⟨HO,HW,HA,H1,H8⟩:=Ke h2 h3 h0 H9 H6;clear g8 h2 h3 h0 H9 H6 H0;obtain⟨d0,d1,d2,d3⟩:=zM (zD e5.out H8.out);go_wp2;go_roundg (n-(i'+1))
  case measure=>have:=HG.out;omega
  exact⟨i'+1,m,ws,sa,sb,sc,sd,yo,by go_num,rfl,rfl,HO.out,HW.out,HA.out,by rw[i8.out];exact d9.out,by rw[i8.out];exact f7.out,yo,H1.out,H8.out⟩
 have f9:Hid (yN d k=l):=Kh (by rw[<-d8.out,eU hi]);go_wp2;refine bodyPost_ret (v:=.tuple #[.slice (some ⟨sa,0,none⟩) l.length sc,.slice (some ⟨sb,0,none⟩) l.length sd]) (by simp[results,Tryz.results60,go_sem]) rfl ?_;rw[f9.out];exact⟨_,_,_,rfl,xO HO.out (by have:=i4.out;omega),zI l7.out H8.out⟩
end Go.Proofs.YtiknckajkdlppaaGreat
