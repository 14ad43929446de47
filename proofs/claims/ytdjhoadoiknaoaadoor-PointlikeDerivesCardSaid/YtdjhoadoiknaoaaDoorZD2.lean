/- Part 2 of the proof: Inv, Many, Many2, Inv2, FamPlain, Ctz. -/
import Derived.Test.YtdjhoadoiknaoaaDoorZD1
import Derived.Laws.Bits64b
import Derived.Laws.BitsAllLaws
import Derived.Lib.TrailingZeros
set_option linter.unusedVariables false
set_option linter.unusedSimpArgs false
namespace Go.Proofs.YtdjhoadoiknaoaaDoor
open Go.RowKit
theorem jQ (p q:Nat→Bool) (hle:∀ j,q j=true→p j=true):∀ l:List Nat,(l.filter q).length≤(l.filter p).length
 | []=>Nat.le_refl _
 | x :: l=>by
  have ih:=jQ p q hle l
  by_cases hq:q x=true
  ·rw [List.filter_cons_of_pos hq,List.filter_cons_of_pos (hle x hq)]
   simp only [List.length_cons];omega
  ·rw [List.filter_cons_of_neg hq]
   by_cases hp:p x=true
   ·rw [List.filter_cons_of_pos hp];simp only [List.length_cons];omega
   ·rw [List.filter_cons_of_neg hp];exact ih
theorem jP (p q:Nat→Bool) (hle:∀ j,q j=true→p j=true) {i:Nat} (hp:p i=true) (hq:q i=false):∀ l:List Nat,i∈l→(l.filter q).length < (l.filter p).length
 | [],h=>by cases h
 | x :: l,h=>by
  rcases List.mem_cons.1 h with rfl|h'
  ·have:=jQ p q hle l
   rw [List.filter_cons_of_pos hp,List.filter_cons_of_neg (by rw [hq];simp)]
   simp only [List.length_cons];omega
  ·have ih:=jP p q hle hp hq l h'
   by_cases hqx:q x=true
   ·rw [List.filter_cons_of_pos hqx,List.filter_cons_of_pos (hle x hqx)]
    simp only [List.length_cons];omega
   ·rw [List.filter_cons_of_neg hqx]
    by_cases hpx:p x=true
    ·rw [List.filter_cons_of_pos hpx];simp only [List.length_cons];omega
    ·rw [List.filter_cons_of_neg hpx];exact ih
section
variable {P:Program} {md:Region.Mode} {ops:Array Oper} {Q:Exit→Act→World→Prop}
def qAV (ops:Array Oper) (listed:Array Bool):Nat:=((List.range ops.size).filter fun i=>!listed.getD i true).length
theorem dH {listed:Array Bool} {i:Nat} (hi:i∈Region.ready md ops listed):qAV ops (listed.setIfInBounds i true) < qAV ops listed:=by
 obtain ⟨h0,o,ho,_⟩:=mem_ready.1 hi
 have hlt:i < ops.size:=by
  rcases Nat.lt_or_ge i ops.size with h|h
  ·exact h
  ·rw [Array.getElem?_eq_none h] at ho;cases ho
 refine jP _ _ (fun j hj=>?_) (i:=i) (by rw [h0];rfl) (by rw [uO];rfl) _ (List.mem_range.2 hlt)
 by_cases e:i=j
 ·subst e;rw [uO] at hj;cases hj
 ·rwa [Go.getD_set_ne true e] at hj
end
structure ElemN (P:Program) (t e:TypeId) (sz:Nat) (z:Value) (bytes:Nat):Prop where
 ht:P.underlying t=some (.slice e)
 hi:(P.info? e).map (fun i=>(i.zero,i.size,i.bytes))=some (some z,sz,bytes)
 hz:z.cells.size=sz
 pos:0 < sz
theorem ElemOk.toN {P:Program} {t e:TypeId} {z:Value} {bytes:Nat} (E:ElemOk P t e z bytes):ElemN P t e 1 z bytes:=⟨E.ht,E.hi,E.hz,by decide⟩
theorem mD {P:Program} {w:World} (base:Nat) (t ty:TypeId) {e:TypeId} {z:Value} {bytes:Nat} (E:ElemOk P t e z bytes)
  (v:Value) (n:Nat) (xs:List Value) (hown:w.ownsRow base e 1 v n xs) (g c:Nat) (u:Value) (hu:w.cell? ⟨g,0,none⟩=some u) (h1:u.oneCell'=true)
  (h63:n+1≤maxLen) (hbytes:(n+1) * bytes≤140737488355328) (hbase:base≤w.heap.size) :
  ∃ v' w',(Builtin.append_ #[t,t] ty #[v,.slice (some ⟨g,0,none⟩) 1 c]).run P w=.ok v' w'∧w'.ownsRow base e 1 v' (n+1) (xs ++ [u])∧w.grownBy w' v.ownBlock∧bN w w' v v':=by
 obtain ⟨i,hi,hz,hsz,hby⟩:=info_parts E.hi
 have hnews:∀ j u',[u][j]?=some u'→w.cell? ((⟨g,0,none⟩:Addr).add j)=some u':=by
  intro j u' hj
  match j,hj with
  | 0,hj=>simp at hj;subst hj;simpa [Addr.add] using hu
 have hone:∀ u'∈[u],u'.oneCell'=true:=by intro u' hu;simp at hu;subst hu;exact h1
 obtain ⟨v',w',hr,h2,h3,h4⟩:=run_append_own (P:=P) w base t ty e i z 1 bytes E.ht hi hz hsz hby E.hz (by decide) v n xs hown ⟨g,0,none⟩ 1 c [u] rfl hnews hone h63 hbytes hbase
 refine ⟨v',w',hr,h2,h3,?_⟩
 have hsmall:n+1≤9223372036854775807:=by simp only [maxLen] at h63;omega
 rcases hown.2 with ⟨rfl,rfl⟩|⟨b,cap,cur,rfl,hb,hg,hnc,hcm,hcs,htake⟩
 ·have hr2:=run_append_nil (P:=P) w t ty e i z E.ht hi hz ⟨g,0,none⟩ 1 c [u] (by simp [hsz]) hnews (by omega) (by omega) (by rw [hby];simp at hbytes;omega)
  rw [hr2] at hr
  injection hr with e1 e2
  subst e1;subst e2
  refine .inr ⟨zP (Ga w _ none) rfl rfl rfl rfl,fun k hk=>?_⟩
  have:w.heap.size=k:=by simpa [Value.ownBlock] using hk
  omega
 ·by_cases hroom:n+1≤cap
  ·obtain ⟨w2,hr2,_⟩:=run_append_fits (P:=P) w base t ty e i 1 E.ht hi hsz b n cap xs hown ⟨g,0,none⟩ 1 c [u] rfl hnews hone hroom
   rw [hr2] at hr
   injection hr with e1 e2
   subst e1
   exact .inl rfl
  ·have holds:∀ j u,xs[j]?=some u→w.cell? ((⟨b,0,none⟩:Addr).add j)=some u:=hown.cells (g:=b) rfl
   have hlo:xs.length=n * i.size:=by rw [hsz];exact hown.1
   have hr2:=run_append_grow (P:=P) w t ty e i z E.ht hi hz ⟨b,0,none⟩ n cap xs hlo holds ⟨g,0,none⟩ 1 c [u] (by simp [hsz]) hnews (by omega) (by omega) (growslice_fits (by omega) (by rw [hby];exact hbytes))
   rw [hr2] at hr
   injection hr with e1 e2
   subst e1;subst e2
   refine .inr ⟨zP (Ga w _ none) rfl rfl rfl rfl,fun k hk=>?_⟩
   have:w.heap.size=k:=by simpa [Value.ownBlock] using hk
   omega
structure RowS where
 base:Nat
 e:TypeId
 v:Value
 n:Nat
 xs:List Value
 sz:Nat
structure GrownBut (w w':World) (F:Nat→Prop):Prop where
 os:w'.os=w.os
 tape:w'.tape=w.tape
 output:w'.output=w.output
 size:w.heap.size≤w'.heap.size
 block:∀ k,k < w.heap.size→¬ F k→w'.heap[k]?=w.heap[k]?
theorem GrownBut.refl (w:World) (F:Nat→Prop):GrownBut w w F:=⟨rfl,rfl,rfl,Nat.le_refl _,fun _ _ _=>rfl⟩
theorem GrownBut.step {w w' w'' : World} {F : Nat → Prop} {row : Option Nat} (h : GrownBut w w' F) (hg : w'.grownBy w'' row) (hr : ∀ k, row = some k → F k ∨ w.heap.size ≤ k) : GrownBut w w'' F :=
 ⟨hg.os.trans h.os, hg.tape.trans h.tape, hg.output.trans h.output, Nat.le_trans h.size hg.size, fun k hk hf => by
  refine (hg.block k (Nat.lt_of_lt_of_le hk h.size) fun e => ?_).trans (h.block k hk hf)
  rcases hr k e.symm with h | h
  ·exact hf h
  ·omega⟩
theorem GrownBut.grown {w0 w w' : World} {F : Nat → Prop} {row : Option Nat} (h : GrownBut w w' F) (h0 : w0.grownBy w row) (hF : ∀ k, F k → row = some k ∨ w0.heap.size ≤ k) : w0.grownBy w' row :=
 ⟨h.os.trans h0.os, h.tape.trans h0.tape, h.output.trans h0.output, Nat.le_trans h0.size h.size, fun k hk hne => by
  refine (h.block k (Nat.lt_of_lt_of_le hk h0.size) fun hf => ?_).trans (h0.block k hk hne)
  rcases hF k hf with e | e
  ·exact hne e.symm
  ·omega⟩
theorem GrownBut.cell {w w':World} {F:Nat→Prop} (h:GrownBut w w' F) {p:Addr} {u:Value} (hc:w.cell? p=some u) (hf:¬ F p.block):w'.cell? p=some u :=
 (World.cell?_of_block (h.block p.block (World.block_lt_of_cell? w p hc) hf)).trans hc
theorem GrownBut.heap {w w':World} {F:Nat→Prop} (h:GrownBut w w' F) {p:Nat} {o:Obj} (hc:w.heap[p]?=some o) (hf:¬ F p):w'.heap[p]?=some o :=
 (h.block p (zQ hc) hf).trans hc
structure Many (w0:World) (F:Nat→Prop) (W:World) (rs:List RowS) (ls:List (Nat × Obj)) (ps:List (Nat × TypeId × List Value)):Prop where
 own:∀ (j:Nat) (r:RowS),rs[j]?=some r→W.ownsRow r.base r.e r.sz r.v r.n r.xs
 mine:∀ (j:Nat) (r:RowS),rs[j]?=some r→∀ k,r.v.ownBlock=some k→F k∨w0.heap.size≤k
 apart:∀ (i j:Nat) (r s:RowS),i≠j→rs[i]?=some r→rs[j]?=some s→∀ k,r.v.ownBlock=some k→s.v.ownBlock≠some k
 lit:∀ p∈ls,W.heap[p.1]?=some p.2∧(∀ (j:Nat) (r:RowS),rs[j]?=some r→r.v.ownBlock≠some p.1)∧w0.heap.size≤p.1
 pre:∀ p∈ps,Arr W p.1 p.2.1 p.2.2∧∀ (j:Nat) (r:RowS),rs[j]?=some r→r.v.ownBlock=some p.1→p.2.2 <+: r.xs∧r.e=p.2.1∧r.sz=1
 but:GrownBut w0 W F
section
variable {w0 W:World} {F:Nat→Prop} {rs:List RowS} {ls:List (Nat × Obj)} {ps:List (Nat × TypeId × List Value)}
theorem qBK {w:World} {base e n sz:Nat} {v:Value} {xs:List Value} (h:w.ownsRow base e sz v n xs) {k:Nat} (hk:v.ownBlock=some k):k < w.heap.size:=(h.lt k hk).2
theorem xH {w w':World} {base e sz:Nat} {v:Value} {n:Nat} {xs:List Value} (h:w.ownsRow base e sz v n xs) (hg:w.grownBy w' none):w'.ownsRow base e sz v n xs:=by
 refine h.kept hg ?_
 rcases hv:v.ownBlock with _|k
 ·exact .inl rfl
 ·exact .inr (by simp)
theorem Many.grow {W':World} (h:Many w0 F W rs ls ps) (hg:W.grownBy W' none):Many w0 F W' rs ls ps where
 own:=fun j r hr=>xH (h.own j r hr) hg
 mine:=h.mine
 apart:=h.apart
 lit:=fun p hp=>⟨zE (h.lit p hp).1 hg (by simp),(h.lit p hp).2⟩
 pre:=fun p hp=>⟨(h.pre p hp).1.kept hg (by simp),(h.pre p hp).2⟩
 but:=h.but.step hg (by simp)
theorem Many.drew (h:Many w0 F W rs ls ps):Many w0 F W.drew rs ls ps:=h.grow (zT W none)
theorem Many.alloc (h:Many w0 F W rs ls ps) (o:Obj):Many w0 F (W.alloc o) rs ((W.heap.size,o) :: ls) ps where
 own:=fun j r hr=>(h.own j r hr).alloc o
 mine:=h.mine
 apart:=h.apart
 lit:=fun p hp=>by
  rcases List.mem_cons.1 hp with rfl|hp
  ·exact ⟨heap_alloc_new W o,fun j r hr e=>(by have:=qBK (h.own j r hr) e;simp only at this;omega),h.but.size⟩
  ·exact ⟨zE (h.lit p hp).1 (Ga W o none) (by simp),(h.lit p hp).2⟩
 pre:=fun p hp=>⟨(h.pre p hp).1.kept (Ga W o none) (by simp),(h.pre p hp).2⟩
 but:=h.but.step (Ga W o none) (by simp)
theorem fP {α:Type} {l:List α} {j i:Nat} {x r:α} (h:(l.set j x)[i]?=some r):(i=j∧r=x∧j < l.length)∨(i≠j∧l[i]?=some r):=by
 by_cases e:i=j
 ·subst e
  left
  rw [List.getElem?_set] at h
  simp only [if_true] at h
  split at h
  ·exact ⟨rfl,(Oj h).symm,by assumption⟩
  ·cases h
 ·exact .inr ⟨e,by rwa [List.getElem?_set_ne (Ne.symm e)] at h⟩
theorem Many.append {W':World} (h:Many w0 F W rs ls ps) {j:Nat} {r:RowS} (hr:rs[j]?=some r) {v':Value} {n':Nat} {us:List Value}
  (ho:W'.ownsRow r.base r.e r.sz v' n' (r.xs ++ us)) (hg:W.grownBy W' r.v.ownBlock) (hm:bN W W' r.v v'):Many w0 F W' (rs.set j ⟨r.base,r.e,v',n',r.xs ++ us,r.sz⟩) ls ps where
 own:=fun i s hs=>by
  rcases fP hs with ⟨rfl,rfl,_⟩|⟨hne,hs⟩
  ·exact ho
  ·refine (h.own i s hs).kept hg ?_
   rcases hb:s.v.ownBlock with _|k
   ·exact .inl rfl
   ·exact .inr fun e=>h.apart i j s r hne hs hr k hb (by rw [← e])
 mine:=fun i s hs k hk=>by
  rcases fP hs with ⟨rfl,rfl,_⟩|⟨hne,hs⟩
  ·rcases hm with hm|⟨_,hm⟩
   ·exact h.mine i r hr k (hm ▸ hk)
   ·have:=hm k hk
    have:=h.but.size
    exact .inr (by omega)
  ·exact h.mine i s hs k hk
 apart:=fun i i' s s' hne hs hs' k hk=>by
  rcases fP hs with ⟨rfl,rfl,_⟩|⟨h1,hs2⟩
  ·rcases fP hs' with ⟨rfl,_,_⟩|⟨h2,hs'⟩
   ·exact absurd rfl hne
   ·rcases hm with hm|⟨_,hm⟩
    ·exact h.apart i i' r s' hne hr hs' k (hm ▸ hk)
    ·intro e
     have h3:=hm k hk
     have h4:=qBK (h.own i' s' hs') e
     omega
  ·rcases fP hs' with ⟨rfl,rfl,_⟩|⟨h2,hs'⟩
   ·rcases hm with hm|⟨_,hm⟩
    ·exact fun e=>h.apart i i' s r hne hs2 hr k hk (by rw [← hm];exact e)
    ·intro e
     have h3:=hm k e
     have h4:=qBK (h.own i s hs2) hk
     omega
   ·exact h.apart i i' s s' hne hs2 hs' k hk
 lit:=fun p hp=>by
  obtain ⟨h1,h2,hlow⟩:=h.lit p hp
  refine ⟨zE h1 hg (h2 j r hr),fun i s hs e=>?_,hlow⟩
  rcases fP hs with ⟨rfl,rfl,_⟩|⟨hne,hs⟩
  ·rcases hm with hm|⟨_,hm⟩
   ·exact h2 i r hr (hm ▸ e)
   ·have h3:=hm _ e
    have h4:=zQ h1
    omega
  ·exact h2 i s hs e
 pre:=fun p hp=>by
  obtain ⟨h1,h2⟩:=h.pre p hp
  have harr:Arr W' p.1 p.2.1 p.2.2:=by
   by_cases e:r.v.ownBlock=some p.1
   ·rcases hm with hm|⟨hm,_⟩
    ·obtain ⟨h3,h4,h5⟩:=h2 j r hr e
     rw [h5] at ho
     rcases ho.2 with ⟨hv,_⟩|⟨g,cap,cur,hv,_⟩
     ·rw [hv] at hm;rw [e] at hm;simp [Value.ownBlock] at hm
     ·subst hv
      have hgp:g=p.1:=by rw [e] at hm;simpa [Value.ownBlock] using hm
      subst hgp
      have ha:=Arr.of_owns ho
      rw [h4] at ha
      obtain ⟨q,hq⟩:=h3
      rw [← hq,List.append_assoc] at ha
      exact ha.front
    ·exact h1.kept hm (by simp)
   ·exact h1.kept hg e
  refine ⟨harr,fun i s hs e=>?_⟩
  rcases fP hs with ⟨rfl,rfl,_⟩|⟨hne,hs⟩
  ·rcases hm with hm|⟨_,hm⟩
   ·obtain ⟨h3,h4,h5⟩:=h2 i r hr (hm ▸ e)
    exact ⟨h3.trans (List.prefix_append _ _),h4,h5⟩
   ·have h3:=hm _ e
    have h4:=h1.lt
    omega
  ·exact h2 i s hs e
 but:=h.but.step hg (h.mine j r hr)
theorem Many.litcell (h:Many w0 F W rs ls ps) {g e:Nat} {u:Value} {m:Nat × Nat} (hl:(g,Obj.cells #[u] e m)∈ls):W.cell? ⟨g,0,none⟩=some u:=by
 simpa using zI (h.lit _ hl).1 0 (by simp)
theorem Many.precell (h:Many w0 F W rs ls ps) {g e:Nat} {xs:List Value} (hp:(g,e,xs)∈ps) (i:Nat) (hi:i < xs.length):W.cell? ⟨g,i,none⟩=some xs[i]:=(h.pre _ hp).1.cell i hi
theorem uQ {P : Program} {W : World} {ops : Array Oper} {o : Oper} {a : Act} {K : Act → World → Prop} {Q : Exit → Act → World → Prop} {R : Prop} (hgd : o.guard = none) (s x : Operand) (t : TypeId)
  (ho : o.op = .call { callee := .builtin .append, args := #[s, x], argTypes := #[t, t] }) {e : TypeId} {z : Value} {bytes : Nat} (E : ElemOk P t e z bytes) (j : Nat) (g c : Nat) (hx : a.eval x = .slice (some ⟨g, 0, none⟩) 1 c)
  (h : ∃ (w0 : World) (F : Nat → Prop) (rs : List RowS) (ls : List (Nat × Obj)) (ps : List (Nat × TypeId × List Value)), Many w0 F W rs ls ps ∧
   ∃ r : RowS, rs[j]? = some r ∧ r.e = e ∧ r.sz = 1 ∧ a.eval s = r.v ∧ r.n + 1 ≤ maxLen ∧ (r.n + 1) * bytes ≤ 140737488355328 ∧ r.base ≤ w0.heap.size ∧
   ∃ (u : Value) (g' : Nat) (m : Nat × Nat), (g', Obj.cells #[u] e m) ∈ ls ∧ g' = g ∧ u.oneCell' = true ∧
   ∀ sa sc w', Many w0 F w' (rs.set j ⟨r.base, r.e, .slice sa (r.n + 1) sc, r.n + 1, r.xs ++ [u], r.sz⟩) ls ps → K (a.put o.dst (.slice sa (r.n + 1) sc)) w') : if Region.wanted o (yielded ops a.tmps) = true then Oper.wp P o a W K Q else R := by
 obtain ⟨w0, F, rs, ls, ps, h, r, hr, rfl, hsz, hs, h63, hbytes, hbase, u, g', m, hl, rfl, h1, hK⟩ := h
 have hw : Region.wanted o (yielded ops a.tmps) = true := by simp [Region.wanted, hgd]
 rw [if_pos hw]
 have hu : W.cell? ⟨g', 0, none⟩ = some u := by simpa using zI (h.lit _ hl).1 0 (by simp)
 obtain ⟨v', w', hrun, h2, h3, h4⟩ := mD (P := P) r.base t o.type E r.v r.n r.xs (by have := h.own j r hr; rwa [hsz] at this) g' c u hu h1 h63 hbytes (Nat.le_trans hbase h.but.size)
 obtain ⟨sa, sc, rfl⟩ := rB h2
 unfold Oper.wp execOp
 simp only [ho, resolve, invoke, builtin, Sem.run_bind, Sem.run_pure, Result.andThen_ok, List.map_toArray, List.map_cons, List.map_nil, hs, hx, hrun]
 exact hK sa sc w' (h.append hr (by rw [hsz]; exact h2) h3 h4)
end
theorem Many.two {w:World} {r s:RowS} (hr:w.ownsRow r.base r.e r.sz r.v r.n r.xs) (hs:w.ownsRow s.base s.e s.sz s.v s.n s.xs) (hne:∀ k,r.v.ownBlock=some k→s.v.ownBlock≠some k) :
  Many w (fun k=>r.v.ownBlock=some k∨s.v.ownBlock=some k) w [r,s] [] [] where
 own:=fun j x hx=>by
  match j,hx with
  | 0,hx=>simp at hx;subst hx;exact hr
  | 1,hx=>simp at hx;subst hx;exact hs
 mine:=fun j x hx k hk=>by
  match j,hx with
  | 0,hx=>simp at hx;subst hx;exact .inl (.inl hk)
  | 1,hx=>simp at hx;subst hx;exact .inl (.inr hk)
 apart:=fun i j x y hij hx hy k hk=>by
  match i,j,hij,hx,hy with
  | 0,1,_,hx,hy=>simp at hx hy;subst hx;subst hy;exact hne k hk
  | 1,0,_,hx,hy=>simp at hx hy;subst hx;subst hy;exact fun e=>hne k e hk
  | 0,0,h,_,_=>exact absurd rfl h
  | 1,1,h,_,_=>exact absurd rfl h
 lit:=fun p hp=>by simp at hp
 pre:=fun p hp=>by simp at hp
 but:=GrownBut.refl _ _
theorem Many.see {w0 W:World} {F:Nat→Prop} {rs:List RowS} {ls:List (Nat × Obj)} {ps:List (Nat × TypeId × List Value)} (h:Many w0 F W rs ls ps) {j g cap:Nat} {r:RowS} (hr:rs[j]?=some r) (hv:r.v=.slice (some ⟨g,0,none⟩) r.n cap) (hz:r.sz=1):Many w0 F W rs ls ((g,r.e,r.xs) :: ps) where
 own:=h.own
 mine:=h.mine
 apart:=h.apart
 lit:=h.lit
 pre:=fun p hp=>by
  rcases List.mem_cons.1 hp with rfl|hp
  ·have ho:=h.own j r hr
   rw [hv,hz] at ho
   refine ⟨Arr.of_owns ho,fun i s hs e=>?_⟩
   by_cases hij:i=j
   ·subst hij
    rw [hr] at hs
    have:=Oj hs
    subst this
    exact ⟨List.prefix_refl _,rfl,hz⟩
   ·exact absurd (by rw [hv];rfl) (h.apart i j s r hij hs hr g e)
  ·exact h.pre p hp
 but:=h.but
def tD (w:World) (sz:Nat) (sv:Value) (m:Nat) (news:List Value):Prop :=
 (∃ a cap,sv=.slice a 0 cap∧m=0∧news=[])∨∃ b off cap,sv=.slice (some ⟨b,off,none⟩) m cap∧news.length=m * sz∧m≤maxLen∧∀ j u,news[j]?=some u→w.cell? ⟨b,off+j,none⟩=some u
theorem Row.src {B:Nat} {w:World} {v:Value} {xs:List Value} (h:Row B w v xs):tD w 1 v xs.length xs:=by
 rcases h with ⟨a,cap,rfl,rfl⟩|⟨b,off,cap,rfl,_,h2,h3,hra⟩
 ·exact .inl ⟨a,cap,rfl,rfl,rfl⟩
 ·refine .inr ⟨b,off,cap,rfl,by omega,by omega,fun j u hj=>?_⟩
  have hjl:j < xs.length:=by
   rcases Nat.lt_or_ge j xs.length with h|h
   ·exact h
   ·rw [List.getElem?_eq_none h] at hj;cases hj
  rw [List.getElem?_eq_getElem hjl] at hj
  rw [hra.2 j hjl,hj]
theorem nD {w:World} {base e sz n:Nat} {v:Value} {xs:List Value} (h:w.ownsRow base e sz v n xs):tD w sz v n xs:=by
 have hl:=h.1
 rcases h.2 with ⟨rfl,rfl⟩|⟨g,cap,cur,rfl,hb,hg,hnc,hcm,hcs,htake⟩
 ·exact .inl ⟨none,0,rfl,rfl,List.eq_nil_of_length_eq_zero (by simpa using hl)⟩
 ·refine .inr ⟨g,0,cap,rfl,hl,by omega,fun j u hj=>?_⟩
  have:=h.cells (g:=g) rfl j u hj
  have hadd:(⟨g,0,none⟩:Addr).add j=⟨g,j,none⟩:=by unfold Addr.add;split <;> simp_all
  rw [hadd] at this
  rwa [Nat.zero_add]
theorem oN {P:Program} {w:World} (base:Nat) (t ty:TypeId) {e:TypeId} {sz:Nat} {z:Value} {bytes:Nat} (E:ElemN P t e sz z bytes)
  (v:Value) (n:Nat) (xs:List Value) (hown:w.ownsRow base e sz v n xs) (sv:Value) (m:Nat) (news:List Value) (hrow:tD w sz sv m news) (h1:∀ u∈news,u.oneCell'=true)
  (h63:n+m≤maxLen) (hbytes:(n+m) * bytes≤140737488355328) (hbase:base≤w.heap.size) :
  ∃ v' w',(Builtin.append_ #[t,t] ty #[v,sv]).run P w=.ok v' w'∧w'.ownsRow base e sz v' (n+m) (xs ++ news)∧w.grownBy w' v.ownBlock∧bN w w' v v':=by
 obtain ⟨i,hi,hz,hsz,hby⟩:=info_parts E.hi
 have hpos:=E.pos
 have hsmall:n+m≤9223372036854775807:=by simp only [maxLen] at h63;omega
 have hadd:∀ (b off j:Nat),(⟨b,off,none⟩:Addr).add j=⟨b,off+j,none⟩:=fun b off j=>by unfold Addr.add;split <;> simp_all
 have stay:∀ (a':Addr) (cap:Nat),m=0→news=[]→∃ v' w',(Builtin.append_ #[t,t] ty #[v,.slice (some a') 0 cap]).run P w=.ok v' w'∧w'.ownsRow base e sz v' (n+m) (xs ++ news)∧w.grownBy w' v.ownBlock∧bN w w' v v':=by
  intro a' cap hm0 hn
  subst hn
  subst hm0
  obtain ⟨v',w',hr,h2,h3,h4⟩:=run_append_own (P:=P) w base t ty e i z sz bytes E.ht hi hz hsz hby E.hz hpos v n xs hown a' 0 cap [] (by simp) (fun j u hj=>by simp at hj) (fun u hu=>by simp at hu) (by simpa using h63) (by simpa using hbytes) hbase
  refine ⟨v',w',hr,h2,h3,?_⟩
  rcases hown.2 with ⟨rfl,rfl⟩|⟨b,bc,cur,rfl,hb,hg,hnc,hcm,hcs,htake⟩
  ·have:=h4.2 ⟨rfl,rfl⟩
   subst this
   exact .inl rfl
  ·obtain ⟨w2,hr2,_⟩:=run_append_fits (P:=P) w base t ty e i sz E.ht hi hsz b n bc xs hown a' 0 cap [] (by simp) (fun j u hj=>by simp at hj) (fun u hu=>by simp at hu) (by omega)
   rw [hr2] at hr
   injection hr with e1 e2
   subst e1
   exact .inl rfl
 rcases hrow with ⟨a',cap,rfl,rfl,rfl⟩|⟨b,off,cap,rfl,hnl,hml,hra⟩
 ·cases a' with
  | none =>
   have hr:(Builtin.append_ #[t,t] ty #[v,.slice none 0 cap]).run P w=.ok v w:=by
    rcases hown.2 with ⟨rfl,rfl⟩|⟨g,gc,cur,rfl,_,_,hnc,_⟩
    ·simp [Builtin.append_,run_underlying E.ht,sizeOf,typeInfo,hi,Builtin.lenOf,Builtin.firstCells]
    ·simp [Builtin.append_,run_underlying E.ht,sizeOf,typeInfo,hi,Builtin.lenOf,Builtin.firstCells,hnc,storeCells]
   exact ⟨v,w,hr,by simpa using hown,zW _ _,.inl rfl⟩
  | some a'=>exact stay a' cap rfl rfl
 ·by_cases hm0:m=0
  ·have hn0:news=[]:=List.eq_nil_of_length_eq_zero (by rw [hnl,hm0];simp)
   subst hm0
   exact stay _ _ rfl hn0
  have hnews:∀ j u',news[j]?=some u'→w.cell? ((⟨b,off,none⟩:Addr).add j)=some u':=fun j u' hj=>by rw [hadd];exact hra j u' hj
  obtain ⟨v',w',hr,h2',h3',_⟩:=run_append_own (P:=P) w base t ty e i z sz bytes E.ht hi hz hsz hby E.hz hpos v n xs hown ⟨b,off,none⟩ m cap news hnl hnews h1 h63 hbytes hbase
  refine ⟨v',w',hr,h2',h3',?_⟩
  rcases hown.2 with ⟨rfl,rfl⟩|⟨g,gc,cur,rfl,hb,hg,hnc,hcm,hcs,htake⟩
  ·have hr2:=run_append_nil (P:=P) w t ty e i z E.ht hi hz ⟨b,off,none⟩ m cap news (by rw [hnl,hsz]) hnews (by omega) (by omega) (by rw [hby];simp at hbytes;omega)
   rw [hr2] at hr
   injection hr with e1 e2
   subst e1;subst e2
   refine .inr ⟨zP (Ga w _ none) rfl rfl rfl rfl,fun k hk=>?_⟩
   have:w.heap.size=k:=by simpa [Value.ownBlock] using hk
   omega
  ·by_cases hroom:n+m≤gc
   ·obtain ⟨w2,hr2,_⟩:=run_append_fits (P:=P) w base t ty e i sz E.ht hi hsz g n gc xs hown ⟨b,off,none⟩ m cap news hnl hnews h1 hroom
    rw [hr2] at hr
    injection hr with e1 e2
    subst e1
    exact .inl rfl
   ·have holds:∀ j u,xs[j]?=some u→w.cell? ((⟨g,0,none⟩:Addr).add j)=some u:=hown.cells (g:=g) rfl
    have hlo:xs.length=n * i.size:=by rw [hsz];exact hown.1
    have hr2:=run_append_grow (P:=P) w t ty e i z E.ht hi hz ⟨g,0,none⟩ n gc xs hlo holds ⟨b,off,none⟩ m cap news (by rw [hnl,hsz]) hnews (by omega) (by omega) (growslice_fits (by omega) (by rw [hby];exact hbytes))
    rw [hr2] at hr
    injection hr with e1 e2
    subst e1;subst e2
    refine .inr ⟨zP (Ga w _ none) rfl rfl rfl rfl,fun k hk=>?_⟩
    have:w.heap.size=k:=by simpa [Value.ownBlock] using hk
    omega
section
variable {w0 W W':World} {F:Nat→Prop} {rs:List RowS} {ls ls':List (Nat × Obj)} {ps:List (Nat × TypeId × List Value)}
theorem Many.lit0 (h:Many w0 F W rs ls ps) {j base sz:Nat} {e:TypeId} (hr:rs[j]?=some ⟨base,e,.slice none 0 0,0,[],sz⟩) (hb:base≤w0.heap.size) :
  Many w0 F (W.alloc (.cells #[] e)) (rs.set j ⟨base,e,.slice (some ⟨W.heap.size,0,none⟩) 0 0,0,[],sz⟩) ls ps:=by
 have hg:=Ga W (.cells #[] e) none
 have:=h.append (W':=W.alloc (.cells #[] e)) (j:=j) hr (v':=.slice (some ⟨W.heap.size,0,none⟩) 0 0) (n':=0) (us:=[]) (by
  have h9:=heap_alloc_new W (.cells #[] e)
  exact ⟨by simp,.inr ⟨W.heap.size,0,#[],rfl,Nat.le_trans hb h.but.size,h9,Nat.le_refl _,Nat.zero_le _,by simp,by simp⟩⟩) hg (.inr ⟨hg,fun k hk=>by
  have:W.heap.size=k:=by simpa [Value.ownBlock] using hk
  omega⟩)
 exact this
theorem Many.lits (h:Many w0 F W rs ls ps) (hs:∀ p∈ls',p∈ls):Many w0 F W rs ls' ps:=⟨h.own,h.mine,h.apart,fun p hp=>h.lit p (hs p hp),h.pre,h.but⟩
theorem oL {P : Program} {ops : Array Oper} {o : Oper} {a : Act} {K : Act → World → Prop} {Q : Exit → Act → World → Prop} {R : Prop} (hgd : o.guard = none) (s x : Operand) (t : TypeId)
  (ho : o.op = .call { callee := .builtin .append, args := #[s, x], argTypes := #[t, t] }) {e : TypeId} {sz : Nat} {z : Value} {bytes : Nat} (E : ElemN P t e sz z bytes) (j : Nat) (sv : Value) (hx : a.eval x = sv)
  (h : ∃ (w0 : World) (F : Nat → Prop) (rs : List RowS) (ls : List (Nat × Obj)) (ps : List (Nat × TypeId × List Value)), Many w0 F W rs ls ps ∧
   ∃ (r : RowS) (m n' : Nat) (news : List Value), rs[j]? = some r ∧ r.e = e ∧ r.sz = sz ∧ a.eval s = r.v ∧ tD W sz sv m news ∧ (∀ u ∈ news, u.oneCell' = true) ∧ r.n + m = n' ∧ n' ≤ maxLen ∧ n' * bytes ≤ 140737488355328 ∧ r.base ≤ w0.heap.size ∧
   ∀ sa sc w', Many w0 F w' (rs.set j ⟨r.base, r.e, .slice sa n' sc, n', r.xs ++ news, r.sz⟩) ls ps → K (a.put o.dst (.slice sa n' sc)) w') : if Region.wanted o (yielded ops a.tmps) = true then Oper.wp P o a W K Q else R := by
 obtain ⟨w0, F, rs, ls, ps, h, r, m, n', news, hr, rfl, rfl, hs, hrow, h1, rfl, h63, hbytes, hbase, hK⟩ := h
 have hw : Region.wanted o (yielded ops a.tmps) = true := by simp [Region.wanted, hgd]
 rw [if_pos hw]
 obtain ⟨v', w', hrun, h2, h3, h4⟩ := oN (P := P) r.base t o.type E r.v r.n r.xs (h.own j r hr) sv m news hrow h1 h63 hbytes (Nat.le_trans hbase h.but.size)
 obtain ⟨sa, sc, rfl⟩ : ∃ sa sc, v' = .slice sa (r.n + m) sc := by
  rcases h2.2 with ⟨e1, e2⟩ | ⟨g, cap, cur, e1, _⟩
  ·exact ⟨none, 0, by rw [e1, e2]⟩
  ·exact ⟨_, _, e1⟩
 unfold Oper.wp execOp
 simp only [ho, resolve, invoke, builtin, Sem.run_bind, Sem.run_pure, Result.andThen_ok, List.map_toArray, List.map_cons, List.map_nil, hs, hx, hrun]
 exact hK sa sc w' (h.append hr h2 h3 h4)
end
def zL (a0:Act) (l:List (Nat × Value)):Act:=l.foldl (fun a p=>a.put (some p.1) p.2) a0
section
variable {P:Program} {md:Region.Mode} {ops:Array Oper} {Q:Exit→Act→World→Prop} {G:Array Bool→World→Prop}
theorem tF {fuel:Nat} {listed:Array Bool} {a:Act} {w:World} (h:∀ Wp:Nat→Array Bool→Act→World→Prop,Wp=tG P md ops Q G→∀ a0,a0=a→Wp fuel listed a0 w):tG P md ops Q G fuel listed a w:=h _ rfl _ rfl
end
section
variable {P:Program} {md:Region.Mode} {ops:Array Oper} {Q:Exit→Act→World→Prop} {G:Array Bool→World→Prop}
theorem dE (I : Array Bool → Act → World → Prop) (hG : ∀ l a w, I l a w → G l w)
  (hstep : ∀ i o, ops[i]? = some o → ∀ listed a w, I listed a w → listed.getD i true = false → (∀ e ∈ o.after, Region.binds md e = true → listed.getD e.on false = true) →
   ∀ K' : Act → World → Prop, Shut (∀ a w, I (listed.setIfInBounds i true) a w → K' a w) → if Region.wanted o (yielded ops a.tmps) = true then Oper.wp P o a w K' Q else K' (a.put o.dst undef) w)
  (hend : ∀ listed a w, I listed a w → Region.ready md ops listed = [] → Q .normal a w) :
  ∀ (fuel : Nat) (listed : Array Bool) (a : Act) (w : World), qAV ops listed ≤ fuel → I listed a w → tG P md ops Q G fuel listed a w
 | 0, listed, a, w, hf, hI => by
  have hr : Region.ready md ops listed = [] := by
   rcases h : Region.ready md ops listed with _ | ⟨i, l⟩
   ·rfl
   ·have := dH (md := md) (ops := ops) (listed := listed) (i := i) (by rw [h]; exact List.mem_cons_self)
    omega
  exact ⟨hr, hend _ _ _ hI hr⟩
 | fuel + 1, listed, a, w, hf, hI => by
  refine ⟨hend _ _ _ hI, fun i hi => ?_⟩
  obtain ⟨h0, o, ho, hall⟩ := mem_ready.1 hi
  have hu := dH hi
  exact wpOp_mono (fun a' w' h => ⟨hG _ _ _ h, dE I hG hstep hend fuel _ a' w' (by omega) h⟩) (wpOp_step (K := I (listed.setIfInBounds i true)) ho (fun K' hK => hstep i o ho _ _ _ hI h0 hall K' hK))
def gG (P:Program) (md:Region.Mode) (ops:Array Oper) (Q:Exit→Act→World→Prop) (I:Array Bool→Act→World→Prop) (i:Nat) (o:Oper):Prop :=
 ∀ listed a w,I listed a w→listed.getD i true=false→(∀ e∈o.after,Region.binds md e=true→listed.getD e.on false=true) →
  ∀ K':Act→World→Prop,Shut (∀ a w,I (listed.setIfInBounds i true) a w→K' a w)→if Region.wanted o (yielded ops a.tmps)=true then Oper.wp P o a w K' Q else K' (a.put o.dst undef) w
def oX (S:Nat→Oper→Prop):Nat→List Oper→Prop
 | _,[]=>True
 | k,o :: l=>S k o∧oX S (k+1) l
theorem oX.get {S:Nat→Oper→Prop}:∀ {k:Nat} {l:List Oper},oX S k l→∀ i o,l[i]?=some o→S (k+i) o
 | _,[],_,i,o,h=>by simp at h
 | k,x :: l,h,0,o,e=>by
  have e:x=o:=by simpa using e
  subst e;exact h.1
 | k,x :: l,h,i+1,o,e=>by
  have:=oX.get h.2 i o (by simpa using e)
  rwa [Nat.add_right_comm,Nat.add_assoc] at this
theorem allOps {S:Nat→Oper→Prop} {ops:Array Oper} (h:oX S 0 ops.toList):∀ i o,ops[i]?=some o→S i o:=fun i o ho=>by
 have:=h.get i o (by simpa using ho)
 rwa [Nat.zero_add] at this
def early (ops:Array Oper):Bool:=(List.range ops.size).all fun i=>match ops[i]? with|some o=>o.after.all fun e=>decide (e.on < i)|none=>true
theorem all_listed {listed:Array Bool} (hw:early ops=true) (hr:Region.ready md ops listed=[]):∀ j,j < ops.size→listed.getD j true=true:=by
 intro j
 induction j using Nat.strongRecOn with
 | ind j ih =>
  intro hj
  rcases hl:listed.getD j true with _|_
  ·exfalso
   have hjs:j < listed.size:=by
    rcases Nat.lt_or_ge j listed.size with h|h
    ·exact h
    ·simp [h] at hl
   have hm:j∈Region.ready md ops listed:=by
    refine mem_ready.2 ⟨hl,ops[j],Array.getElem?_eq_getElem hj,fun e he _=>?_⟩
    have h1:=List.all_eq_true.1 hw j (List.mem_range.2 hj)
    rw [Array.getElem?_eq_getElem hj] at h1
    have h2:e.on < j:=by
     have:=Array.all_eq_true'.1 h1 e he
     simpa using this
    have h3:=ih e.on h2 (by omega)
    have h4:e.on < listed.size:=by omega
    simpa [h4] using h3
   rw [hr] at hm
   cases hm
  ·rfl
theorem tE (I:Array Bool→Act→World→Prop) (hG:∀ l a w,I l a w→G l w) (hstep:∀ (ops':Array Oper) (Q':Exit→Act→World→Prop),oX (gG P md ops' Q' I) 0 ops.toList) (hw:early ops=true)
  (hend:∀ listed a w,I listed a w→(∀ j,j < ops.size→listed.getD j true=true)→Q .normal a w) {fuel:Nat} {listed:Array Bool} {a:Act} {w:World} (hf:qAV ops listed≤fuel) (hI:I listed a w):tG P md ops Q G fuel listed a w :=
 dE I hG (allOps (hstep ops Q)) (fun l a w h hr=>hend l a w h (all_listed hw hr)) fuel listed a w hf hI
end
theorem zK {l:Array Bool} {j:Nat} (h:l.getD j false=true):l.getD j true=true:=by
 rcases Nat.lt_or_ge j l.size with h'|h'
 ·simp [h'] at h ⊢;exact h
 ·simp [h'] at h
theorem zB {l:Array Bool} {i j:Nat} (h:l.getD j true=true):(l.setIfInBounds i true).getD j true=true:=by
 by_cases e:i=j
 ·subst e;exact uO
 ·rwa [Go.getD_set_ne true e]
theorem zA {l:Array Bool} {i j:Nat} (hne:i≠j) (h:(l.setIfInBounds i true).getD j true=true):l.getD j true=true:=by rwa [Go.getD_set_ne true hne] at h
theorem zC {l:Array Bool} {i j:Nat} (h:(l.setIfInBounds i true).getD j true=false):l.getD j true=false:=by
 by_cases e:i=j
 ·subst e;rw [uO] at h;cases h
 ·rwa [Go.getD_set_ne true e] at h
theorem yB {l:Array Bool} {i:Nat} {p:Prop} (h:(l.setIfInBounds i true).getD i true=false):p:=by rw [uO] at h;cases h
section
variable {w0 W W':World} {F:Nat→Prop} {rs:List RowS} {ls:List (Nat × Obj)}
theorem Many.far (h:Many w0 F W rs ls []) {r:Nat} (hg:W.grownBy W' (some r)) (hF:F r) (hlt:r < w0.heap.size) (hne:∀ (j:Nat) (s:RowS),rs[j]?=some s→s.v.ownBlock≠some r):Many w0 F W' rs ls [] where
 own:=fun j s hs=>(h.own j s hs).kept hg (.inr (hne j s hs))
 mine:=h.mine
 apart:=h.apart
 lit:=fun p hp=>⟨zE (h.lit p hp).1 hg (fun e=>by have e:=Oj e;have:=(h.lit p hp).2.2;omega),(h.lit p hp).2⟩
 pre:=fun p hp=>by cases hp
 but:=h.but.step hg (fun k e=>.inl (by have e:=Oj e;subst e;exact hF))
theorem Many.make (h:Many w0 F W rs ls []) {j base sz:Nat} {e:TypeId} {cs:List Value} {n:Nat} (hr:rs[j]?=some ⟨base,e,.slice none 0 0,0,[],sz⟩) (hb:base≤w0.heap.size) (hl:cs.length=n * sz) (hm:n≤maxLen) :
  Many w0 F (W.alloc (.cells cs.toArray e)) (rs.set j ⟨base,e,.slice (some ⟨W.heap.size,0,none⟩) n n,n,cs,sz⟩) ls []:=by
 have hg:=Ga W (.cells cs.toArray e) none
 have:=h.append (W':=W.alloc (.cells cs.toArray e)) (j:=j) hr (v':=.slice (some ⟨W.heap.size,0,none⟩) n n) (n':=n) (us:=cs) (by
  have h9:=heap_alloc_new W (.cells cs.toArray e)
  exact ⟨by simpa using hl,.inr ⟨W.heap.size,n,cs.toArray,rfl,Nat.le_trans hb h.but.size,h9,Nat.le_refl _,hm,by simp [hl],by simp [← hl]⟩⟩) hg (.inr ⟨hg,fun k hk=>by
  have:W.heap.size=k:=by simpa [Value.ownBlock] using hk
  omega⟩)
 simpa using this
end
theorem Many.not_type {w0 W:World} {F:Nat→Prop} {rs:List RowS} {ls:List (Nat × Obj)} {ps:List (Nat × TypeId × List Value)} (h:Many w0 F W rs ls ps) {r e':Nat} {c:Array Value} {m:Nat × Nat} (hr:W.heap[r]?=some (.cells c e' m)) (hty:∀ s∈rs,s.e≠e'):∀ (j:Nat) (s:RowS),rs[j]?=some s→s.v.ownBlock≠some r :=
 fun j s hs=>zS (h.own j s hs) hr (hty s (List.mem_of_getElem? hs))
theorem uV {P:Program} {W:World} {o:Oper} {a:Act} {K:Act→World→Prop} {Q:Exit→Act→World→Prop} {R c0:Prop} [Decidable c0] (hc0:c0) (s x:Operand) (t:TypeId)
  (ho:o.op=.call { callee:=.builtin .append,args:=#[s,x],argTypes:=#[t,t] }) {e:TypeId} {z:Value} {bytes:Nat} (E:ElemOk P t e z bytes) (j:Nat) (g c:Nat) (hx:a.eval x=.slice (some ⟨g,0,none⟩) 1 c)
  {w0:World} {F:Nat→Prop} {rs:List RowS} {ls:List (Nat × Obj)} {ps:List (Nat × TypeId × List Value)} (h:Many w0 F W rs ls ps)
  {r:RowS} (hr:rs[j]?=some r) (he:r.e=e) (hsz:r.sz=1) (hs:a.eval s=r.v) (h63:r.n+1≤maxLen) (hbytes:(r.n+1) * bytes≤140737488355328) (hbase:r.base≤w0.heap.size)
  {u:Value} {m:Nat × Nat} (hl:(g,Obj.cells #[u] e m)∈ls) (h1:u.oneCell'=true)
  (hK:∀ sa sc w',Many w0 F w' (rs.set j ⟨r.base,r.e,.slice sa (r.n+1) sc,r.n+1,r.xs ++ [u],r.sz⟩) ls ps→W.grownBy w' r.v.ownBlock→K (a.put o.dst (.slice sa (r.n+1) sc)) w'):if c0 then Oper.wp P o a W K Q else R:=by
 subst he
 rw [if_pos hc0]
 have hu:W.cell? ⟨g,0,none⟩=some u:=by simpa using zI (h.lit _ hl).1 0 (by simp)
 obtain ⟨v',w',hrun,h2,h3,h4⟩:=mD (P:=P) r.base t o.type E r.v r.n r.xs (by have:=h.own j r hr;rwa [hsz] at this) g c u hu h1 h63 hbytes (Nat.le_trans hbase h.but.size)
 obtain ⟨sa,sc,rfl⟩:=rB h2
 unfold Oper.wp execOp
 simp only [ho,resolve,invoke,builtin,Sem.run_bind,Sem.run_pure,Result.andThen_ok,List.map_toArray,List.map_cons,List.map_nil,hs,hx,hrun]
 exact hK sa sc w' (h.append hr (by rw [hsz];exact h2) h3 h4) h3
theorem sY {P:Program} {W:World} {o:Oper} {a:Act} {K:Act→World→Prop} {Q:Exit→Act→World→Prop} {R c0:Prop} [Decidable c0] (hc0:c0) (s x:Operand) (t:TypeId)
  (ho:o.op=.call { callee:=.builtin .append,args:=#[s,x],argTypes:=#[t,t] }) {e:TypeId} {sz:Nat} {z:Value} {bytes:Nat} (E:ElemN P t e sz z bytes) (j:Nat) (sv:Value) (hx:a.eval x=sv)
  {w0:World} {F:Nat→Prop} {rs:List RowS} {ls:List (Nat × Obj)} {ps:List (Nat × TypeId × List Value)} (h:Many w0 F W rs ls ps)
  {r:RowS} {m n':Nat} {news:List Value} (hr:rs[j]?=some r) (he:r.e=e) (hsz:r.sz=sz) (hs:a.eval s=r.v) (hrow:tD W sz sv m news) (h1:∀ u∈news,u.oneCell'=true) (hn:r.n+m=n') (h63:n'≤maxLen) (hbytes:n' * bytes≤140737488355328) (hbase:r.base≤w0.heap.size)
  (hK:∀ sa sc w',Many w0 F w' (rs.set j ⟨r.base,r.e,.slice sa n' sc,n',r.xs ++ news,r.sz⟩) ls ps→W.grownBy w' r.v.ownBlock→K (a.put o.dst (.slice sa n' sc)) w'):if c0 then Oper.wp P o a W K Q else R:=by
 subst he;subst hsz;subst hn
 rw [if_pos hc0]
 obtain ⟨v',w',hrun,h2,h3,h4⟩:=oN (P:=P) r.base t o.type E r.v r.n r.xs (h.own j r hr) sv m news hrow h1 h63 hbytes (Nat.le_trans hbase h.but.size)
 obtain ⟨sa,sc,rfl⟩:∃ sa sc,v'=.slice sa (r.n+m) sc:=by
  rcases h2.2 with ⟨e1,e2⟩|⟨g,cap,cur,e1,_⟩
  ·exact ⟨none,0,by rw [e1,e2]⟩
  ·exact ⟨_,_,e1⟩
 unfold Oper.wp execOp
 simp only [ho,resolve,invoke,builtin,Sem.run_bind,Sem.run_pure,Result.andThen_ok,List.map_toArray,List.map_cons,List.map_nil,hs,hx,hrun]
 exact hK sa sc w' (h.append hr h2 h3 h4) h3
theorem uI {a0:Act}:∀ {l:List (Nat × Value)},(∀ p∈l,p.2=a0.tmps.getD p.1 undef)→zL a0 l=a0
 | [],_=>rfl
 | p :: l,h=>by
  have h1:=h p List.mem_cons_self
  have hp:a0.put (some p.1) p.2=a0:=by
   rw [h1]
   show Act.mk (a0.tmps.setIfInBounds p.1 (a0.tmps.getD p.1 undef)) a0.defers=a0
   have:a0.tmps.setIfInBounds p.1 (a0.tmps.getD p.1 undef)=a0.tmps:=by
    apply Array.ext
    ·simp
    ·intro i h1 h2
     rw [Array.getElem_setIfInBounds]
     split
     ·rename_i e;subst e;simp [h2]
     ·rfl
   rw [this]
  show zL (a0.put (some p.1) p.2) l=a0
  rw [hp]
  exact uI fun q hq=>h q (List.mem_cons_of_mem _ hq)
theorem Many.start {w:World} {F:Nat→Prop} {rs:List RowS} (hown:∀ r∈rs,w.ownsRow r.base r.e r.sz r.v r.n r.xs) (hF:∀ r∈rs,∀ k,r.v.ownBlock=some k→F k) (hap:rs.Pairwise (fun r s=>∀ k,r.v.ownBlock=some k→s.v.ownBlock≠some k)):Many w F w rs [] [] where
 own:=fun j r hr=>hown r (List.mem_of_getElem? hr)
 mine:=fun j r hr k hk=>.inl (hF r (List.mem_of_getElem? hr) k hk)
 apart:=fun i j r s hij hr hs k hk hk2=>by
  obtain ⟨hi,hri⟩:=List.getElem?_eq_some_iff.1 hr
  obtain ⟨hj,hsj⟩:=List.getElem?_eq_some_iff.1 hs
  rcases Nat.lt_or_gt_of_ne hij with h|h
  ·have:=List.pairwise_iff_getElem.1 hap i j hi hj h k
   rw [hri,hsj] at this
   exact this hk hk2
  ·have:=List.pairwise_iff_getElem.1 hap j i hj hi h k
   rw [hri,hsj] at this
   exact this hk2 hk
 lit:=fun p hp=>by simp at hp
 pre:=fun p hp=>by simp at hp
 but:=GrownBut.refl _ _
theorem own_apart {w:World} {base base' e e' sz sz' n n':Nat} {v v':Value} {xs xs':List Value} (h:w.ownsRow base e sz v n xs) (h':w.ownsRow base' e' sz' v' n' xs') (hne:e≠e'):∀ k,v.ownBlock=some k→v'.ownBlock≠some k:=by
 intro k hk e2
 rcases h'.2 with ⟨hv,_⟩|⟨g,cap,cur,hv,_,hg,_⟩
 ·rw [hv] at e2;simp [Value.ownBlock] at e2
 ·rw [hv] at e2
  have:g=k:=by simpa [Value.ownBlock] using e2
  subst this
  exact zS h hg hne hk
def mY:Code→Nat→Option (Array Oper)
 | .region i ops _,k=>if i=k then some ops else none
 | .seq a b,k=>match mY a k with
  | some o=>some o
  | none=>mY b k
 | .cond _ a b,k=>match mY a k with
  | some o=>some o
  | none=>mY b k
 | .block _ b,k=>mY b k
 | .loop b,k=>mY b k
 | .scope b,k=>mY b k
 | _,_=>none
def qV (f:Func) (k:Nat):Array Oper:=match f.body with
 | some b=>(mY b k).getD #[]
 | none=>#[]
end Go.Proofs.YtdjhoadoiknaoaaDoor
namespace Go.Proofs.YtdjhoadoiknaoaaDoor
def xV (l:List Nat) (s:Nat):Bool:=l.any fun b=>decide (s &&& b=s)
theorem yX {l:List Nat} {s:Nat}:xV l s=true ↔ ∃ b∈l,s &&& b=s:=by simp [xV]
theorem sV {a b:Nat}:a &&& b=a ↔ ∀ z,a.testBit z=true→b.testBit z=true:=by
 constructor
 ·intro h z hz
  rw [← h,Nat.testBit_and,Bool.and_eq_true] at hz
  exact hz.2
 ·intro h
  apply Nat.eq_of_testBit_eq
  intro z
  rw [Nat.testBit_and]
  cases ha:a.testBit z with
  | false=>rfl
  | true=>rw [h z ha];rfl
theorem gL (a:Nat):a &&& a=a:=Nat.and_self a
theorem mK {a b c:Nat} (h:a &&& b=a) (k:b &&& c=b):a &&& c=a:=sV.2 fun z hz=>sV.1 k z (sV.1 h z hz)
theorem qAX {a b:Nat} (h:a &&& b=a):a≤b:=by rw [← h];exact Nat.and_le_right
theorem qCO {a b n:Nat} (h:a &&& b=a) (hb:b < 2 ^ n):a < 2 ^ n:=Nat.lt_of_le_of_lt (qAX h) hb
theorem lY (s x z:Nat):(s ||| 1 <<< x).testBit z=(s.testBit z || decide (x=z)):=by rw [Nat.testBit_or,wH]
theorem iB (s x:Nat):s &&& (s ||| 1 <<< x)=s:=sV.2 fun z hz=>by rw [lY,hz];rfl
theorem dQ {s x b:Nat} (h:s &&& b=s) (hb:b.testBit x=true):(s ||| 1 <<< x) &&& b=s ||| 1 <<< x:=by
 refine sV.2 fun z hz=>?_
 rw [lY,Bool.or_eq_true,decide_eq_true_eq] at hz
 rcases hz with hz|rfl
 ·exact sV.1 h z hz
 ·exact hb
theorem fR {s x n:Nat} (hs:s < 2 ^ n) (hx:x < n):s ||| 1 <<< x < 2 ^ n:=by
 refine Nat.or_lt_two_pow hs ?_
 rw [Nat.one_shiftLeft]
 exact Nat.pow_lt_pow_right (by omega) hx
theorem aF {s x:Nat} (h:s.testBit x=false):s < s ||| 1 <<< x:=by
 refine Nat.lt_of_le_of_ne (qAX (iB s x)) fun e=>?_
 have:(s ||| 1 <<< x).testBit x=true:=by rw [lY];simp
 rw [← e,h] at this;cases this
theorem cB {a b n:Nat} (h:a &&& b=a) (hne:a≠b) (hb:b < 2 ^ n):∃ x,x < n∧a.testBit x=false∧b.testBit x=true:=by
 apply Classical.byContradiction
 intro hno
 apply hne
 apply Nat.eq_of_testBit_eq
 intro z
 by_cases hz:z < n
 ·cases ha:a.testBit z with
  | true=>exact (sV.1 h z ha).symm
  | false =>
   cases hbz:b.testBit z with
   | false=>rfl
   | true=>exact absurd ⟨z,hz,ha,hbz⟩ hno
 ·rw [iU (qCO h hb) (by omega),iU hb (by omega)]
theorem dI {n:Nat} {l:List Nat} (hl:∀ b∈l,b < 2 ^ n) (s:Nat) :
  xV l s=true ↔ s∈l∨∃ x,x < n∧s.testBit x=false∧xV l (s ||| 1 <<< x)=true:=by
 constructor
 ·intro h
  obtain ⟨b,hb,hs⟩:=yX.1 h
  by_cases e:s=b
  ·exact .inl (e ▸ hb)
  ·obtain ⟨x,hx,h0,h1⟩:=cB hs e (hl b hb)
   exact .inr ⟨x,hx,h0,yX.2 ⟨b,hb,dQ hs h1⟩⟩
 ·rintro (h|⟨x,_,_,h⟩)
  ·exact yX.2 ⟨s,h,gL s⟩
  ·obtain ⟨b,hb,hs⟩:=yX.1 h
   exact yX.2 ⟨b,hb,mK (iB s x) hs⟩
theorem under_lt {n:Nat} {l:List Nat} (hl:∀ b∈l,b < 2 ^ n) {s:Nat} (h:xV l s=true):s < 2 ^ n:=by
 obtain ⟨b,hb,hs⟩:=yX.1 h
 exact qCO hs (hl b hb)
def topB (n:Nat) (l:List Nat) (s:Nat):Bool:=(List.range n).all fun x=>s.testBit x || !xV l (s ||| 1 <<< x)
def wT (n:Nat) (l:List Nat):List Nat:=(List.range (2 ^ n)).filter fun s=>xV l s && topB n l s
def mE (l:List Nat) (a:Nat):Prop:=∀ b∈l,a=b∨a &&& b≠a
theorem jK {n:Nat} {l:List Nat} (hl:∀ b∈l,b < 2 ^ n) {s:Nat}:s∈wT n l ↔ s∈l∧mE l s:=by
 simp only [wT,List.mem_filter,List.mem_range,Bool.and_eq_true]
 constructor
 ·rintro ⟨hs,hu,ht⟩
  have key:∀ b∈l,s &&& b=s→s=b:=by
   intro b hb h
   apply Classical.byContradiction
   intro hne
   obtain ⟨x,hx,h0,h1⟩:=cB h hne (hl b hb)
   have:=List.all_eq_true.1 ht x (List.mem_range.2 hx)
   rw [h0,Bool.false_or,Bool.not_eq_true',yX.2 ⟨b,hb,dQ h h1⟩] at this
   cases this
  obtain ⟨b,hb,h⟩:=yX.1 hu
  have e:=key b hb h
  subst e
  exact ⟨hb,fun c hc=>by
   by_cases e:s=c
   ·exact .inl e
   ·exact .inr fun h=>e (key c hc h)⟩
 ·rintro ⟨hs,hm⟩
  refine ⟨hl s hs,yX.2 ⟨s,hs,gL s⟩,List.all_eq_true.2 fun x hx=>?_⟩
  cases h0:s.testBit x with
  | true=>rfl
  | false =>
   rw [Bool.false_or,Bool.not_eq_true',← Bool.not_eq_true]
   intro hu
   obtain ⟨b,hb,h⟩:=yX.1 hu
   have hsb:=mK (iB s x) h
   rcases hm b hb with e|e
   ·subst e
    have h1:=qAX h
    have h2:=aF h0
    omega
   ·exact e hsb
theorem mS (n:Nat) (l:List Nat):(wT n l).Pairwise (· < ·):=List.Pairwise.filter _ List.pairwise_lt_range
theorem dL:∀ {l m:List Nat},l.Pairwise (· < ·)→m.Pairwise (· < ·)→(∀ a,a∈l ↔ a∈m)→l=m
 | [],[],_,_,_=>rfl
 | [],b :: m,_,_,h=>by have:=(h b).2 (by simp);simp at this
 | a :: l,[],_,_,h=>by have:=(h a).1 (by simp);simp at this
 | a :: l,b :: m,hl,hm,h=>by
  have hl':=List.pairwise_cons.1 hl
  have hm':=List.pairwise_cons.1 hm
  have e:a=b:=by
   have h1:=(h a).1 (by simp)
   have h2:=(h b).2 (by simp)
   rcases List.mem_cons.1 h1 with h1|h1
   ·exact h1
   ·rcases List.mem_cons.1 h2 with h2|h2
    ·exact h2.symm
    ·have:=hl'.1 b h2
     have:=hm'.1 a h1
     omega
  subst e
  congr 1
  refine dL hl'.2 hm'.2 fun c=>?_
  constructor
  ·intro hc
   have:=hl'.1 c hc
   rcases List.mem_cons.1 ((h c).1 (List.mem_cons_of_mem _ hc)) with e|e
   ·omega
   ·exact e
  ·intro hc
   have:=hm'.1 c hc
   rcases List.mem_cons.1 ((h c).2 (List.mem_cons_of_mem _ hc)) with e|e
   ·omega
   ·exact e
theorem eq_maxOf {n:Nat} {l m:List Nat} (hl:∀ b∈l,b < 2 ^ n) (hs:m.Pairwise (· < ·)) (h:∀ a,a∈m ↔ a∈l∧mE l a):m=wT n l :=
 dL hs (mS n l) fun a=>(h a).trans (jK hl).symm
theorem fI {l m:List Nat} (h:∀ a,a∈l ↔ a∈m) (s:Nat):xV l s=xV m s:=by
 rw [Bool.eq_iff_iff,yX,yX]
 exact ⟨fun ⟨b,hb,hs⟩=>⟨b,(h b).1 hb,hs⟩,fun ⟨b,hb,hs⟩=>⟨b,(h b).2 hb,hs⟩⟩
theorem eC {n:Nat} {l m:List Nat} (h:∀ a,a∈l ↔ a∈m):wT n l=wT n m:=by
 unfold wT topB
 congr 1
 funext s
 rw [fI h]
 congr 1
 congr 1
 funext x
 rw [fI h]
theorem jM {n:Nat} {l:List Nat} (hl:∀ b∈l,b < 2 ^ n) {s:Nat} (h:s∈wT n l):s∈l:=((jK hl).1 h).1
theorem qBO {n:Nat} {l:List Nat} {s:Nat} (h:s∈wT n l):s < 2 ^ n:=by
 simp only [wT,List.mem_filter,List.mem_range] at h;exact h.1
theorem lV {n:Nat} {l:List Nat} (hl:∀ b∈l,b < 2 ^ n):∀ (d a:Nat),2 ^ n - a≤d→a∈l→∃ b∈wT n l,a &&& b=a:=by
 intro d
 induction d with
 | zero=>intro a hd ha;have:=hl a ha;omega
 | succ d ih =>
  intro a hd ha
  by_cases hm:mE l a
  ·exact ⟨a,(jK hl).2 ⟨ha,hm⟩,gL a⟩
  ·have:∃ c,c∈l∧a≠c∧a &&& c=a:=by
    apply Classical.byContradiction
    intro hno
    exact hm fun b hb=>by
     by_cases e:a=b
     ·exact .inl e
     ·exact .inr fun h=>hno ⟨b,hb,e,h⟩
   obtain ⟨c,hc,hne,hs⟩:=this
   have h1:=qAX hs
   obtain ⟨b,hb,h⟩:=ih c (by have:=hl a ha;have:=hl c hc;omega) hc
   exact ⟨b,hb,mK hs h⟩
theorem sS {n:Nat} {l:List Nat} (hl:∀ b∈l,b < 2 ^ n) (s:Nat):xV (wT n l) s=xV l s:=by
 rw [Bool.eq_iff_iff,yX,yX]
 constructor
 ·rintro ⟨b,hb,h⟩
  exact ⟨b,jM hl hb,h⟩
 ·rintro ⟨b,hb,h⟩
  obtain ⟨c,hc,h2⟩:=lV hl _ b (Nat.le_refl _) hb
  exact ⟨c,hc,mK h h2⟩
theorem aO {n:Nat} {l:List Nat} (hl:∀ b∈l,b < 2 ^ n):wT n (wT n l)=wT n l:=by
 have e:∀ s,xV (wT n l) s=xV l s:=sS hl
 unfold wT topB
 congr 1
 funext s
 have e':(fun s=>xV l s && (List.range n).all fun x=>s.testBit x || !xV l (s ||| 1 <<< x))=(fun s=>xV l s && topB n l s):=rfl
 rw [e']
 show (xV (wT n l) s && _)=_
 rw [e]
 congr 1
 congr 1
 funext x
 show (s.testBit x || !xV (wT n l) (s ||| 1 <<< x))=_
 rw [e]
def wV (n:Nat) (tb:Nat→Nat→Nat) (l:List Nat):List Nat:=l ++ l.flatMap fun a=>(l.map fun b=>zU n tb a b) ++ [yM n tb a]
def zV (n:Nat) (tb:Nat→Nat→Nat) (l:List Nat):List Nat:=wT n (wV n tb l)
theorem vK {n:Nat} {tb:Nat→Nat→Nat} {l:List Nat} {s:Nat} :
  s∈wV n tb l ↔ s∈l∨∃ a∈l,(∃ b∈l,zU n tb a b=s)∨yM n tb a=s:=by
 simp only [wV,List.mem_append,List.mem_flatMap,List.mem_map,List.mem_singleton]
 constructor
 ·rintro (h|⟨a,ha,h|h⟩)
  ·exact .inl h
  ·exact .inr ⟨a,ha,.inl h⟩
  ·exact .inr ⟨a,ha,.inr h.symm⟩
 ·rintro (h|⟨a,ha,h|h⟩)
  ·exact .inl h
  ·exact .inr ⟨a,ha,.inl h⟩
  ·exact .inr ⟨a,ha,.inr h.symm⟩
theorem vJ {n:Nat} {tb:Nat→Nat→Nat} (ht:Tb n tb) {l:List Nat} (hl:∀ b∈l,b < 2 ^ n):∀ b∈wV n tb l,b < 2 ^ n:=by
 intro s hs
 rcases vK.1 hs with h|⟨a,ha,⟨b,_,rfl⟩|rfl⟩
 ·exact hl s h
 ·exact wP ht.lt a b
 ·exact tR ht (hl a ha)
end Go.Proofs.YtdjhoadoiknaoaaDoor
namespace Go.Proofs.YtdjhoadoiknaoaaDoor
open Go.RowKit
def TabOk (w:World):Prop:=1 < w.heap.size∧∀ j,j < Lib.deBruijn64tab.length→w.cell? ⟨1,j,none⟩=some (.int .u8 (Lib.deBruijn64tab.getD j 0))
theorem TabOk.kept {w w':World} {row:Option Nat} (h:TabOk w) (hg:w.grownBy w' row) (hr:row≠some 1):TabOk w' :=
 ⟨Nat.lt_of_lt_of_le h.1 hg.size,fun j hj=>(World.cell?_of_block (hg.block _ h.1 (fun e=>hr e.symm))).trans (h.2 j hj)⟩
theorem TabOk.of_heap {w w':World} (h:TabOk w) (e:w'.heap=w.heap):TabOk w' :=
 ⟨by rw [e];exact h.1,fun j hj=>(World.cell?_of_block (by rw [e])).trans (h.2 j hj)⟩
theorem tz64_key (x a:Nat) (hx:x < 18446744073709551616) (hx0:x≠0) (hlow:x &&& (18446744073709551616 - x)=a) :
  IntKind.u64.wrap (bits BinOp.and IntKind.u64 (x:Int) (IntKind.u64.wrap (-(x:Int))) * 285870213051353865) / 288230376151711744=((a * 285870213051353865 % 18446744073709551616 / 288230376151711744:Nat):Int):=by
 have e1:IntKind.u64.wrap (-(x:Int))=((18446744073709551616 - x:Nat):Int):=by rw [IntKind.wrap_u64];omega
 rw [e1,bits_and_u64_nat x _ hx (by omega),hlow,IntKind.wrap_u64]
 omega
set_option maxHeartbeats 1000000 in
theorem tz64_core (x k idx:Nat) (w:World) (hx0:((x:Int) == 0)=false)
  (key:IntKind.u64.wrap (bits BinOp.and IntKind.u64 (x:Int) (IntKind.u64.wrap (-(x:Int))) * 285870213051353865) / 288230376151711744=(idx:Int))
  (hi:idx < 64) (hk:k < 64) (hcell:w.cell? ⟨1,idx,none⟩=some (.int .u8 k)) :
  Calls Tryd.prog 110 #[.int .u64 x] w fun e w'=>e=.returned (.int .i64 k)∧w=w':=by
 go_enter Tryd.func110,Tryd.ntmps110
 go_wp2_with (simp only [key])
 go_ret
 exact ⟨rfl,rfl⟩
theorem tz_any (x:Nat) (hx0:x≠0) (hx:x < 18446744073709551616) (w:World) (hT:TabOk w) :
  Calls Tryd.prog 88 #[.int .u64 x] w fun e w'=>e=.returned (.int .i64 (Lib.ctz 64 x:Nat))∧w=w':=by
 have c64:Hid (Calls Tryd.prog 110 #[.int .u64 x] w fun e w'=>e=.returned (.int .i64 (Lib.ctz 64 x:Nat))∧w=w'):=by
  obtain ⟨hlow,hk⟩:=Lib.lowest_bit 64 x hx0 hx
  obtain ⟨hi,htab⟩:=Lib.deBruijn64_at _ hk
  have hcell:=hT.2 _ hi
  rw [htab] at hcell
  exact tz64_core x _ _ w (by simp;omega) (tz64_key x _ hx hx0 hlow) hi hk hcell
 have hw:IntKind.u64.wrap (x:Int)=(x:Int):=by rw [IntKind.wrap_u64];omega
 clear hT
 go_enter Tryd.func88,Tryd.ntmps88
 go_wp2_with (go_at_call 110;refine c64.out.mono ?_;rintro e w' ⟨rfl,rfl⟩)
 go_ret
 exact ⟨rfl,rfl⟩
def low (x:Nat):Nat:=Lib.ctz 64 x
theorem bC {x:Nat} (h0:x≠0) (hx:x < 18446744073709551616):∃ m,x=2 ^ low x * (2 * m+1):=by
 obtain ⟨m,hm,_⟩:=Lib.ctzFrom_spec 64 x (by omega) hx
 exact ⟨m,by rw [low,Lib.ctz,if_neg h0];exact hm⟩
theorem qDD {k m:Nat}:2 ^ k * (2 * m+1) / 2 ^ k=2 * m+1:=Nat.mul_div_cancel_left _ (Nat.two_pow_pos k)
theorem qBU {k m:Nat}:(2 ^ k * (2 * m+1) - 1) / 2 ^ k=2 * m:=by
 have hp:=Nat.two_pow_pos k
 have e:2 ^ k * (2 * m+1) - 1=2 ^ k - 1+2 ^ k * (2 * m):=by rw [Nat.mul_add,Nat.mul_one];omega
 rw [e,Nat.add_mul_div_left _ _ hp,Nat.div_eq_of_lt (by omega)]
 omega
theorem qAP {x:Nat} (h0:x≠0) (hx:x < 18446744073709551616):x.testBit (low x)=true:=by
 obtain ⟨m,hm⟩:=bC h0 hx
 rw [Nat.testBit_eq_decide_div_mod_eq,decide_eq_true_eq]
 have:x / 2 ^ low x=2 * m+1:=by
  conv=>lhs;lhs;rw [hm]
  exact qDD
 omega
theorem low_least {x z:Nat} (h0:x≠0) (hx:x < 18446744073709551616) (hz:z < low x):x.testBit z=false:=by
 obtain ⟨m,hm⟩:=bC h0 hx
 rw [hm,Nat.testBit_two_pow_mul]
 simp;omega
def rest (x:Nat):Nat:=x &&& (x - 1)
theorem gQ {x:Nat} (h0:x≠0) (hx:x < 18446744073709551616) (z:Nat):(rest x).testBit z=(x.testBit z && decide (z≠low x)):=by
 obtain ⟨m,hm⟩:=bC h0 hx
 rw [rest,Nat.testBit_and]
 rcases Nat.lt_trichotomy z (low x) with h|h|h
 ·rw [low_least h0 hx h];simp
 ·subst h
  have:(x - 1).testBit (low x)=false:=by
   rw [Nat.testBit_eq_decide_div_mod_eq,decide_eq_false_iff_not]
   have:(x - 1) / 2 ^ low x=2 * m:=by
    conv=>lhs;lhs;rw [hm]
    exact qBU
   omega
  rw [this];simp
 ·obtain ⟨j,rfl⟩:∃ j,z=low x+1+j:=⟨z - low x - 1,by omega⟩
  have e:(x - 1).testBit (low x+1+j)=x.testBit (low x+1+j):=by
   rw [Nat.testBit_eq_decide_div_mod_eq,Nat.testBit_eq_decide_div_mod_eq]
   have d1:x / 2 ^ (low x+1+j)=m / 2 ^ j:=by
    rw [Nat.add_assoc,Nat.pow_add,← Nat.div_div_eq_div_mul]
    conv=>lhs;lhs;lhs;rw [hm]
    rw [qDD,Nat.pow_add,← Nat.div_div_eq_div_mul]
    congr 1;omega
   have d2:(x - 1) / 2 ^ (low x+1+j)=m / 2 ^ j:=by
    rw [Nat.add_assoc,Nat.pow_add,← Nat.div_div_eq_div_mul]
    conv=>lhs;lhs;lhs;rw [hm]
    rw [qBU,Nat.pow_add,← Nat.div_div_eq_div_mul]
    congr 1;omega
   rw [d1,d2]
  rw [e,Bool.and_self]
  have:low x+1+j≠low x:=by omega
  simp [this]
theorem qCR {x:Nat} (h0:x≠0):rest x < x:=by
 have:rest x≤x - 1:=Nat.and_le_right
 omega
theorem qDB {x n:Nat} (h0:x≠0) (hx:x < 2 ^ n) (hn:n≤64):low x < n:=by
 have h64:x < 18446744073709551616:=Nat.lt_of_lt_of_le hx (Nat.pow_le_pow_right (by omega) hn)
 rcases Nat.lt_or_ge (low x) n with h|h
 ·exact h
 ·have:=qAP h0 h64
  rw [iU hx h] at this;cases this
theorem jJ (a:Nat) (ha:a < 9223372036854775808):(BitVec.ofInt 64 (a:Int)).toNat=a:=by
 rw [BitVec.ofInt_natCast,BitVec.toNat_ofNat];exact Nat.mod_eq_of_lt (by omega)
theorem tS (a b:Nat) (ha:a < 9223372036854775808) (hb:b < 9223372036854775808):bits .and .i64 (a:Int) (b:Int)=((a &&& b:Nat):Int):=by
 have hx:a &&& b < 2 ^ 63:=Nat.and_lt_two_pow _ (by omega)
 show IntKind.i64.wrap ((BitVec.ofInt 64 (a:Int) &&& BitVec.ofInt 64 (b:Int)).toNat:Int)=_
 rw [BitVec.toNat_and,jJ a ha,jJ b hb,IntKind.wrap_i64]
 omega
theorem rG (a b:Nat) (ha:a < 9223372036854775808) (hb:b < 9223372036854775808):bits .or .i64 (a:Int) (b:Int)=((a ||| b:Nat):Int):=by
 have hx:a ||| b < 2 ^ 63:=Nat.or_lt_two_pow (by omega) (by omega)
 show IntKind.i64.wrap ((BitVec.ofInt 64 (a:Int) ||| BitVec.ofInt 64 (b:Int)).toNat:Int)=_
 rw [BitVec.toNat_or,jJ a ha,jJ b hb,IntKind.wrap_i64]
 omega
end Go.Proofs.YtdjhoadoiknaoaaDoor
