/- Part 10 of the proof: Guard, Many, Many2, Inv2. -/
import Derived.Test.YtjfdomfendbhfaaQe9
import Derived.OrdersHeld
import Derived.Deep.RegionHeld3
set_option linter.unusedVariables false
set_option linter.unusedSimpArgs false
namespace Go.Proofs.Ytjfdomfendbhfaa
open Go.RowKit
section
variable {P:Program} {md:Region.Mode} {ops:Array Oper} {Q:Exit->Act->World->Prop}
def tG (P:Program) (md:Region.Mode) (ops:Array Oper) (Q:Exit->Act->World->Prop) (G:Array Bool->World->Prop):Nat->Array Bool->Act->World->Prop
 | 0,listed,a,w=>Region.ready md ops listed=[]/\Q .normal a w
 | fuel+1,listed,a,w =>
  (Region.ready md ops listed=[]->Q .normal a w) /\
  ∀ i∈Region.ready md ops listed,wpOp P ops Q i (fun a' w'=>G (listed.setIfInBounds i true) w'/\tG P md ops Q G fuel (listed.setIfInBounds i true) a' w') a w
variable {G:Array Bool->World->Prop}
theorem iD:∀ (fuel:Nat) (listed:Array Bool) (a:Act) (w:World),tG P md ops Q G fuel listed a w->wpAny P md ops Q fuel listed a w
 | 0,_,_,_,h=>h
 | fuel+1,_,_,_,h=>⟨h.1,fun i hi=>wpOp_mono (fun a' w' h'=>iD fuel _ a' w' h'.2) (h.2 i hi)⟩
theorem mX {S:World->Prop} {U:Array Bool->Prop} {i:Nat} {oi:Oper} {v:Value} (hi:ops[i]?=some oi) (hsel:∀ (j:Nat) (o:Oper) cs b,ops[j]?=some o->o.op≠.select cs b)
  (hQ:∀ c a w,Q (.panic c) (a.put oi.dst v) w->Q (.panic c) a w)
  (hU:∀ listed j,U listed->i∈Region.ready md ops listed->j∈Region.ready md ops listed->j≠i->U (listed.setIfInBounds j true))
  (hG:∀ listed w,U listed->G listed w->S w) (hGi:∀ listed w,U listed->i∈Region.ready md ops listed->G listed w->G (listed.setIfInBounds i true) w)
  (hGj:∀ listed j w,U listed->i∈Region.ready md ops listed->j∈Region.ready md ops listed->j≠i->G ((listed.setIfInBounds i true).setIfInBounds j true) w->G (listed.setIfInBounds j true) w) :
  ∀ (fuel:Nat) (listed:Array Bool) (a:Act) (w:World),
   (∀ j oj,ops[j]?=some oj->j≠i->listed.getD j true=false->(∀ e∈oj.after,Region.binds md e=true->e.on≠i)->oi.apart ops oj=true) ->
   i∈Region.ready md ops listed->U listed->YieldsIf P ops S oi v a->G listed w ->
   tG P md ops Q G fuel (listed.setIfInBounds i true) (a.put oi.dst v) w->tG P md ops Q G (fuel+1) listed a w:=by
 intro fuel
 induction fuel with
 | zero =>
  intro listed a w _ hr hu hy hS H
  refine⟨fun h=>(by rw[h]at hr;cases hr),fun j hj=>?_⟩
  by_cases hji:j=i
  ·subst hji;exact hy.wpOp hi (hG _ _ hu hS) ⟨hGi _ _ hu hr hS,H⟩
  ·have:=ready_mono hj hji
   rw[H.1]at this
   cases this
 | succ fuel ih =>
  intro listed a w h4 hr hu hy hS H
  refine⟨fun h=>(by rw[h]at hr;cases hr),fun j hj=>?_⟩
  by_cases hji:j=i
  ·subst hji;exact hy.wpOp hi (hG _ _ hu hS) ⟨hGi _ _ hu hr hS,H⟩
  ·have h1:=H.2 j (ready_mono hj hji)
   obtain⟨h6,oj,h7,h9⟩:=mem_ready.1 hj
   have h8:∀ e∈oj.after,Region.binds md e=true->e.on≠i:=fun e he hb heq=>by
    have h1:=h9 e he hb
    have h0:=(mem_ready.1 hr).1
    rw[heq]at h1
    rcases Nat.lt_or_ge i listed.size with h'|h'
    ·simp[h']at h0 h1;rw[h0]at h1;cases h1
    ·simp[Array.getElem?_eq_none h']at h1
   have h2:=wpOp_putIf h7 (h4 j oj h7 hji h6 h8) (fun cs b=>hsel i oi cs b hi) (fun cs b=>hsel j oj cs b h7) hQ hy h1
   have h5:∀ k ok,ops[k]?=some ok->k≠i->(listed.setIfInBounds j true).getD k true=false ->
     (∀ e∈ok.after,Region.binds md e=true->e.on≠i)->oi.apart ops ok=true:=fun k ok hk hki hun hno=>by
    refine h4 k ok hk hki ?_ hno
    by_cases hjk:j=k
    ·subst hjk;exact h6
    ·rw[Go.getD_set_ne true hjk]at hun;exact hun
   have H1:=hU listed j hu hr hj hji
   refine wpOp_mono (fun a' w' h3=>?_) h2
   have H0:=hGj listed j w' hu hr hj hji h3.2.1
   refine⟨H0,ih (listed.setIfInBounds j true) a' w' h5 (ready_mono hr (Ne.symm hji)) H1 h3.1 H0 ?_⟩
   rw[Array.setIfInBounds_comm _ _ hji]
   exact h3.2.2
def uZ (s:Nat) (A B:World->Prop) (listed:Array Bool) (w:World):Prop:=A w/\(listed.getD s true=false->B w)
theorem nR {l:Array Bool} {i:Nat}:(l.setIfInBounds i true).getD i true=true:=by
 rcases Nat.lt_or_ge i l.size with h|h
 ·simp[h]
 ·simp[h]
theorem eP {s j:Nat} {A B:World->Prop} {listed:Array Bool} {w:World} (h:uZ s A B listed w):uZ s A B (listed.setIfInBounds j true) w:=by
 refine⟨h.1,fun hs=>h.2 ?_⟩
 by_cases e:j=s
 ·subst e;rw[nR]at hs;cases hs
 ·rwa [Go.getD_set_ne true e]at hs
theorem kI {s i j:Nat} {A B:World->Prop} {listed:Array Bool} {w:World} (hne:i≠s) (h:uZ s A B ((listed.setIfInBounds i true).setIfInBounds j true) w):uZ s A B (listed.setIfInBounds j true) w:=by
 refine⟨h.1,fun hs=>h.2 ?_⟩
 by_cases e:j=s
 ·subst e;rw[nR]at hs;cases hs
 ·rw[Go.getD_set_ne true e]at hs ⊢
  rwa [Go.getD_set_ne true hne]
variable {s:Nat} {A B:World->Prop}
theorem lS {i:Nat} {oi:Oper} {v:Value} {fuel:Nat} {listed:Array Bool} {a:Act} {w:World} (hi:ops[i]?=some oi) (hne:(i == s)=false)
  (hs:Region.noSelect ops=true) (hf:Region.free md ops listed i=true) (hr:(Region.ready md ops listed).contains i=true)
  (hQ:∀ c a w,Q (.panic c) (a.put oi.dst v) w->Q (.panic c) a w) (hy:YieldsIf P ops A oi v a) (hG:uZ s A B listed w)
  (h:tG P md ops Q (uZ s A B) fuel (listed.setIfInBounds i true) (a.put oi.dst v) w):tG P md ops Q (uZ s A B) (fuel+1) listed a w :=
 mX (S:=A) (U:=fun _=>True) hi (Region.noSelect_spec hs) hQ (fun _ _ _ _ _ _=>trivial) (fun _ _ _ h=>h.1) (fun _ _ _ _ h=>eP h)
  (fun _ _ _ _ _ _ _ h=>kI (by simpa using hne) h) fuel listed a w (Region.free_spec hi hf) (by simpa using hr) trivial hy hG h
theorem uB {i:Nat} {oi:Oper} {v:Value} {fuel:Nat} {listed:Array Bool} {a:Act} {w:World} (hi:ops[i]?=some oi) (hne:(i == s)=false)
  (hw:(match ops[s]? with|some os=>os.after.any fun e=>Region.binds md e && (e.on == i)|none=>false)=true) (hun:listed.getD s true=false)
  (hs:Region.noSelect ops=true) (hf:Region.free md ops listed i=true) (hr:(Region.ready md ops listed).contains i=true)
  (hQ:∀ c a w,Q (.panic c) (a.put oi.dst v) w->Q (.panic c) a w) (hy:YieldsIf P ops (fun w=>A w/\B w) oi v a) (hG:uZ s A B listed w)
  (h:tG P md ops Q (uZ s A B) fuel (listed.setIfInBounds i true) (a.put oi.dst v) w):tG P md ops Q (uZ s A B) (fuel+1) listed a w:=by
 refine mX (S:=fun w=>A w/\B w) (U:=fun l=>l.getD s true=false) hi (Region.noSelect_spec hs) hQ (fun l j hu hir hj hji=>?_) (fun l w hu h=>⟨h.1,h.2 hu⟩) (fun _ _ _ _ h=>eP h)
  (fun _ _ _ _ _ _ _ h=>kI (by simpa using hne) h) fuel listed a w (Region.free_spec hi hf) (by simpa using hr) hun hy hG h
 by_cases e:j=s
 ·subst e
  exfalso
  obtain⟨h4,oj,h3,h2⟩:=mem_ready.1 hj
  rw[h3]at hw
  simp only[Array.any_eq_true,Bool.and_eq_true,beq_iff_eq]at hw
  obtain⟨k,hk,hb,he⟩:=hw
  have h1:=h2 _ (Array.getElem_mem hk) hb
  have h0:=(mem_ready.1 hir).1
  rw[he]at h1
  rcases Nat.lt_or_ge i l.size with h'|h'
  ·simp[h']at h0 h1;rw[h0]at h1;cases h1
  ·simp[Array.getElem?_eq_none h']at h1
 ·rw[Go.getD_set_ne true e];exact hu
theorem jI {listed:Array Bool} {a:Act} {w:World} (hr:Region.ready md ops listed=[]) (h:Q .normal a w):∀ fuel,tG P md ops Q G fuel listed a w
 | 0=>⟨hr,h⟩
 | _+1=>⟨fun _=>h,by rw[hr];simp⟩
theorem oneG {i:Nat} {o:Oper} {fuel:Nat} {listed:Array Bool} {a:Act} {w:World} (hr:Region.ready md ops listed=[i]) (ho:ops[i]?=some o)
  (h:∀ K':Act->World->Prop,Shut (∀ a w,G (listed.setIfInBounds i true) w->tG P md ops Q G fuel (listed.setIfInBounds i true) a w->K' a w)->if Region.wanted o (yielded ops a.tmps)=true then Oper.wp P o a w K' Q else K' (a.put o.dst undef) w) :
  tG P md ops Q G (fuel+1) listed a w:=by
 refine⟨fun h0=>(by rw[hr]at h0;cases h0),fun j hj=>?_⟩
 rw[hr]at hj
 have:j=i:=by simpa using hj
 subst this
 exact wpOp_step ho (fun K' hK=>h K' (fun a w hG hW=>hK a w ⟨hG,hW⟩))
theorem wN {id:Nat} {a:Act} {w:World} (hm:P.follows .mixedOrders=true)
  (h:tG P .any ops Q G ops.size (Array.replicate ops.size false) a w.drew):(Code.region id ops true).wp P Q a w :=
 wp_region_any hm (iD _ _ _ _ h)
end
theorem takeC {P:Program} {md:Region.Mode} {ops:Array Oper} {Q:Exit→Act→World→Prop} {s:Nat} {A B:World→Prop} {i:Nat} {oi:Oper} {v:Value} {fuel:Nat} {listed:Array Bool} {a:Act} {w:World} (hi:ops[i]?=some oi) (hne:(i == s)=false) (hy:YieldsIf P ops A oi v a) (hG:uZ s A B listed w)
    (h:tG P md ops Q (uZ s A B) fuel (listed.setIfInBounds i true) (a.put oi.dst v) w)
    (hs:Region.noSelect ops=true:=by kernel_rfl) (hf:Region.free md ops listed i=true:=by kernel_rfl) (hr:(Region.ready md ops listed).contains i=true:=by kernel_rfl)
    (hQ:∀ c a w,Q (.panic c) (a.put oi.dst v) w→Q (.panic c) a w:=by exact fun _ _ _ h=>h):tG P md ops Q (uZ s A B) (fuel+1) listed a w:=lS hi hne hs hf hr hQ hy hG h
theorem takeD {P:Program} {md:Region.Mode} {ops:Array Oper} {Q:Exit→Act→World→Prop} {s:Nat} {A B:World→Prop} {i:Nat} {oi:Oper} {v:Value} {fuel:Nat} {listed:Array Bool} {a:Act} {w:World} (hi:ops[i]?=some oi) (hne:(i == s)=false) (hy:YieldsIf P ops (fun w=>A w∧B w) oi v a) (hG:uZ s A B listed w)
    (h:tG P md ops Q (uZ s A B) fuel (listed.setIfInBounds i true) (a.put oi.dst v) w)
    (hw:(match ops[s]? with|some os=>os.after.any fun e=>Region.binds md e && (e.on == i)|none=>false)=true:=by kernel_rfl) (hun:listed.getD s true=false:=by rfl)
    (hs:Region.noSelect ops=true:=by kernel_rfl) (hf:Region.free md ops listed i=true:=by kernel_rfl) (hr:(Region.ready md ops listed).contains i=true:=by kernel_rfl)
    (hQ:∀ c a w,Q (.panic c) (a.put oi.dst v) w→Q (.panic c) a w:=by exact fun _ _ _ h=>h):tG P md ops Q (uZ s A B) (fuel+1) listed a w:=uB hi hne hw hun hs hf hr hQ hy hG h
structure ElemN (P:Program) (t e:TypeId) (sz:Nat) (z:Value) (bytes:Nat):Prop where
 ht:P.underlying t=some (.slice e)
 hi:(P.info? e).map (fun i=>(i.zero,i.size,i.bytes))=some (some z,sz,bytes)
 hz:z.cells.size=sz
 pos:0 < sz
theorem ElemOk.toN {P:Program} {t e:TypeId} {z:Value} {bytes:Nat} (E:ElemOk P t e z bytes):ElemN P t e 1 z bytes:=⟨E.ht,E.hi,E.hz,by decide⟩
structure RowS where
 base:Nat
 e:TypeId
 v:Value
 n:Nat
 xs:List Value
 sz:Nat
structure GrownBut (w w':World) (F:Nat->Prop):Prop where
 os:w'.os=w.os
 tape:w'.tape=w.tape
 output:w'.output=w.output
 size:w.heap.size<=w'.heap.size
 block:∀ k,k < w.heap.size->¬ F k->w'.heap[k]?=w.heap[k]?
theorem GrownBut.refl (w:World) (F:Nat->Prop):GrownBut w w F:=⟨rfl,rfl,rfl,Nat.le_refl _,fun _ _ _=>rfl⟩
theorem GrownBut.step {w w' w'' : World} {F : Nat → Prop} {row : Option Nat} (h : GrownBut w w' F) (hg : w'.grownBy w'' row) (hr : ∀ k, row = some k → F k ∨ w.heap.size ≤ k) : GrownBut w w'' F :=
 ⟨hg.os.trans h.os, hg.tape.trans h.tape, hg.output.trans h.output, Nat.le_trans h.size hg.size, fun k hk hf => by
  refine (hg.block k (Nat.lt_of_lt_of_le hk h.size) fun e => ?_).trans (h.block k hk hf)
  rcases hr k e.symm with h | h
  ·exact hf h
  ·omega⟩
theorem GrownBut.grown {w0 w w' : World} {F : Nat → Prop} {row : Option Nat} (h : GrownBut w w' F) (h0 : w0.grownBy w row) (hF : ∀ k, F k → row = some k ∨ w0.heap.size ≤ k) : w0.grownBy w' row :=
 ⟨h.os.trans h0.os, h.tape.trans h0.tape, h.output.trans h0.output, Nat.le_trans h0.size h.size, fun k hk hne => by
  refine (h.block k (Nat.lt_of_lt_of_le hk h0.size) fun hf => ?_).trans (h0.block k hk hne)
  rcases hF k hf with e | e
  ·exact hne e.symm
  ·omega⟩
theorem GrownBut.cell {w w':World} {F:Nat->Prop} (h:GrownBut w w' F) {p:Addr} {u:Value} (hc:w.cell? p=some u) (hf:¬ F p.block):w'.cell? p=some u :=
 (World.cell?_of_block (h.block p.block (World.block_lt_of_cell? w p hc) hf)).trans hc
theorem GrownBut.heap {w w':World} {F:Nat->Prop} (h:GrownBut w w' F) {p:Nat} {o:Obj} (hc:w.heap[p]?=some o) (hf:¬ F p):w'.heap[p]?=some o :=
 (h.block p (zH hc) hf).trans hc
structure Many (w0:World) (F:Nat->Prop) (W:World) (rs:List RowS) (ls:List (Nat × Obj)) (ps:List (Nat × TypeId × List Value)):Prop where
 own:∀ (j:Nat) (r:RowS),rs[j]?=some r->W.ownsRow r.base r.e r.sz r.v r.n r.xs
 mine:∀ (j:Nat) (r:RowS),rs[j]?=some r->∀ k,r.v.ownBlock=some k->F k\/w0.heap.size<=k
 apart:∀ (i j:Nat) (r s:RowS),i≠j->rs[i]?=some r->rs[j]?=some s->∀ k,r.v.ownBlock=some k->s.v.ownBlock≠some k
 lit:∀ p∈ls,W.heap[p.1]?=some p.2/\(∀ (j:Nat) (r:RowS),rs[j]?=some r->r.v.ownBlock≠some p.1)/\w0.heap.size<=p.1
 pre:∀ p∈ps,Arr W p.1 p.2.1 p.2.2/\∀ (j:Nat) (r:RowS),rs[j]?=some r->r.v.ownBlock=some p.1->p.2.2 <+: r.xs/\r.e=p.2.1/\r.sz=1
 but:GrownBut w0 W F
section
variable {w0 W:World} {F:Nat->Prop} {rs:List RowS} {ls:List (Nat × Obj)} {ps:List (Nat × TypeId × List Value)}
theorem qAV {w:World} {base e n sz:Nat} {v:Value} {xs:List Value} (h:w.ownsRow base e sz v n xs) {k:Nat} (hk:v.ownBlock=some k):k < w.heap.size:=(h.lt k hk).2
theorem zQ {w w':World} {base e sz:Nat} {v:Value} {n:Nat} {xs:List Value} (h:w.ownsRow base e sz v n xs) (hg:w.grownBy w' none):w'.ownsRow base e sz v n xs:=by
 refine h.kept hg ?_
 rcases hv:v.ownBlock with _|k
 ·exact .inl rfl
 ·exact .inr (by simp)
theorem Many.grow {W':World} (h:Many w0 F W rs ls ps) (hg:W.grownBy W' none):Many w0 F W' rs ls ps where
 own:=fun j r hr=>zQ (h.own j r hr) hg
 mine:=h.mine
 apart:=h.apart
 lit:=fun p hp=>⟨zA (h.lit p hp).1 hg (by simp),(h.lit p hp).2⟩
 pre:=fun p hp=>⟨(h.pre p hp).1.kept hg (by simp),(h.pre p hp).2⟩
 but:=h.but.step hg (by simp)
theorem Many.drew (h:Many w0 F W rs ls ps):Many w0 F W.drew rs ls ps:=h.grow (zL W none)
theorem Many.alloc (h:Many w0 F W rs ls ps) (o:Obj):Many w0 F (W.alloc o) rs ((W.heap.size,o) :: ls) ps where
 own:=fun j r hr=>(h.own j r hr).alloc o
 mine:=h.mine
 apart:=h.apart
 lit:=fun p hp=>by
  rcases List.mem_cons.1 hp with rfl|hp
  ·exact⟨heap_alloc_new W o,fun j r hr e=>(by have:=qAV (h.own j r hr) e;simp only at this;omega),h.but.size⟩
  ·exact⟨zA (h.lit p hp).1 (Ga W o none) (by simp),(h.lit p hp).2⟩
 pre:=fun p hp=>⟨(h.pre p hp).1.kept (Ga W o none) (by simp),(h.pre p hp).2⟩
 but:=h.but.step (Ga W o none) (by simp)
theorem kS {α:Type} {l:List α} {j i:Nat} {x r:α} (h:(l.set j x)[i]?=some r):(i=j/\r=x/\j < l.length)\/(i≠j/\l[i]?=some r):=by
 by_cases e:i=j
 ·subst e
  left
  rw[List.getElem?_set]at h
  simp only[if_true]at h
  split at h
  ·exact⟨rfl,(Oj h).symm,by assumption⟩
  ·cases h
 ·exact .inr ⟨e,by rwa [List.getElem?_set_ne (Ne.symm e)]at h⟩
theorem Many.append {W':World} (h:Many w0 F W rs ls ps) {j:Nat} {r:RowS} (hr:rs[j]?=some r) {v':Value} {n':Nat} {us:List Value}
  (ho:W'.ownsRow r.base r.e r.sz v' n' (r.xs ++ us)) (hg:W.grownBy W' r.v.ownBlock) (hm:mA W W' r.v v'):Many w0 F W' (rs.set j ⟨r.base,r.e,v',n',r.xs ++ us,r.sz⟩) ls ps where
 own:=fun i s hs=>by
  rcases kS hs with ⟨rfl,rfl,_⟩|⟨hne,hs⟩
  ·exact ho
  ·refine(h.own i s hs).kept hg ?_
   rcases hb:s.v.ownBlock with _|k
   ·exact .inl rfl
   ·exact .inr fun e=>h.apart i j s r hne hs hr k hb (by rw[<- e])
 mine:=fun i s hs k hk=>by
  rcases kS hs with ⟨rfl,rfl,_⟩|⟨hne,hs⟩
  ·rcases hm with hm|⟨_,hm⟩
   ·exact h.mine i r hr k (hm ▸ hk)
   ·have:=hm k hk
    have:=h.but.size
    exact .inr (by omega)
  ·exact h.mine i s hs k hk
 apart:=fun i i' s s' hne hs hs' k hk=>by
  rcases kS hs with ⟨rfl,rfl,_⟩|⟨h1,hs2⟩
  ·rcases kS hs' with ⟨rfl,_,_⟩|⟨h2,hs'⟩
   ·exact absurd rfl hne
   ·rcases hm with hm|⟨_,hm⟩
    ·exact h.apart i i' r s' hne hr hs' k (hm ▸ hk)
    ·intro e
     have h3:=hm k hk
     have h4:=qAV (h.own i' s' hs') e
     omega
  ·rcases kS hs' with ⟨rfl,rfl,_⟩|⟨h2,hs'⟩
   ·rcases hm with hm|⟨_,hm⟩
    ·exact fun e=>h.apart i i' s r hne hs2 hr k hk (by rw[<- hm];exact e)
    ·intro e
     have h3:=hm k e
     have h4:=qAV (h.own i s hs2) hk
     omega
   ·exact h.apart i i' s s' hne hs2 hs' k hk
 lit:=fun p hp=>by
  obtain⟨h1,h2,hlow⟩:=h.lit p hp
  refine⟨zA h1 hg (h2 j r hr),fun i s hs e=>?_,hlow⟩
  rcases kS hs with ⟨rfl,rfl,_⟩|⟨hne,hs⟩
  ·rcases hm with hm|⟨_,hm⟩
   ·exact h2 i r hr (hm ▸ e)
   ·have h3:=hm _ e
    have h4:=zH h1
    omega
  ·exact h2 i s hs e
 pre:=fun p hp=>by
  obtain⟨h1,h2⟩:=h.pre p hp
  have harr:Arr W' p.1 p.2.1 p.2.2:=by
   by_cases e:r.v.ownBlock=some p.1
   ·rcases hm with hm|⟨hm,_⟩
    ·obtain⟨h3,h4,h5⟩:=h2 j r hr e
     rw[h5]at ho
     rcases ho.2 with ⟨hv,_⟩|⟨g,cap,cur,hv,_⟩
     ·rw[hv]at hm;rw[e]at hm;simp[Value.ownBlock]at hm
     ·subst hv
      have h0:g=p.1:=by rw[e]at hm;simpa [Value.ownBlock] using hm
      subst h0
      have ha:=Arr.of_owns ho
      rw[h4]at ha
      obtain⟨q,hq⟩:=h3
      rw[<- hq,List.append_assoc]at ha
      exact ha.front
    ·exact h1.kept hm (by simp)
   ·exact h1.kept hg e
  refine⟨harr,fun i s hs e=>?_⟩
  rcases kS hs with ⟨rfl,rfl,_⟩|⟨hne,hs⟩
  ·rcases hm with hm|⟨_,hm⟩
   ·obtain⟨h3,h4,h5⟩:=h2 i r hr (hm ▸ e)
    exact⟨h3.trans (List.prefix_append _ _),h4,h5⟩
   ·have h3:=hm _ e
    have h4:=h1.lt
    omega
  ·exact h2 i s hs e
 but:=h.but.step hg (h.mine j r hr)
end
theorem Many.two {w:World} {r s:RowS} (hr:w.ownsRow r.base r.e r.sz r.v r.n r.xs) (hs:w.ownsRow s.base s.e s.sz s.v s.n s.xs) (hne:∀ k,r.v.ownBlock=some k->s.v.ownBlock≠some k) :
  Many w (fun k=>r.v.ownBlock=some k\/s.v.ownBlock=some k) w [r,s] [] [] where
 own:=fun j x hx=>by
  match j,hx with
  | 0,hx=>simp at hx;subst hx;exact hr
  | 1,hx=>simp at hx;subst hx;exact hs
 mine:=fun j x hx k hk=>by
  match j,hx with
  | 0,hx=>simp at hx;subst hx;exact .inl (.inl hk)
  | 1,hx=>simp at hx;subst hx;exact .inl (.inr hk)
 apart:=fun i j x y hij hx hy k hk=>by
  match i,j,hij,hx,hy with
  | 0,1,_,hx,hy=>simp at hx hy;subst hx;subst hy;exact hne k hk
  | 1,0,_,hx,hy=>simp at hx hy;subst hx;subst hy;exact fun e=>hne k e hk
  | 0,0,h,_,_=>exact absurd rfl h
  | 1,1,h,_,_=>exact absurd rfl h
 lit:=fun p hp=>by simp at hp
 pre:=fun p hp=>by simp at hp
 but:=GrownBut.refl _ _
def qBZ (w:World) (sz:Nat) (sv:Value) (m:Nat) (news:List Value):Prop :=
 (∃ a cap,sv=.slice a 0 cap/\m=0/\news=[])\/∃ b off cap,sv=.slice (some ⟨b,off,none⟩) m cap/\news.length=m * sz/\m<=maxLen/\∀ j u,news[j]?=some u->w.cell? ⟨b,off+j,none⟩=some u
theorem Row.src {B:Nat} {w:World} {v:Value} {xs:List Value} (h:Row B w v xs):qBZ w 1 v xs.length xs:=by
 rcases h with ⟨a,cap,rfl,rfl⟩|⟨b,off,cap,rfl,_,h2,h3,hra⟩
 ·exact .inl ⟨a,cap,rfl,rfl,rfl⟩
 ·refine .inr ⟨b,off,cap,rfl,by omega,by omega,fun j u hj=>?_⟩
  have h0:j < xs.length:=by
   rcases Nat.lt_or_ge j xs.length with h|h
   ·exact h
   ·rw[List.getElem?_eq_none h]at hj;cases hj
  rw[List.getElem?_eq_getElem h0]at hj
  rw[hra.2 j h0,hj]
theorem run_append_movedR {P:Program} {w:World} (base:Nat) (t ty:TypeId) {e:TypeId} {sz:Nat} {z:Value} {bytes:Nat} (E:ElemN P t e sz z bytes)
  (v:Value) (n:Nat) (xs:List Value) (hown:w.ownsRow base e sz v n xs) (sv:Value) (m:Nat) (news:List Value) (hrow:qBZ w sz sv m news) (h1:∀ u∈news,u.oneCell'=true)
  (h63:n+m<=maxLen) (hbytes:(n+m) * bytes<=140737488355328) (hbase:base<=w.heap.size) :
  ∃ v' w',(Builtin.append_ #[t,t] ty #[v,sv]).run P w=.ok v' w'/\w'.ownsRow base e sz v' (n+m) (xs ++ news)/\w.grownBy w' v.ownBlock/\mA w w' v v':=by
 obtain⟨i,hi,hz,h5,H0⟩:=info_parts E.hi
 have h7:=E.pos
 have H1:n+m<=9223372036854775807:=by simp only[maxLen]at h63;omega
 have H2:∀ (b off j:Nat),(⟨b,off,none⟩:Addr).add j=⟨b,off+j,none⟩:=fun b off j=>by unfold Addr.add;split <;> simp_all
 have stay:∀ (a':Addr) (cap:Nat),m=0->news=[]->∃ v' w',(Builtin.append_ #[t,t] ty #[v,.slice (some a') 0 cap]).run P w=.ok v' w'/\w'.ownsRow base e sz v' (n+m) (xs ++ news)/\w.grownBy w' v.ownBlock/\mA w w' v v':=by
  intro a' cap h9 hn
  subst hn
  subst h9
  obtain⟨v',w',hr,h2,h3,h4⟩:=run_append_own (P:=P) w base t ty e i z sz bytes E.ht hi hz h5 H0 E.hz h7 v n xs hown a' 0 cap [] (by simp) (fun j u hj=>by simp at hj) (fun u hu=>by simp at hu) (by simpa using h63) (by simpa using hbytes) hbase
  refine⟨v',w',hr,h2,h3,?_⟩
  rcases hown.2 with ⟨rfl,rfl⟩|⟨b,bc,cur,rfl,hb,hg,hnc,hcm,hcs,htake⟩
  ·have:=h4.2 ⟨rfl,rfl⟩
   subst this
   exact .inl rfl
  ·obtain⟨w2,h6,_⟩:=run_append_fits (P:=P) w base t ty e i sz E.ht hi h5 b n bc xs hown a' 0 cap [] (by simp) (fun j u hj=>by simp at hj) (fun u hu=>by simp at hu) (by omega)
   rw[h6]at hr
   injection hr with e1 e2
   subst e1
   exact .inl rfl
 rcases hrow with ⟨a',cap,rfl,rfl,rfl⟩|⟨b,off,cap,rfl,hnl,hml,hra⟩
 ·cases a' with
  | none =>
   have hr:(Builtin.append_ #[t,t] ty #[v,.slice none 0 cap]).run P w=.ok v w:=by
    rcases hown.2 with ⟨rfl,rfl⟩|⟨g,gc,cur,rfl,_,_,hnc,_⟩
    ·simp[Builtin.append_,run_underlying E.ht,sizeOf,typeInfo,hi,Builtin.lenOf,Builtin.firstCells]
    ·simp[Builtin.append_,run_underlying E.ht,sizeOf,typeInfo,hi,Builtin.lenOf,Builtin.firstCells,hnc,storeCells]
   exact⟨v,w,hr,by simpa using hown,zN _ _,.inl rfl⟩
  | some a'=>exact stay a' cap rfl rfl
 ·by_cases h9:m=0
  ·have H3:news=[]:=List.eq_nil_of_length_eq_zero (by rw[hnl,h9];simp)
   subst h9
   exact stay _ _ rfl H3
  have h0:∀ j u',news[j]?=some u'->w.cell? ((⟨b,off,none⟩:Addr).add j)=some u':=fun j u' hj=>by rw[H2];exact hra j u' hj
  obtain⟨v',w',hr,H6,H5,_⟩:=run_append_own (P:=P) w base t ty e i z sz bytes E.ht hi hz h5 H0 E.hz h7 v n xs hown ⟨b,off,none⟩ m cap news hnl h0 h1 h63 hbytes hbase
  refine⟨v',w',hr,H6,H5,?_⟩
  rcases hown.2 with ⟨rfl,rfl⟩|⟨g,gc,cur,rfl,hb,hg,hnc,hcm,hcs,htake⟩
  ·have h6:=run_append_nil (P:=P) w t ty e i z E.ht hi hz ⟨b,off,none⟩ m cap news (by rw[hnl,h5]) h0 (by omega) (by omega) (by rw[H0];simp at hbytes;omega)
   rw[h6]at hr
   injection hr with e1 e2
   subst e1;subst e2
   refine .inr ⟨uW (Ga w _ none) rfl rfl rfl rfl,fun k hk=>?_⟩
   have:w.heap.size=k:=by simpa [Value.ownBlock] using hk
   omega
  ·by_cases hroom:n+m<=gc
   ·obtain⟨w2,h6,_⟩:=run_append_fits (P:=P) w base t ty e i sz E.ht hi h5 g n gc xs hown ⟨b,off,none⟩ m cap news hnl h0 h1 hroom
    rw[h6]at hr
    injection hr with e1 e2
    subst e1
    exact .inl rfl
   ·have h8:∀ j u,xs[j]?=some u->w.cell? ((⟨g,0,none⟩:Addr).add j)=some u:=hown.cells (g:=g) rfl
    have H4:xs.length=n * i.size:=by rw[h5];exact hown.1
    have h6:=run_append_grow (P:=P) w t ty e i z E.ht hi hz ⟨g,0,none⟩ n gc xs H4 h8 ⟨b,off,none⟩ m cap news (by rw[hnl,h5]) h0 (by omega) (by omega) (growslice_fits (by omega) (by rw[H0];exact hbytes))
    rw[h6]at hr
    injection hr with e1 e2
    subst e1;subst e2
    refine .inr ⟨uW (Ga w _ none) rfl rfl rfl rfl,fun k hk=>?_⟩
    have:w.heap.size=k:=by simpa [Value.ownBlock] using hk
    omega
section
variable {w0 W W':World} {F:Nat->Prop} {rs:List RowS} {ls ls':List (Nat × Obj)} {ps:List (Nat × TypeId × List Value)}
end
section
variable {P:Program} {md:Region.Mode} {ops:Array Oper} {Q:Exit->Act->World->Prop} {G:Array Bool->World->Prop}
end
section
variable {P:Program} {md:Region.Mode} {ops:Array Oper} {Q:Exit->Act->World->Prop} {G:Array Bool->World->Prop}
end
section
variable {w0 W W':World} {F:Nat->Prop} {rs:List RowS} {ls:List (Nat × Obj)}
theorem Many.far (h:Many w0 F W rs ls []) {r:Nat} (hg:W.grownBy W' (some r)) (hF:F r) (hlt:r < w0.heap.size) (hne:∀ (j:Nat) (s:RowS),rs[j]?=some s->s.v.ownBlock≠some r):Many w0 F W' rs ls [] where
 own:=fun j s hs=>(h.own j s hs).kept hg (.inr (hne j s hs))
 mine:=h.mine
 apart:=h.apart
 lit:=fun p hp=>⟨zA (h.lit p hp).1 hg (fun e=>by have e:=Oj e;have:=(h.lit p hp).2.2;omega),(h.lit p hp).2⟩
 pre:=fun p hp=>by cases hp
 but:=h.but.step hg (fun k e=>.inl (by have e:=Oj e;subst e;exact hF))
end
theorem Many.start {w:World} {F:Nat->Prop} {rs:List RowS} (hown:∀ r∈rs,w.ownsRow r.base r.e r.sz r.v r.n r.xs) (hF:∀ r∈rs,∀ k,r.v.ownBlock=some k->F k) (hap:rs.Pairwise (fun r s=>∀ k,r.v.ownBlock=some k->s.v.ownBlock≠some k)):Many w F w rs [] [] where
 own:=fun j r hr=>hown r (List.mem_of_getElem? hr)
 mine:=fun j r hr k hk=>.inl (hF r (List.mem_of_getElem? hr) k hk)
 apart:=fun i j r s hij hr hs k hk hk2=>by
  obtain⟨hi,hri⟩:=List.getElem?_eq_some_iff.1 hr
  obtain⟨hj,hsj⟩:=List.getElem?_eq_some_iff.1 hs
  rcases Nat.lt_or_gt_of_ne hij with h|h
  ·have:=List.pairwise_iff_getElem.1 hap i j hi hj h k
   rw[hri,hsj]at this
   exact this hk hk2
  ·have:=List.pairwise_iff_getElem.1 hap j i hj hi h k
   rw[hri,hsj]at this
   exact this hk2 hk
 lit:=fun p hp=>by simp at hp
 pre:=fun p hp=>by simp at hp
 but:=GrownBut.refl _ _
end Go.Proofs.Ytjfdomfendbhfaa
