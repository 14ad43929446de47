/- Part 2 of the proof. -/
import Derived.Test.YtjfdomfendbhfaaQg1
import Derived.Maps.Own
import Derived.Maps.Views
import Derived.Maps.OwnSet
import Derived.Maps.OwnOps
import Derived.Deep.DeepCutAuto
import Derived.Deep.CutBlock
set_option linter.unusedVariables false
set_option linter.unusedSimpArgs false
set_option maxRecDepth 100000
set_option maxHeartbeats 16000000
namespace Go.Proofs.Ytjfdomfendbhfaa
open Go.RowKit
theorem qCG {P:Program}{w:World}{o:Oper}{a:Act}{K:Act->World->Prop}{Q:Exit->Act->World->Prop}(s x:Operand)(t:TypeId)(ho:o.op=.call { callee:=.builtin .append,args:=#[s,x],argTypes:=#[t,t] }){e:TypeId}{sz:Nat}{z:Value}{bytes:Nat}(E:ElemN P t e sz z bytes)(base:Nat)(v:Value)(n:Nat)(xs:List Value)(hs:a.eval s=v)(hown:w.ownsRow base e sz v n xs)(us:List Value)(g:Nat)(hx:a.eval x=.slice (some ⟨g,0,none⟩) 1 1)(m:Nat×Nat)(hus:us.length=sz)(hg:w.heap[g]?=some (.cells us.toArray e m))(h1:∀ u∈us,u.oneCell'=true)(h63:n+1<=maxLen)(hbytes:(n+1) * bytes<=140737488355328)(hbase:base<=w.heap.size)(h:∀ sa sc w',w'.ownsRow base e sz (.slice sa (n+1) sc) (n+1) (xs++us)->w.grownBy w' v.ownBlock->qH w w' v (.slice sa (n+1) sc)->K (a.put o.dst (.slice sa (n+1) sc)) w'):o.wp P a w K Q:=by
 have h5:∀ j,(⟨g,0,none⟩:Addr).add j=⟨g,j,none⟩:=fun j=>by unfold Addr.add;split<;>simp_all
 have h0:qHZ w sz (.slice (some ⟨g,0,none⟩) 1 1) 1 us:=.inr ⟨g,0,1,rfl,by omega,by unfold maxLen;omega,fun i u hi=>by
  obtain⟨hl,e⟩:=List.getElem?_eq_some_iff.1 hi;have:=zH hg i (by simpa using hl)
  rw[Nat.zero_add,this];simpa using e⟩
 obtain⟨v',w',hr,h2,h3,h4⟩:=run_append_movedR (P:=P) base t o.type E v n xs hown _ 1 us h0 h1 h63 hbytes hbase;obtain⟨sa,sc,rfl⟩:=qK h2;unfold Oper.wp execOp;simp only[ho,resolve,invoke,builtin,Sem.run_bind,Sem.run_pure,Result.andThen_ok,List.map_toArray,List.map_cons,List.map_nil,hs,hx,hr];exact h sa sc w' h2 h3 h4
theorem uX {P:Program}{ops:Array Oper}{w:World}{o:Oper}{a:Act}{K:Act->World->Prop}{Q:Exit->Act->World->Prop}{R:Prop}(hgd:o.guard=none)(s x:Operand)(t:TypeId)(ho:o.op=.call { callee:=.builtin .append,args:=#[s,x],argTypes:=#[t,t] }){e:TypeId}{sz:Nat}{z:Value}{bytes:Nat}(E:ElemN P t e sz z bytes)(base:Nat)(v:Value)(n:Nat)(xs:List Value)(hs:a.eval s=v)(hown:w.ownsRow base e sz v n xs)(us:List Value)(g:Nat)(hx:a.eval x=.slice (some ⟨g,0,none⟩) 1 1)(m:Nat×Nat)(hus:us.length=sz)(hg:w.heap[g]?=some (.cells us.toArray e m))(h1:∀ u∈us,u.oneCell'=true)(h63:n+1<=maxLen)(hbytes:(n+1) * bytes<=140737488355328)(hbase:base<=w.heap.size)(h:∀ sa sc w',w'.ownsRow base e sz (.slice sa (n+1) sc) (n+1) (xs++us)->w.grownBy w' v.ownBlock->qH w w' v (.slice sa (n+1) sc)->K (a.put o.dst (.slice sa (n+1) sc)) w'):if Region.wanted o (yielded ops a.tmps)=true then Oper.wp P o a w K Q else R:=by
 have hw:Region.wanted o (yielded ops a.tmps)=true:=by simp[Region.wanted,hgd]
 rw[if_pos hw];exact qCG s x t ho E base v n xs hs hown us g hx m hus hg h1 h63 hbytes hbase h
theorem lW {P:Program}{w:World}{ops:Array Oper}{rest:List Oper}{o:Oper}{a:Act}{Q:Exit->Act->World->Prop}(hgd:o.guard=none)(s x:Operand)(t:TypeId)(ho:o.op=.call { callee:=.builtin .append,args:=#[s,x],argTypes:=#[t,t] }){e:TypeId}{sz:Nat}{z:Value}{bytes:Nat}(E:ElemN P t e sz z bytes)(base:Nat)(v:Value)(n:Nat)(xs:List Value)(hs:a.eval s=v)(hown:w.ownsRow base e sz v n xs)(us:List Value)(hx:a.eval x=.slice (some ⟨w.heap.size,0,none⟩) 1 1)(hus:us.length=sz)(h1:∀ u∈us,u.oneCell'=true)(h63:n+1<=maxLen)(hbytes:(n+1) * bytes<=140737488355328)(hbase:base<=w.heap.size)(h:∀ sa sc w',w'.ownsRow base e sz (.slice sa (n+1) sc) (n+1) (xs++us)->w.grownBy w' v.ownBlock->wpList P ops Q rest (a.put o.dst (.slice sa (n+1) sc)) w'):
  wpList P ops Q (o::rest) a (w.alloc (.cells us.toArray e)) :=
 wpList_plain hgd fun _ hK=>qCG s x t ho E base v n xs hs (hown.alloc _) us w.heap.size hx (0,0) hus (heap_alloc_new w _) h1 h63 hbytes (by simp;omega) fun sa sc w' h2 h3 _=>hK _ _ (h sa sc w' h2 (zD (Ga w _ _) h3))
theorem vI {P:Program}{w:World}{ops:Array Oper}{rest:List Oper}{o:Oper}{a:Act}{Q:Exit->Act->World->Prop}(hgd:o.guard=none)(s x:Operand)(t:TypeId)(ho:o.op=.call { callee:=.builtin .append,args:=#[s,x],argTypes:=#[t,t] }){e:TypeId}{sz:Nat}{z:Value}{bytes:Nat}(E:ElemN P t e sz z bytes)(base:Nat)(v:Value)(n:Nat)(xs:List Value)(hs:a.eval s=v)(hown:w.ownsRow base e sz v n xs)(us:List Value)(hx:a.eval x=.slice (some ⟨w.heap.size,0,none⟩) 1 1)(hus:us.length=sz)(h1:∀ u∈us,u.oneCell'=true)(h63:n+1<=maxLen)(hbytes:(n+1) * bytes<=140737488355328)(hbase:base<=w.heap.size)(h:∀ sa sc w',w'.ownsRow base e sz (.slice sa (n+1) sc) (n+1) (xs++us)->w.grownBy w' v.ownBlock->qH w w' v (.slice sa (n+1) sc)->wpList P ops Q rest (a.put o.dst (.slice sa (n+1) sc)) w'):
  wpList P ops Q (o::rest) a (w.alloc (.cells us.toArray e)) :=
 wpList_plain hgd fun _ hK=>qCG s x t ho E base v n xs hs (hown.alloc _) us w.heap.size hx (0,0) hus (heap_alloc_new w _) h1 h63 hbytes (by simp;omega) fun sa sc w' h2 h3 h4=>hK _ _ (h sa sc w' h2 (zD (Ga w _ _) h3) (by
  rcases h4 with h4|⟨h4,h5⟩
  ·exact .inl h4
  ·exact .inr ⟨zD (Ga w _ none) h4,fun k hk=>by have:=h5 k hk;rw[zJ]at this;omega⟩))
theorem kZ (p q:Nat->Bool)(hle:∀ j,q j=true->p j=true):∀ l:List Nat,(l.filter q).length<=(l.filter p).length
 | []=>Nat.le_refl _
 | x::l=>by
  have ih:=kZ p q hle l
  by_cases hq:q x=true
  ·rw[List.filter_cons_of_pos hq,List.filter_cons_of_pos (hle x hq)]
   simp only[List.length_cons];omega
  ·rw[List.filter_cons_of_neg hq]
   by_cases hp:p x=true
   ·rw[List.filter_cons_of_pos hp];simp only[List.length_cons];omega
   ·rw[List.filter_cons_of_neg hp];exact ih
theorem kY (p q:Nat->Bool)(hle:∀ j,q j=true->p j=true){i:Nat}(hp:p i=true)(hq:q i=false):∀ l:List Nat,i∈l->(l.filter q).length<(l.filter p).length
 | [],h=>by cases h
 | x::l,h=>by
  rcases List.mem_cons.1 h with rfl|h'
  ·have:=kZ p q hle l
   rw[List.filter_cons_of_pos hp,List.filter_cons_of_neg (by rw[hq];simp)]
   simp only[List.length_cons];omega
  ·have ih:=kY p q hle hp hq l h'
   by_cases hqx:q x=true
   ·rw[List.filter_cons_of_pos hqx,List.filter_cons_of_pos (hle x hqx)]
    simp only[List.length_cons];omega
   ·rw[List.filter_cons_of_neg hqx]
    by_cases hpx:p x=true
    ·rw[List.filter_cons_of_pos hpx];simp only[List.length_cons];omega
    ·rw[List.filter_cons_of_neg hpx];exact ih
section
variable {P:Program} {md:Region.Mode} {ops:Array Oper} {Q:Exit->Act->World->Prop}
def qDA (ops:Array Oper)(listed:Array Bool):Nat:=((List.range ops.size).filter fun i=>!listed.getD i true).length
theorem dL {listed:Array Bool}{i:Nat}(hi:i∈Region.ready md ops listed):qDA ops (listed.setIfInBounds i true)<qDA ops listed:=by
 obtain⟨h0,o,ho,_⟩:=mem_ready.1 hi
 have h1:i<ops.size:=by
  rcases Nat.lt_or_ge i ops.size with h|h
  ·exact h
  ·rw[Array.getElem?_eq_none h]at ho;cases ho
 refine kY _ _ (fun j hj=>?_) (i:=i) (by rw[h0];rfl) (by rw[vR];rfl) _ (List.mem_range.2 h1);by_cases e:i=j
 ·subst e;rw[vR]at hj;cases hj
 ·rwa [Go.getD_set_ne true e]at hj
end
section
variable {P:Program} {md:Region.Mode} {ops:Array Oper} {Q:Exit->Act->World->Prop} {G:Array Bool->World->Prop}
theorem dI (I : Array Bool → Act → World → Prop)(hG : ∀ l a w, I l a w → G l w)(hstep : ∀ i o, ops[i]? = some o → ∀ listed a w, I listed a w → listed.getD i true = false → (∀ e ∈ o.after, Region.binds md e = true → listed.getD e.on false = true) →
   ∀ K' : Act → World → Prop, Shut (∀ a w, I (listed.setIfInBounds i true) a w → K' a w) → if Region.wanted o (yielded ops a.tmps) = true then Oper.wp P o a w K' Q else K' (a.put o.dst undef) w)(hend : ∀ listed a w, I listed a w → Region.ready md ops listed = [] → Q .normal a w):
  ∀ (fuel : Nat) (listed : Array Bool) (a : Act) (w : World), qDA ops listed ≤ fuel → I listed a w → uH P md ops Q G fuel listed a w
 | 0, listed, a, w, hf, hI => by
  have hr : Region.ready md ops listed = [] := by
   rcases h : Region.ready md ops listed with _ | ⟨i, l⟩
   ·rfl
   ·have := dL (md := md) (ops := ops) (listed := listed) (i := i) (by rw [h]; exact List.mem_cons_self)
    omega
  exact ⟨hr, hend _ _ _ hI hr⟩
 | fuel + 1, listed, a, w, hf, hI => by
  refine ⟨hend _ _ _ hI, fun i hi => ?_⟩
  obtain ⟨h0, o, ho, hall⟩ := mem_ready.1 hi
  have hu := dL hi
  exact wpOp_mono (fun a' w' h => ⟨hG _ _ _ h, dI I hG hstep hend fuel _ a' w' (by omega) h⟩) (wpOp_step (K := I (listed.setIfInBounds i true)) ho (fun K' hK => hstep i o ho _ _ _ hI h0 hall K' hK))
def qHY (P:Program)(md:Region.Mode)(ops:Array Oper)(Q:Exit->Act->World->Prop)(I:Array Bool->Act->World->Prop)(i:Nat)(o:Oper):Prop :=
 ∀ listed a w,I listed a w->listed.getD i true=false->(∀ e∈o.after,Region.binds md e=true->listed.getD e.on false=true) ->
  ∀ K':Act->World->Prop,Shut (∀ a w,I (listed.setIfInBounds i true) a w->K' a w)->if Region.wanted o (yielded ops a.tmps)=true then Oper.wp P o a w K' Q else K' (a.put o.dst undef) w
def dB (S:Nat->Oper->Prop):Nat->List Oper->Prop
 | _,[]=>True
 | k,o::l=>S k o/\dB S (k+1) l
theorem dB.get {S:Nat->Oper->Prop}:∀ {k:Nat} {l:List Oper},dB S k l->∀ i o,l[i]?=some o->S (k+i) o
 | _,[],_,i,o,h=>by simp at h
 | k,x::l,h,0,o,e=>by
  have e:x=o:=by simpa using e
  subst e;exact h.1
 | k,x::l,h,i+1,o,e=>by
  have:=dB.get h.2 i o (by simpa using e)
  rwa [Nat.add_right_comm,Nat.add_assoc]at this
theorem allOps {S:Nat->Oper->Prop}{ops:Array Oper}(h:dB S 0 ops.toList):∀ i o,ops[i]?=some o->S i o:=fun i o ho=>by
 have:=h.get i o (by simpa using ho)
 rwa [Nat.zero_add]at this
def qIO (ops:Array Oper):Bool:=(List.range ops.size).all fun i=>match ops[i]? with|some o=>o.after.all fun e=>decide (e.on<i)|none=>true
theorem all_listed {listed:Array Bool}(hw:qIO ops=true)(hr:Region.ready md ops listed=[]):∀ j,j<ops.size->listed.getD j true=true:=by
 intro j
 induction j using Nat.strongRecOn with
 | ind j ih =>
  intro hj;rcases hl:listed.getD j true with _|_
  ·exfalso
   have h0:j<listed.size:=by
    rcases Nat.lt_or_ge j listed.size with h|h
    ·exact h
    ·simp[h]at hl
   have hm:j∈Region.ready md ops listed:=by
    refine mem_ready.2 ⟨hl,ops[j],Array.getElem?_eq_getElem hj,fun e he _=>?_⟩;have h1:=List.all_eq_true.1 hw j (List.mem_range.2 hj);rw[Array.getElem?_eq_getElem hj]at h1
    have h2:e.on<j:=by
     have:=Array.all_eq_true'.1 h1 e he;simpa using this
    have h3:=ih e.on h2 (by omega);have h4:e.on<listed.size:=(by omega);simpa [h4] using h3
   rw[hr]at hm;cases hm
  ·rfl
theorem wpAnyG_steps (I:Array Bool->Act->World->Prop)(hG:∀ l a w,I l a w->G l w)(hstep:∀ (ops':Array Oper) (Q':Exit->Act->World->Prop),dB (qHY P md ops' Q' I) 0 ops.toList)(hw:qIO ops=true)(hend:∀ listed a w,I listed a w->(∀ j,j<ops.size->listed.getD j true=true)->Q .normal a w){fuel:Nat}{listed:Array Bool}{a:Act}{w:World}(hf:qDA ops listed<=fuel)(hI:I listed a w):uH P md ops Q G fuel listed a w :=
 dI I hG (allOps (hstep ops Q)) (fun l a w h hr=>hend l a w h (all_listed hw hr)) fuel listed a w hf hI
end
theorem tA {l:Array Bool}{j:Nat}(h:l.getD j false=true):l.getD j true=true:=by
 rcases Nat.lt_or_ge j l.size with h'|h'
 ·simp[h']at h ⊢;exact h
 ·simp[h']at h
theorem xC {l:Array Bool}{i j:Nat}(h:l.getD j true=true):(l.setIfInBounds i true).getD j true=true:=by
 by_cases e:i=j
 ·subst e;exact vR
 ·rwa [Go.getD_set_ne true e]
theorem yZ {l:Array Bool}{i j:Nat}(hne:i≠j)(h:(l.setIfInBounds i true).getD j true=true):l.getD j true=true:=by rwa [Go.getD_set_ne true hne]at h
theorem unlisted_unset {l:Array Bool}{i j:Nat}(h:(l.setIfInBounds i true).getD j true=false):l.getD j true=false:=by
 by_cases e:i=j
 ·subst e;rw[vR]at h;cases h
 ·rwa [Go.getD_set_ne true e]at h
theorem hsP {l:Array Bool}{i j:Nat}{p:Prop}(h:Hid (l.getD j true=true->p))(hne:i≠j:=by decide):Hid ((l.setIfInBounds i true).getD j true=true->p):=Kh (fun e=>h.out (yZ hne e))
theorem hsQ {l:Array Bool}{i j k:Nat}{p:Prop}(h:Hid (l.getD j true=true->l.getD k true=true/\p))(hne:i≠j:=by decide):Hid ((l.setIfInBounds i true).getD j true=true->(l.setIfInBounds i true).getD k true=true/\p) :=
 Kh (fun e=>⟨xC (h.out (yZ hne e)).1,(h.out (yZ hne e)).2⟩)
theorem hsR {l:Array Bool}{i j k m:Nat}{p:Prop}(h:Hid (l.getD j true=true->l.getD k true=true/\l.getD m true=true/\p))(hne:i≠j:=by decide):Hid ((l.setIfInBounds i true).getD j true=true->(l.setIfInBounds i true).getD k true=true/\(l.setIfInBounds i true).getD m true=true/\p) :=
 Kh (fun e=>⟨xC (h.out (yZ hne e)).1,xC (h.out (yZ hne e)).2.1,(h.out (yZ hne e)).2.2⟩)
theorem hsN {l:Array Bool}{i j:Nat}{p:Prop}(h:Hid (l.getD j true=false->p)):Hid ((l.setIfInBounds i true).getD j true=false->p):=Kh (fun e=>h.out (unlisted_unset e))
theorem hsA {l:Array Bool}{i j:Nat}{p q:Prop}(h:Hid (l.getD j true=true->l.getD i true=true/\p))(hun:l.getD i true=false)(hne:i≠j:=by decide):Hid ((l.setIfInBounds i true).getD j true=true->q) :=
 Kh (fun e=>absurd (h.out (yZ hne e)).1 (by rw[hun];simp))
theorem hsB {l:Array Bool}{i j:Nat}{p q r:Prop}(h:Hid (l.getD j true=true->p/\l.getD i true=true/\r))(hun:l.getD i true=false)(hne:i≠j:=by decide):Hid ((l.setIfInBounds i true).getD j true=true->q) :=
 Kh (fun e=>absurd (h.out (yZ hne e)).2.1 (by rw[hun];simp))
theorem kB {l:Array Bool}{i:Nat}{p:Prop}(h:(l.setIfInBounds i true).getD i true=false):p:=by rw[vR]at h;cases h
section
variable {w0 W W':World} {F:Nat->Prop} {rs:List RowS} {ls:List (Nat×Obj)}
end
theorem dQ {P:Program}{W:World}{o:Oper}{a:Act}{K:Act->World->Prop}{Q:Exit->Act->World->Prop}{R c0:Prop}[Decidable c0](hc0:c0)(s x:Operand)(t:TypeId)(ho:o.op=.call { callee:=.builtin .append,args:=#[s,x],argTypes:=#[t,t] }){e:TypeId}{z:Value}{bytes:Nat}(E:ElemOk P t e z bytes)(j:Nat)(g c:Nat)(hx:a.eval x=.slice (some ⟨g,0,none⟩) 1 c){w0:World}{F:Nat->Prop}{rs:List RowS}{ls:List (Nat×Obj)}{ps:List (Nat×TypeId×List Value)}(h:Many w0 F W rs ls ps){r:RowS}(hr:rs[j]?=some r)(he:r.e=e)(hsz:r.sz=1)(hs:a.eval s=r.v)(h63:r.n+1<=maxLen)(hbytes:(r.n+1) * bytes<=140737488355328)(hbase:r.base<=w0.heap.size){u:Value}{m:Nat×Nat}(hl:(g,Obj.cells #[u] e m)∈ls)(h1:u.oneCell'=true)(hK:∀ sa sc w',Many w0 F w' (rs.set j ⟨r.base,r.e,.slice sa (r.n+1) sc,r.n+1,r.xs++[u],r.sz⟩) ls ps->W.grownBy w' r.v.ownBlock->K (a.put o.dst (.slice sa (r.n+1) sc)) w'):if c0 then Oper.wp P o a W K Q else R:=by
 subst he;rw[if_pos hc0];have hu:W.cell? ⟨g,0,none⟩=some u:=by simpa using zH (h.lit _ hl).1 0 (by simp)
 obtain⟨v',w',h0,h2,h3,h4⟩:=oU (P:=P) r.base t o.type E r.v r.n r.xs (by have:=h.own j r hr;rwa [hsz]at this) g c u hu h1 h63 hbytes (Nat.le_trans hbase h.but.size);obtain⟨sa,sc,rfl⟩:=rP h2;unfold Oper.wp execOp;simp only[ho,resolve,invoke,builtin,Sem.run_bind,Sem.run_pure,Result.andThen_ok,List.map_toArray,List.map_cons,List.map_nil,hs,hx,h0];exact hK sa sc w' (h.append hr (by rw[hsz];exact h2) h3 h4) h3
theorem iE {a0:Act}:∀ {l:List (Nat×Value)},(∀ p∈l,p.2=a0.tmps.getD p.1 undef)->wP a0 l=a0
 | [],_=>rfl
 | p::l,h=>by
  have h1:=h p List.mem_cons_self
  have hp:a0.put (some p.1) p.2=a0:=by
   rw[h1];show Act.mk (a0.tmps.setIfInBounds p.1 (a0.tmps.getD p.1 undef)) a0.defers=a0
   have:a0.tmps.setIfInBounds p.1 (a0.tmps.getD p.1 undef)=a0.tmps:=by
    apply Array.ext
    ·simp
    ·intro i h1 h2
     rw[Array.getElem_setIfInBounds]
     split
     ·rename_i e;subst e;simp[h2]
     ·rfl
   rw[this]
  show wP (a0.put (some p.1) p.2) l=a0;rw[hp];exact iE fun q hq=>h q (List.mem_cons_of_mem _ hq)
theorem Many.start {w:World}{F:Nat->Prop}{rs:List RowS}(hown:∀ r∈rs,w.ownsRow r.base r.e r.sz r.v r.n r.xs)(hF:∀ r∈rs,∀ k,r.v.ownBlock=some k->F k)(hap:rs.Pairwise (fun r s=>∀ k,r.v.ownBlock=some k->s.v.ownBlock≠some k)):Many w F w rs [] [] where
 own:=fun j r hr=>hown r (List.mem_of_getElem? hr)
 mine:=fun j r hr k hk=>.inl (hF r (List.mem_of_getElem? hr) k hk)
 apart:=fun i j r s hij hr hs k hk hk2=>by
  obtain⟨hi,hri⟩:=List.getElem?_eq_some_iff.1 hr
  obtain⟨hj,hsj⟩:=List.getElem?_eq_some_iff.1 hs
  rcases Nat.lt_or_gt_of_ne hij with h|h
  ·have:=List.pairwise_iff_getElem.1 hap i j hi hj h k
   rw[hri,hsj]at this
   exact this hk hk2
  ·have:=List.pairwise_iff_getElem.1 hap j i hj hi h k
   rw[hri,hsj]at this
   exact this hk2 hk
 lit:=fun p hp=>by simp at hp
 pre:=fun p hp=>by simp at hp
 but:=GrownBut.refl _ _
def nY:Code->Nat->Option (Array Oper)
 | .region i ops _,k=>if i=k then some ops else none
 | .seq a b,k=>match nY a k with
  | some o=>some o
  | none=>nY b k
 | .cond _ a b,k=>match nY a k with
  | some o=>some o
  | none=>nY b k
 | .block _ b,k=>nY b k
 | .loop b,k=>nY b k
 | .scope b,k=>nY b k
 | _,_=>none
def regionOps (f:Func)(k:Nat):Array Oper:=match f.body with
 | some b=>(nY b k).getD #[]
 | none=>#[]
open Go.Maps
theorem aJ:Keyed Try.prog 3:=int_keyed (q:=.i64) (by kernel_rfl)
end Go.Proofs.Ytjfdomfendbhfaa
namespace Go.Proofs.Ytjfdomfendbhfaa
def xP {α:Type}[DecidableEq α](acc:List α)(x:α):List α:=if x∈acc then acc else acc++[x]
def zZ {α:Type}[DecidableEq α](l:List α):List α:=l.foldl xP []
section
variable {α:Type} [DecidableEq α]
theorem uR {acc:List α}{x:α}(h:x∈acc):xP acc x=acc:=if_pos h
theorem wV {acc:List α}{x:α}(h:x ∉ acc):xP acc x=acc++[x]:=if_neg h
theorem mJ {acc:List α}{x y:α}:y∈xP acc x ↔ y∈acc\/y=x:=by
 unfold xP
 split
 ·rename_i h
  exact⟨.inl,fun h'=>by rcases h' with h'|rfl<;>assumption⟩
 ·simp
theorem tJ (l:List α)(x:α):zZ (l++[x])=xP (zZ l) x:=by simp[zZ,List.foldl_append]
theorem mem_foldl_addNew (l:List α):∀ (acc:List α) (y:α),y∈l.foldl xP acc ↔ y∈acc\/y∈l:=by
 induction l with
 | nil=>intro acc y;simp
 | cons a l ih=>intro acc y;rw[List.foldl_cons,ih,mJ,List.mem_cons];exact or_assoc
theorem wF {l:List α}{y:α}:y∈zZ l ↔ y∈l:=by rw[zZ,mem_foldl_addNew];simp
theorem iQ {acc:List α}{x:α}(h:acc.Nodup):(xP acc x).Nodup:=by
 unfold xP
 split
 ·exact h
 ·rename_i hx
  rw[List.nodup_append];exact⟨h,by simp,fun a ha b hb=>by rw[List.mem_singleton]at hb;subst hb;rintro rfl;exact hx ha⟩
theorem foldl_addNew_nodup (l:List α):∀ {acc:List α},acc.Nodup->(l.foldl xP acc).Nodup:=by
 induction l with
 | nil=>intro acc h;exact h
 | cons a l ih=>intro acc h;exact ih (iQ h)
theorem rB (l:List α):(zZ l).Nodup:=foldl_addNew_nodup l (by simp)
theorem oO (acc:List α)(x:α):acc <+: xP acc x:=by
 unfold xP;split
 ·exact List.prefix_refl _
 ·exact List.prefix_append _ _
theorem foldl_addNew_prefix (l:List α):∀ (acc:List α),acc <+: l.foldl xP acc:=by
 induction l with
 | nil=>intro acc;exact List.prefix_refl _
 | cons a l ih=>intro acc;exact(oO acc a).trans (ih _)
theorem qR (l:List α)(k:Nat):zZ (l.take k) <+: zZ l:=by
 conv=>rhs;rw[<- List.take_append_drop k l]
 rw[zZ,zZ,List.foldl_append];exact foldl_addNew_prefix _ _
theorem tG (l:List α):(zZ l).length<=l.length:=by
 have key:∀ (l acc:List α),(l.foldl xP acc).length<=acc.length+l.length:=by
  intro l
  induction l with
  | nil=>intro acc;simp
  | cons a l ih =>
   intro acc;rw[List.foldl_cons];have h1:=ih (xP acc a);have h2:(xP acc a).length<=acc.length+1:=by unfold xP;split<;>simp
   rw[List.length_cons];omega
 simpa [zZ] using key l []
theorem iL {l m:List α}{x:α}(h:l <+: m)(hx:x∈l):m.idxOf x=l.idxOf x:=by
 obtain⟨r,rfl⟩:=h;rw[List.idxOf_append,if_pos hx]
theorem qBP {l:List α}{x y:α}(hx:x∈l)(h:l.idxOf x=l.idxOf y):x=y:=by
 have h1:=List.idxOf_lt_length_of_mem hx;have e1:=List.getElem_idxOf h1;have e2:=List.getElem_idxOf (show l.idxOf y<l.length by omega);rw[<- e1,<- e2];simp only[h]
def numb (l:List α):List Nat:=l.map fun x=>(zZ l).idxOf x
theorem yN (l:List α):(numb l).length=l.length:=by simp[numb]
theorem qL {l:List α}{i:Nat}(h:i<l.length):(numb l)[i]'(by rw[yN];exact h)=(zZ l).idxOf l[i]:=by simp[numb]
theorem qFZ {l:List α}:∀ c∈numb l,c<(zZ l).length:=by
 intro c hc;obtain⟨x,hx,rfl⟩:=List.mem_map.1 hc;exact List.idxOf_lt_length_of_mem (wF.2 hx)
theorem oG {l:List α}{i j:Nat}(hi:i<l.length)(hj:j<l.length):(numb l).getD i 0=(numb l).getD j 0 ↔ l[i]=l[j]:=by
 simp only[List.getD,List.getElem?_eq_getElem (show i<(numb l).length by rw[yN];exact hi),List.getElem?_eq_getElem (show j<(numb l).length by rw[yN];exact hj),Option.getD_some,qL hi,qL hj];exact⟨fun h=>qBP (wF.2 (List.getElem_mem hi)) h,fun h=>by rw[h]⟩
theorem qAZ {l:List α}{k:Nat}(hk:k<l.length):(zZ (l.take (k+1))).idxOf l[k]=(zZ l).idxOf l[k]:=by
 refine(iL (qR l (k+1)) (wF.2 ?_)).symm;rw[List.take_succ_eq_append_getElem hk];exact List.mem_append_right _ (List.mem_singleton_self _)
end
def SameKer (p q:List Nat):Prop:=p.length=q.length/\∀ i j,i<p.length->j<p.length->(p.getD i 0=p.getD j 0 ↔ q.getD i 0=q.getD j 0)
def Norm (p:List Nat):Prop:=numb p=p
theorem zG {α:Type}{l:List α}{i:Nat}{d:α}(h:i<l.length):l.getD i d=l[i]:=by simp[List.getD,List.getElem?_eq_getElem h]
theorem firsts_map_inj {α β:Type}[DecidableEq α][DecidableEq β](f:α->β)(l:List α)(h:∀ x∈l,∀ y∈l,f x=f y->x=y):zZ (l.map f)=(zZ l).map f:=by
 have key:∀ (m acc:List α),(∀ x∈acc++m,∀ y∈acc++m,f x=f y->x=y)->(m.map f).foldl xP (acc.map f)=(m.foldl xP acc).map f:=by
  intro m
  induction m with
  | nil=>intro acc _;rfl
  | cons a m ih =>
   intro acc hh;rw[List.map_cons,List.foldl_cons,List.foldl_cons]
   have e:xP (acc.map f) (f a)=(xP acc a).map f:=by
    unfold xP;by_cases ha:a∈acc
    ·rw[if_pos ha,if_pos (List.mem_map_of_mem ha)]
    ·rw[if_neg ha,if_neg]
     ·simp
     ·intro hm
      obtain⟨b,hb,e⟩:=List.mem_map.1 hm;have:=hh b (by simp[hb]) a (by simp) e;subst this;exact ha hb
   rw[e];refine ih _ fun x hx y hy=>hh x ?_ y ?_
   ·rw[List.mem_append,mJ]at hx;simp;rcases hx with (h|h)|h<;>simp[h]
   ·rw[List.mem_append,mJ]at hy;simp;rcases hy with (h|h)|h<;>simp[h]
 have:=key l [] (by simpa using h);simpa [zZ] using this
theorem idxOf_map_inj {α β:Type}[DecidableEq α][DecidableEq β](f:α->β)(l:List α)(x:α)(hx:x∈l)(h:∀ y∈l,f y=f x->y=x):(l.map f).idxOf (f x)=l.idxOf x:=by
 induction l with
 | nil=>simp at hx
 | cons a l ih =>
  rw[List.map_cons,List.idxOf_cons,List.idxOf_cons];by_cases e:a=x
  ·subst e;simp
  ·have:f a≠f x:=fun h'=>e (h a (by simp) h')
   simp only[beq_eq_false_iff_ne.2 this,beq_eq_false_iff_ne.2 e,cond_false];rw[ih (by simpa [Ne.symm e] using hx) (fun y hy=>h y (by simp[hy]))]
theorem bA {α β:Type}[DecidableEq α][DecidableEq β]:∀ (l:List α) (m:List β) (he:l.length=m.length),(∀ i j (hi:i<l.length) (hj:j<l.length),(l[i]=l[j] ↔ m[i]'(by omega)=m[j]'(by omega)))->numb l=numb m:=by
 intro l m he h
 have key:∀ (k:Nat) (hk:k<=l.length),∃ ps:List (Fin l.length),zZ (l.take k)=ps.map (fun i=>l[i])/\zZ (m.take k)=ps.map (fun i=>m[i.1]'(by omega)):=by
  intro k
  induction k with
  | zero=>intro _;exact⟨[],by simp[zZ],by simp[zZ]⟩
  | succ k ih =>
   intro hk;obtain⟨ps,h1,h2⟩:=ih (by omega);have h3:k<l.length:=(by omega);rw[List.take_succ_eq_append_getElem h3,List.take_succ_eq_append_getElem (show k<m.length by omega),tJ,tJ,h1,h2]
   have h0:(l[k]∈ps.map (fun i=>l[i])) ↔ (m[k]'(by omega)∈ps.map (fun i=>m[i.1]'(by omega))):=by
    simp only[List.mem_map];constructor
    ·rintro ⟨i,hi,e⟩;exact⟨i,hi,(h i.1 k i.2 h3).1 e⟩
    ·rintro ⟨i,hi,e⟩;exact⟨i,hi,(h i.1 k i.2 h3).2 e⟩
   by_cases hm:l[k]∈ps.map (fun i=>l[i])
   ·exact⟨ps,uR hm,uR (h0.1 hm)⟩
   ·refine⟨ps++[⟨k,h3⟩],?_,?_⟩
    ·rw[wV hm];simp
    ·rw[wV (fun h'=>hm (h0.2 h'))];simp
 obtain⟨ps,h1,h2⟩:=key l.length (Nat.le_refl _);rw[List.take_length]at h1;rw[show m.take l.length=m from List.take_of_length_le (by omega)]at h2;refine List.ext_getElem (by simp[numb,he]) fun i hi _=>?_;rw[yN]at hi;rw[qL hi,qL (by omega),h1,h2]
 have aux:∀ (qs:List (Fin l.length)),(qs.map (fun i=>l[i])).idxOf l[i]=(qs.map (fun i=>m[i.1]'(by omega))).idxOf (m[i]'(by omega)):=by
  intro qs
  induction qs with
  | nil=>simp
  | cons a qs ih =>
   rw[List.map_cons,List.map_cons,List.idxOf_cons,List.idxOf_cons,ih];have:=h a.1 i a.2 hi;by_cases e:l[a]=l[i]
   ·have e':=this.1 e
    simp only[beq_iff_eq.2 e,beq_iff_eq.2 e']
   ·have e':¬ (m[a.1]'(by omega)=m[i]'(by omega)):=fun h'=>e (this.2 h')
    simp only[beq_eq_false_iff_ne.2 e,beq_eq_false_iff_ne.2 e']
 exact aux ps
theorem fK {α:Type}[DecidableEq α](l:List α):Norm (numb l):=by
 refine bA _ _ (yN l) fun i j hi hj=>?_;rw[yN]at hi hj;have:=oG (l:=l) hi hj;rw[zG (by rw[yN];exact hi),zG (by rw[yN];exact hj)]at this;exact this
theorem aD {p q:List Nat}(hp:Norm p)(hq:Norm q)(h:SameKer p q):p=q:=by
 rw[<- hp,<- hq];refine bA _ _ h.1 fun i j hi hj=>?_;have:=h.2 i j hi hj;rw[zG hi,zG hj,zG (by rw[<- h.1];exact hi),zG (by rw[<- h.1];exact hj)]at this;exact this
structure DfaV where
 letters:Int
 start:Int
 final:List Bool
 next:List (List Int)
def rowD (letters:Int)(n:Nat)(r:List Int):Bool:=decide ((r.length:Int)=letters) && r.all fun x=>decide (0<=x/\x<n)
def xD (d:DfaV):Int :=
 if d.letters<1\/6<d.letters then 1 else if 512<d.final.length then 3
 else if d.final.length=0\/d.next.length≠d.final.length\/d.start<0\/d.final.length<=d.start then 4
 else if d.next.all (rowD d.letters d.final.length) then 0 else 4
structure VD (d:DfaV)(n k:Nat):Prop where
 hk:d.letters=k
 k1:1<=k
 k6:k<=6
 hn:d.final.length=n
 n1:1<=n
 nbig:n<=4194304
 nl:d.next.length=n
 s0:0<=d.start
 sn:d.start<n
 row:∀ q,q<n->(d.next.getD q []).length=k
 lo:∀ q a,q<n->a<k->0<=ent d.next q a
 hi:∀ q a,q<n->a<k->ent d.next q a<n
theorem pZ {k:Int}{n:Nat}{r:List Int}:rowD k n r=true ↔ (r.length:Int)=k/\∀ y,y<r.length->0<=r.getD y 0/\r.getD y 0<n:=by
 simp only[rowD,Bool.and_eq_true,decide_eq_true_eq,List.all_eq_true];refine and_congr_right fun _=>⟨fun h y hy=>?_,fun h x hx=>?_⟩
 ·have:=h (r[y]) (List.getElem_mem hy)
  rwa [<- zG (d:=0) hy]at this
 ·obtain⟨y,hy,rfl⟩:=List.getElem_of_mem hx
  have:=h y hy
  rwa [zG hy]at this
theorem dC {d:DfaV}(h:xD d=0):VD d d.final.length d.letters.toNat:=by
 unfold xD at h
 split at h
 ·omega
 rename_i h1
 split at h
 ·omega
 rename_i h2
 split at h
 ·omega
 rename_i h3
 split at h
 ·rename_i h4
  rw[List.all_eq_true]at h4
  have hr:∀ q,q<d.next.length->rowD d.letters d.final.length (d.next.getD q [])=true:=fun q hq=>by
   rw[zG hq];exact h4 _ (List.getElem_mem hq)
  have h0:d.next.length=d.final.length:=by
   apply Classical.byContradiction;intro hh;exact h3 (.inr (.inl hh))
  refine⟨by omega,by omega,by omega,rfl,by omega,by omega,h0,by omega,by omega,fun q hq=>?_,fun q a hq ha=>?_,fun q a hq ha=>?_⟩
  ·have:=(pZ.1 (hr q (by omega))).1;omega
  ·obtain⟨e,h⟩:=pZ.1 (hr q (by omega))
   exact(h a (by omega)).1
  ·obtain⟨e,h⟩:=pZ.1 (hr q (by omega))
   exact(h a (by omega)).2
 ·omega
theorem gE {d:DfaV}{n k:Nat}(h:VD d n k)(h5:n<=512):xD d=0:=by
 unfold xD
 rw[if_neg (by have:=h.hk;have:=h.k1;have:=h.k6;omega),if_neg (by have:=h.hn;omega),
  if_neg (by have:=h.hn;have:=h.n1;have:=h.nl;have:=h.s0;have:=h.sn;omega),if_pos]
 rw[List.all_eq_true];intro r hr;obtain⟨q,hq,rfl⟩:=List.getElem_of_mem hr;have h0:q<n:=by have:=h.nl;omega
 rw[pZ];have hl:=h.row q h0;rw[zG hq]at hl;refine⟨by rw[hl,h.hk],fun y hy=>?_⟩;have h1:=h.lo q y h0 (by omega);have h2:=h.hi q y h0 (by omega);unfold ent at h1 h2;rw[zG hq]at h1 h2;rw[h.hn];exact⟨h1,h2⟩
def nx (d:DfaV)(q a:Nat):Nat:=entN d.next q a
theorem qFY {d:DfaV}{n k:Nat}(h:VD d n k){q a:Nat}(hq:q<n)(ha:a<k):(nx d q a:Int)=ent d.next q a:=Int.toNat_of_nonneg (h.lo q a hq ha)
theorem nO {d:DfaV}{n k:Nat}(h:VD d n k){q a:Nat}(hq:q<n)(ha:a<k):nx d q a<n:=by
 have h1:=qFY h hq ha;have h2:=h.hi q a hq ha;omega
def st0 (d:DfaV):Nat:=d.start.toNat
theorem bQ {d:DfaV}{n k:Nat}(h:VD d n k):(st0 d:Int)=d.start:=Int.toNat_of_nonneg h.s0
theorem oT {d:DfaV}{n k:Nat}(h:VD d n k):st0 d<n:=by have:=bQ h;have:=h.sn;omega
def finB (b:Bool):Int:=if b then 1 else 0
def kM (d:DfaV):List Nat:=numb (d.final.map finB)
def nX (d:DfaV)(p:List Nat)(a:Nat):List Nat:=(List.range p.length).map fun q=>p.getD (nx d q a) 0
def qAU (m:Nat)(a b:Nat):Int:=(a:Int) * (m+1)+b
def mV (p q:List Nat):List Int:=List.zipWith (qAU p.length) p q
def aT (p q:List Nat):List Nat:=numb (mV p q)
def uJ (d:DfaV)(p:List Nat):Nat->List Nat
 | 0=>p
 | k+1=>aT (uJ d p k) (nX d p k)
theorem nM (d:DfaV):(kM d).length=d.final.length:=by simp[kM,yN]
theorem rC (d:DfaV)(p:List Nat)(a:Nat):(nX d p a).length=p.length:=by simp[nX]
theorem qV {p q:List Nat}(h:q.length=p.length):(mV p q).length=p.length:=by simp[mV,h]
theorem both8_length {p q:List Nat}(h:q.length=p.length):(aT p q).length=p.length:=by rw[aT,yN,qV h]
theorem yV (d:DfaV)(p:List Nat):∀ k,(uJ d p k).length=p.length
 | 0=>rfl
 | k+1=>by rw[uJ,both8_length (by rw[rC,yV d p k]),yV d p k]
theorem nP {p:List Nat}(h:Norm p):∀ c∈p,c<p.length:=by
 intro c hc;have h1:=qFZ (l:=p);rw[h]at h1;have:=h1 c hc;have:=tG p;omega
theorem pairNo_inj {m a b a' b':Nat}(hb:b<=m)(hb':b'<=m):qAU m a b=qAU m a' b' ↔ a=a'/\b=b':=by
 unfold qAU;constructor
 ·intro h
  have h':a * (m+1)+b=a' * (m+1)+b':=by exact_mod_cast h
  have e1:(a * (m+1)+b) / (m+1)=a:=by rw[Nat.mul_comm,Nat.mul_add_div (by omega),Nat.div_eq_of_lt (by omega)];omega
  have e2:(a' * (m+1)+b') / (m+1)=a':=by rw[Nat.mul_comm,Nat.mul_add_div (by omega),Nat.div_eq_of_lt (by omega)];omega
  have ha:a=a':=by rw[<- e1,<- e2,h']
  subst ha;exact⟨rfl,by omega⟩
 ·rintro ⟨rfl,rfl⟩;rfl
theorem both8_iff {p q:List Nat}(h:q.length=p.length)(hq:∀ c∈q,c<p.length){i j:Nat}(hi:i<p.length)(hj:j<p.length):(aT p q).getD i 0=(aT p q).getD j 0 ↔ p.getD i 0=p.getD j 0/\q.getD i 0=q.getD j 0:=by
 have h1:i<(mV p q).length:=by rw[qV h];exact hi
 have h0:j<(mV p q).length:=by rw[qV h];exact hj
 rw[aT,oG h1 h0];simp only[mV,List.getElem_zipWith];rw[pairNo_inj (Nat.le_of_lt (hq _ (List.getElem_mem _))) (Nat.le_of_lt (hq _ (List.getElem_mem _))),zG hi,zG hj,zG (show i<q.length by omega),zG (show j<q.length by omega)]
theorem eI {d:DfaV}{p:List Nat}{a i:Nat}(hi:i<p.length):(nX d p a).getD i 0=p.getD (nx d i a) 0:=by
 rw[zG (by rw[rC];exact hi)];simp[nX]
theorem rR {p:List Nat}{n i:Nat}(h:∀ c∈p,c<n)(hn:0<n):p.getD i 0<n:=by
 by_cases hi:i<p.length
 ·rw[zG hi];exact h _ (List.getElem_mem hi)
 ·rw[List.getD,List.getElem?_eq_none (by omega)];exact hn
theorem rU {d:DfaV}{n k:Nat}(hd:VD d n k){p:List Nat}(hp:p.length=n)(hlt:∀ c∈p,c<n){i j:Nat}(hi:i<n)(hj:j<n):
  ∀ m,m<=k->((uJ d p m).getD i 0=(uJ d p m).getD j 0 ↔ p.getD i 0=p.getD j 0/\∀ a,a<m->p.getD (nx d i a) 0=p.getD (nx d j a) 0)
 | 0,_=>by simp[uJ]
 | m+1,hm=>by
  rw[uJ,both8_iff (by rw[rC,yV]) (fun c hc=>?_) (by rw[yV];omega) (by rw[yV];omega),rU hd hp hlt hi hj m (by omega),eI (by omega),eI (by omega)]
  ·constructor
   ·rintro ⟨⟨h1,h2⟩,h3⟩
    refine⟨h1,fun a ha=>?_⟩
    rcases Nat.lt_succ_iff_lt_or_eq.1 ha with ha|rfl
    ·exact h2 a ha
    ·exact h3
   ·rintro ⟨h1,h2⟩
    exact⟨⟨h1,fun a ha=>h2 a (by omega)⟩,h2 m (by omega)⟩
  ·rw[yV,hp]
   obtain⟨q,hq,rfl⟩:=List.mem_map.1 hc
   exact rR hlt hd.n1
theorem mE {d:DfaV}{p:List Nat}(hp:Norm p):∀ m,Norm (uJ d p m)
 | 0=>hp
 | m+1=>fK _
def cls (p:List Nat):Nat:=(zZ p).length
theorem cls_mono {p q:List Nat}(hl:q.length=p.length)(h:∀ i j,i<p.length->j<p.length->q.getD i 0=q.getD j 0->p.getD i 0=p.getD j 0):cls p<=cls q/\(cls p=cls q->∀ i j,i<p.length->j<p.length->p.getD i 0=p.getD j 0->q.getD i 0=q.getD j 0):=by
 let f:Nat->Nat:=fun c=>p.getD (q.idxOf c) 0
 have hf:∀ i,i<p.length->f (q.getD i 0)=p.getD i 0:=by
  intro i hi;have h9:i<q.length:=by omega
  have hm:q.getD i 0∈q:=by rw[zG h9];exact List.getElem_mem _
  have h8:=List.idxOf_lt_length_of_mem hm;refine h _ i (by omega) hi ?_;rw[zG h8,List.getElem_idxOf]
 have h3:∀ c∈zZ p,c∈(zZ q).map f:=by
  intro c hc;obtain⟨i,hi,rfl⟩:=List.getElem_of_mem (wF.1 hc);rw[List.mem_map];refine⟨q.getD i 0,wF.2 (by rw[zG (by omega)];exact List.getElem_mem _),?_⟩;rw[hf i hi,zG hi]
 have h5:(zZ p).length<=((zZ q).map f).length:=(rB p).length_le_of_subset h3;rw[List.length_map]at h5;refine⟨h5,fun e i j hi hj hp=>?_⟩
 have h4:∀ x∈zZ q,∀ y∈zZ q,f x=f y->x=y:=by
  intro x hx y hy h6;apply Classical.byContradiction;intro h7
  have h0:∀ c∈zZ p,c∈((zZ q).erase x).map f:=by
   intro c hc;obtain⟨z,hz,rfl⟩:=List.mem_map.1 (h3 c hc);by_cases e:z=x
   ·subst e
    exact List.mem_map.2 ⟨y,(List.mem_erase_of_ne (Ne.symm h7)).2 hy,h6.symm⟩
   ·exact List.mem_map.2 ⟨z,(List.mem_erase_of_ne e).2 hz,rfl⟩
  have h1:=(rB p).length_le_of_subset h0;rw[List.length_map,List.length_erase_of_mem hx]at h1;have h2:=List.length_pos_of_mem hx;unfold cls at e;omega
 have mem:∀ i,i<p.length->q.getD i 0∈zZ q:=fun i hi=>wF.2 (by rw[zG (by omega)];exact List.getElem_mem _);exact h4 _ (mem i hi) _ (mem j hj) (by rw[hf i hi,hf j hj,hp])
theorem iP (p:List Nat):cls p<=p.length:=tG p
theorem cQ (d:DfaV):Norm (kM d):=fK _
def yP (d:DfaV)(k:Nat):Nat->List Nat
 | 0=>kM d
 | m+1=>uJ d (yP d k m) k
theorem yS (d:DfaV)(k:Nat):∀ m,(yP d k m).length=d.final.length
 | 0=>nM d
 | m+1=>by rw[yP,yV,yS d k m]
theorem uQ (d:DfaV)(k:Nat):∀ m,Norm (yP d k m)
 | 0=>cQ d
 | m+1=>mE (uQ d k m) k
theorem qET (d:DfaV)(k m:Nat):∀ c∈yP d k m,c<d.final.length:=by
 have:=nP (uQ d k m)
 rwa [yS]at this
theorem aQ {p:List Nat}(h:0<p.length):0<cls p:=by
 have hm:p[0]∈zZ p:=wF.2 (List.getElem_mem h);exact List.length_pos_of_mem hm
theorem oB {d:DfaV}{n k:Nat}(hd:VD d n k){p:List Nat}(hp:p.length=n)(hn:Norm p)(hne:uJ d p k≠p):cls p<cls (uJ d p k):=by
 have h0:∀ c∈p,c<n:=by have:=nP hn;rwa [hp]at this
 obtain⟨h1,h2⟩:=cls_mono (p:=p) (q:=uJ d p k) (yV d p k) (fun i j hi hj h=>((rU hd hp h0 (by omega) (by omega) k (Nat.le_refl _)).1 h).1);refine Nat.lt_of_le_of_ne h1 fun e=>hne ?_;refine aD (mE hn k) hn ⟨yV d p k,fun i j hi hj=>?_⟩;rw[yV]at hi hj;exact⟨fun h=>((rU hd hp h0 (by omega) (by omega) k (Nat.le_refl _)).1 h).1,fun h=>h2 e i j hi hj h⟩
def yO (d:DfaV)(k:Nat):List Nat:=yP d k d.final.length
theorem qCA {d:DfaV}{k m:Nat}(h:uJ d (yP d k m) k=yP d k m):∀ j,m<=j->yP d k j=yP d k m
 | 0,hj=>by rw[show m=0 by omega]
 | j+1,hj=>by
  by_cases e:m=j+1
  ·rw[e]
  ·rw[yP,qCA h j (by omega),h]
theorem pD {d:DfaV}{k m:Nat}(hm:m<=d.final.length)(h:uJ d (yP d k m) k=yP d k m):yO d k=yP d k m:=qCA h _ hm
theorem qES {d:DfaV}{n k:Nat}(hd:VD d n k):∀ m,(∃ j,j<=m/\uJ d (yP d k j) k=yP d k j)\/m<cls (yP d k m)
 | 0=>.inr (aQ (by rw[yS,hd.hn];exact hd.n1))
 | m+1=>by
  rcases qES hd m with ⟨j,hj,h⟩|h
  ·exact .inl ⟨j,by omega,h⟩
  ·by_cases e:uJ d (yP d k m) k=yP d k m
   ·exact .inl ⟨m,by omega,e⟩
   ·have:=oB hd (by rw[yS,hd.hn]) (uQ d k m) e
    exact .inr (by rw[yP];omega)
theorem classesD_fix {d:DfaV}{n k:Nat}(hd:VD d n k):uJ d (yO d k) k=yO d k:=by
 rcases qES hd d.final.length with ⟨j,hj,h⟩|h
 ·rw[pD hj h,h]
 ·have:=iP (yP d k d.final.length)
  rw[yS]at this;omega
theorem wN (d:DfaV)(k:Nat):(yO d k).length=d.final.length:=yS _ _ _
theorem tY (d:DfaV)(k:Nat):Norm (yO d k):=uQ _ _ _
theorem firsts_norm {p:List Nat}(h:Norm p):zZ p=List.range (cls p):=by
 refine List.ext_getElem (by simp[cls]) fun i h1 h2=>?_;rw[List.getElem_range];have hm:=List.getElem_mem h1;obtain⟨q,hq,e⟩:=List.getElem_of_mem (wF.1 hm);have hh:(numb p)[q]'(by rw[yN];exact hq)=p[q]:=by simp only[show numb p=p from h]
 rw[qL hq,e]at hh;have h3:=List.idxOf_lt_length_of_mem hm;have h4:=List.getElem_idxOf h3;have:=(List.getElem_inj (rB p)).1 h4;omega
theorem oX {p:List Nat}(h:Norm p)(k:Nat):zZ (p.take k)=List.range (cls (p.take k)):=by
 have h1:=qR p k;rw[firsts_norm h]at h1;obtain⟨r,hr⟩:=h1;refine List.ext_getElem (by simp[cls]) fun i h1 h2=>?_;rw[List.getElem_range];have:(zZ (p.take k)++r)[i]'(by rw[List.length_append];omega)=i:=by simp only[hr,List.getElem_range]
 rwa [List.getElem_append_left h1]at this
theorem kR {p:List Nat}(h:Norm p){q:Nat}(hq:q<p.length):p.getD q 0<=cls (p.take q)/\(p.getD q 0=cls (p.take q)->cls (p.take (q+1))=cls (p.take q)+1)/\(p.getD q 0≠cls (p.take q)->cls (p.take (q+1))=cls (p.take q)):=by
 have h1:=oX h (q+1);have e:zZ (p.take (q+1))=xP (zZ (p.take q)) p[q]:=by rw[List.take_succ_eq_append_getElem hq,tJ]
 have h0:=oX h q;rw[zG hq];by_cases hm:p[q]∈zZ (p.take q)
 ·have h2:p[q]<cls (p.take q):=by rw[h0]at hm;exact List.mem_range.1 hm
  rw[uR hm]at e;have:cls (p.take (q+1))=cls (p.take q):=by unfold cls;rw[e]
  exact⟨by omega,fun h=>by omega,fun _=>this⟩
 ·rw[wV hm]at e
  have hc:cls (p.take (q+1))=cls (p.take q)+1:=by unfold cls;rw[e];simp
  have hl:p[q]=cls (p.take q):=by
   rw[h1,h0,hc,List.range_succ]at e;have:=List.append_cancel_left e;simpa using this.symm
  exact⟨by omega,fun _=>hc,fun h=>absurd hl h⟩
def uY (p:List Nat)(k:Nat):List Nat:=(List.range k).filter fun q=>p.getD q 0 == cls (p.take q)
theorem vK {p:List Nat}{k:Nat}(h:p.getD k 0=cls (p.take k)):uY p (k+1)=uY p k++[k]:=by
 rw[uY,List.range_succ,List.filter_append,List.filter_cons,if_pos (beq_iff_eq.2 h)];rfl
theorem vJ {p:List Nat}{k:Nat}(h:p.getD k 0≠cls (p.take k)):uY p (k+1)=uY p k:=by
 rw[uY,List.range_succ,List.filter_append,List.filter_cons,if_neg (fun e=>h (beq_iff_eq.1 e)),List.filter_nil,List.append_nil];rfl
theorem vO {p:List Nat}(h:Norm p):∀ k,k<=p.length->(uY p k).length=cls (p.take k)
 | 0,_=>by simp[uY,cls,zZ]
 | k+1,hk=>by
  obtain⟨h0,h1,h2⟩:=kR h (show k<p.length by omega)
  have ih:=vO h k (by omega)
  by_cases e:p.getD k 0=cls (p.take k)
  ·rw[vK e,List.length_append,ih,h1 e];rfl
  ·rw[vJ e,ih,h2 e]
theorem jN {p:List Nat}(h:Norm p):∀ k,k<=p.length->∀ c,c<cls (p.take k)->p.getD ((uY p k).getD c 0) 0=c/\(uY p k).getD c 0<k
 | 0,_,c,hc=>by simp[cls,zZ]at hc
 | k+1,hk,c,hc=>by
  obtain⟨h0,h1,h2⟩:=kR h (show k<p.length by omega)
  have hl:=vO h k (by omega)
  by_cases e:p.getD k 0=cls (p.take k)
  ·rw[h1 e]at hc
   rw[vK e]
   by_cases hc':c<cls (p.take k)
   ·have ih:=jN h k (by omega) c hc'
    rw[show (uY p k++[k]).getD c 0=(uY p k).getD c 0 from by simp[List.getD,List.getElem?_append_left (show c<(uY p k).length by omega)]]
    exact⟨ih.1,by omega⟩
   ·have hc2:c=(uY p k).length:=by omega
    rw[show (uY p k++[k]).getD c 0=k from by simp[List.getD,hc2]]
    exact⟨by omega,by omega⟩
  ·rw[h2 e]at hc
   rw[vJ e]
   have ih:=jN h k (by omega) c hc
   exact⟨ih.1,by omega⟩
def reps (p:List Nat):List Nat:=uY p p.length
def vH (p:List Nat)(r:List Int):List Int:=r.map fun s=>((p.getD s.toNat 0:Nat):Int)
def uT (d:DfaV)(p:List Nat):DfaV :=
 ⟨d.letters,((p.getD (st0 d) 0:Nat):Int),(reps p).map fun q=>d.final.getD q false,(reps p).map fun q=>vH p (d.next.getD q [])⟩
theorem tB {α β:Type}{l:List α}{f:α->β}{i:Nat}{x:α}{y:β}(h:i<l.length):(l.map f).getD i y=f (l.getD i x):=by
 rw[zG (by simpa using h),zG h];simp
theorem jQ {p:List Nat}{r:List Int}{a:Nat}(h:a<r.length):(vH p r).getD a 0=((p.getD (r.getD a 0).toNat 0:Nat):Int):=by
 rw[vH,tB (x:=0) h]
theorem rT {p:List Nat}(h:Norm p):(reps p).length=cls p:=by
 have:=vO h p.length (Nat.le_refl _)
 rwa [List.take_length]at this
theorem oA {p:List Nat}(h:Norm p){c:Nat}(hc:c<cls p):p.getD ((reps p).getD c 0) 0=c/\(reps p).getD c 0<p.length :=
 jN h p.length (Nat.le_refl _) c (by rwa [List.take_length])
theorem rV {p:List Nat}(h:Norm p){i:Nat}(hi:i<p.length):p.getD i 0<cls p:=by
 have:=qFZ (l:=p);rw[h]at this;rw[zG hi];exact this _ (List.getElem_mem hi)
section
variable {d:DfaV} {n k:Nat} {p:List Nat}
theorem bZ (hd:VD d n k)(hp:p.length=n)(hn:Norm p){c a:Nat}(hc:c<cls p)(ha:a<k):ent (uT d p).next c a=((p.getD (nx d ((reps p).getD c 0) a) 0:Nat):Int):=by
 have hr:=oA hn hc;unfold ent uT;rw[tB (x:=0) (by rw[rT hn];exact hc),jQ (by rw[hd.row _ (by omega)];exact ha)];rfl
theorem qCL (hd:VD d n k)(hp:p.length=n)(hn:Norm p):VD (uT d p) (cls p) k where
 hk:=hd.hk
 k1:=hd.k1
 k6:=hd.k6
 hn:=by simp[uT,rT hn]
 n1:=aQ (by rw[hp];exact hd.n1)
 nbig:=Nat.le_trans (iP p) (by rw[hp];exact hd.nbig)
 nl:=by simp[uT,rT hn]
 s0:=by simp[uT]
 sn:=by
  have:=rV hn (i:=st0 d) (by rw[hp];exact oT hd);simp only[uT];omega
 row:=fun c hc=>by
  simp only[uT];rw[tB (x:=0) (by rw[rT hn];exact hc)];have hr:=oA hn hc;rw[vH,List.length_map,hd.row _ (by omega)]
 lo:=fun c a hc ha=>by rw[bZ hd hp hn hc ha];omega
 hi:=fun c a hc ha=>by
  rw[bZ hd hp hn hc ha];have hr:=oA hn hc;have:=rV hn (i:=nx d ((reps p).getD c 0) a) (by rw[hp];exact nO hd (by omega) ha);omega
theorem quot_nx (hd:VD d n k)(hp:p.length=n)(hn:Norm p)(hst:uJ d p k=p){q a:Nat}(hq:q<n)(ha:a<k):nx (uT d p) (p.getD q 0) a=p.getD (nx d q a) 0:=by
 have h0:∀ c∈p,c<n:=by have:=nP hn;rwa [hp]at this
 have hc:=rV hn (i:=q) (by omega);have hr:=oA hn hc;have h1:=rU hd hp h0 (i:=(reps p).getD (p.getD q 0) 0) (j:=q) (by omega) hq k (Nat.le_refl _);rw[hst]at h1;have h2:=(h1.1 hr.1).2 a ha;show (ent (uT d p).next (p.getD q 0) a).toNat=_;rw[bZ hd hp hn hc ha,h2];simp
end
def run (d:DfaV)(q:Nat)(w:List Nat):Nat:=w.foldl (nx d) q
def yJ (k:Nat)(w:List Nat):Prop:=∀ a∈w,a<k
theorem qDJ {d:DfaV}{n k:Nat}(hd:VD d n k):∀ (w:List Nat) {q:Nat},q<n->yJ k w->run d q w<n
 | [],q,hq,_=>hq
 | a::w,q,hq,hw=>qDJ hd w (nO hd hq (hw a (by simp))) (fun b hb=>hw b (by simp[hb]))
theorem qDI (d:DfaV)(q:Nat)(w:List Nat)(a:Nat):run d q (w++[a])=nx d (run d q w) a:=by simp[run]
theorem run_append (d:DfaV)(q:Nat)(u v:List Nat):run d q (u++v)=run d (run d q u) v:=by simp[run]
theorem qDN {d:DfaV}{n k:Nat}{p:List Nat}(hd:VD d n k)(hp:p.length=n)(hn:Norm p)(hst:uJ d p k=p):∀ (w:List Nat) {q:Nat},q<n->yJ k w->run (uT d p) (p.getD q 0) w=p.getD (run d q w) 0
 | [],q,_,_=>rfl
 | a::w,q,hq,hw=>by
  have ha:=hw a (by simp)
  show run (uT d p) (nx (uT d p) (p.getD q 0) a) w=p.getD (run d (nx d q a) w) 0
  rw[quot_nx hd hp hn hst hq ha]
  exact qDN hd hp hn hst w (nO hd hq ha) (fun b hb=>hw b (by simp[hb]))
def wO (d:DfaV)(l:List Nat)(i:Nat):Nat->List Nat
 | 0=>l
 | a+1=>xP (wO d l i a) (nx d (l.getD i 0) a)
def rI (d:DfaV)(k:Nat):Nat->Nat->List Nat->List Nat
 | 0,_,l=>l
 | f+1,i,l=>if i<l.length then rI d k f (i+1) (wO d l i k) else l
def zV (d:DfaV)(k:Nat):List Nat:=rI d k d.final.length 0 [st0 d]
theorem uS (d:DfaV)(l:List Nat)(i:Nat):∀ a,l <+: wO d l i a
 | 0=>List.prefix_refl _
 | a+1=>(uS d l i a).trans (oO _ _)
theorem mC {d:DfaV}{l:List Nat}(h:l.Nodup)(i:Nat):∀ a,(wO d l i a).Nodup
 | 0=>h
 | a+1=>iQ (mC h i a)
theorem tM {d:DfaV}{l:List Nat}{i:Nat}{y:Nat}:∀ {a},y∈wO d l i a ↔ y∈l\/∃ b,b<a/\y=nx d (l.getD i 0) b
 | 0=>by simp[wO]
 | a+1=>by
  rw[wO,mJ,tM,or_assoc]
  refine or_congr_right ⟨?_,?_⟩
  ·rintro (⟨b,hb,h⟩|h)
   ·exact⟨b,by omega,h⟩
   ·exact⟨a,by omega,h⟩
  ·rintro ⟨b,hb,h⟩
   rcases Nat.lt_succ_iff_lt_or_eq.1 hb with hb|rfl
   ·exact .inl ⟨b,hb,h⟩
   ·exact .inr h
structure AccI (d:DfaV)(n k i:Nat)(l:List Nat):Prop where
 nd:l.Nodup
 lt:∀ q∈l,q<n
 hd:0<l.length/\l.getD 0 0=st0 d
 cl:∀ j a,j<i->j<l.length->a<k->nx d (l.getD j 0) a∈l
 re:∀ q∈l,∃ w,yJ k w/\run d (st0 d) w=q
theorem rY {l m:List Nat}(h:l <+: m){i:Nat}(hi:i<l.length):m.getD i 0=l.getD i 0:=by
 obtain⟨r,rfl⟩:=h;simp[List.getD,List.getElem?_append_left hi]
theorem AccI.row {d:DfaV}{n k i:Nat}{l:List Nat}(hd:VD d n k)(h:AccI d n k i l)(hi:i<l.length):AccI d n k (i+1) (wO d l i k):=by
 have hp:=uS d l i k;have h2:=hp.length_le;have h0:l.getD i 0∈l:=by rw[zG hi];exact List.getElem_mem _
 have h1:=h.lt _ h0;refine⟨mC h.nd i k,fun q hq=>?_,⟨by have:=h.hd.1;omega,by rw[rY hp h.hd.1];exact h.hd.2⟩,fun j a hj hjl ha=>?_,fun q hq=>?_⟩
 ·rcases tM.1 hq with hq|⟨b,hb,rfl⟩
  ·exact h.lt q hq
  ·exact nO hd h1 hb
 ·rw[rY hp (show j<l.length by omega)]
  rcases Nat.lt_succ_iff_lt_or_eq.1 hj with hj|rfl
  ·exact tM.2 (.inl (h.cl j a hj (by omega) ha))
  ·exact tM.2 (.inr ⟨a,ha,rfl⟩)
 ·rcases tM.1 hq with hq|⟨b,hb,rfl⟩
  ·exact h.re q hq
  ·obtain⟨w,hw,e⟩:=h.re _ h0
   refine⟨w++[b],fun c hc=>?_,by rw[qDI,e]⟩;rcases List.mem_append.1 hc with hc|hc
   ·exact hw c hc
   ·rw[List.mem_singleton]at hc;subst hc;exact hb
theorem mG {l:List Nat}{n:Nat}(h:l.Nodup)(hl:∀ q∈l,q<n):l.length<=n:=by
 have:=h.length_le_of_subset (fun q hq=>List.mem_range.2 (hl q hq));simpa using this
theorem AccI.start {d : DfaV}{n k : Nat}(hd : VD d n k): AccI d n k 0 [st0 d] :=
 ⟨by simp, fun q hq => by rw[List.mem_singleton]at hq; subst hq; exact oT hd, ⟨by simp, by simp⟩, fun j a hj => by omega, fun q hq => by
  rw[List.mem_singleton]at hq; subst hq; exact⟨[], fun a ha => by simp at ha, rfl⟩⟩
theorem qFB {d:DfaV}{n k:Nat}(hd:VD d n k):∀ f i l,AccI d n k i l->n<=i+f->AccI d n k n (rI d k f i l)/\(rI d k f i l).length<=n
 | 0,i,l,h,hf=>by
  have hl:=mG h.nd h.lt
  exact⟨⟨h.nd,h.lt,h.hd,fun j a hj hjl ha=>h.cl j a (by omega) hjl ha,h.re⟩,hl⟩
 | f+1,i,l,h,hf=>by
  rw[rI]
  split
  ·rename_i hi
   exact qFB hd f (i+1) _ (h.row hd hi) (by omega)
  ·rename_i hi
   have hl:=mG h.nd h.lt
   exact⟨⟨h.nd,h.lt,h.hd,fun j a hj hjl ha=>h.cl j a (by omega) hjl ha,h.re⟩,hl⟩
theorem xQ {d:DfaV}{n k:Nat}(hd:VD d n k):AccI d n k n (zV d k)/\(zV d k).length<=n:=qFB hd _ _ _ (AccI.start hd) (by rw[hd.hn];omega)
theorem eV {d:DfaV}{k f i:Nat}{l:List Nat}(h:¬ i<l.length):rI d k f i l=l:=by
 cases f with
 | zero=>rfl
 | succ f=>rw[rI,if_neg h]
def rD (l:List Nat)(q:Nat):Int:=if q∈l then (l.idxOf q:Int) else -1
def xS (l:List Nat)(r:List Int):List Int:=r.map fun s=>rD l s.toNat
def xT (d:DfaV)(k:Nat):DfaV:=⟨d.letters,0,(zV d k).map fun q=>d.final.getD q false,(zV d k).map fun q=>xS (zV d k) (d.next.getD q [])⟩
section
variable {d:DfaV} {n k:Nat}
theorem kC (hd:VD d n k){i a:Nat}(hi:i<(zV d k).length)(ha:a<k):ent (xT d k).next i a=(((zV d k).idxOf (nx d ((zV d k).getD i 0) a):Nat):Int):=by
 have hA:=(xQ hd).1;have hq:=hA.lt _ (show (zV d k).getD i 0∈zV d k by rw[zG hi];exact List.getElem_mem _);have hn:=(xQ hd).2;unfold ent xT;rw[tB (x:=0) hi,xS,tB (x:=0) (by rw[hd.row _ hq];exact ha),rD,if_pos]
 ·rfl
 ·exact hA.cl i a (by omega) hi ha
theorem lI (hd:VD d n k):VD (xT d k) (zV d k).length k where
 hk:=hd.hk
 k1:=hd.k1
 k6:=hd.k6
 hn:=by simp[xT]
 n1:=(xQ hd).1.hd.1
 nbig:=Nat.le_trans (xQ hd).2 hd.nbig
 nl:=by simp[xT]
 s0:=by simp[xT]
 sn:=by have:=(xQ hd).1.hd.1;simp only[xT];omega
 row:=fun i hi=>by
  have hA:=(xQ hd).1
  have hq:=hA.lt _ (show (zV d k).getD i 0∈zV d k by rw[zG hi];exact List.getElem_mem _)
  simp only[xT]
  rw[tB (x:=0) hi,xS,List.length_map,hd.row _ hq]
 lo:=fun i a hi ha=>by rw[kC hd hi ha];omega
 hi:=fun i a hi ha=>by
  have hn:=(xQ hd).2
  rw[kC hd hi ha]
  have:=List.idxOf_lt_length_of_mem ((xQ hd).1.cl i a (by omega) hi ha)
  omega
theorem qFJ (hd:VD d n k){i a:Nat}(hi:i<(zV d k).length)(ha:a<k):nx (xT d k) i a=(zV d k).idxOf (nx d ((zV d k).getD i 0) a):=by
 show (ent (xT d k).next i a).toNat=_;rw[kC hd hi ha];simp
theorem qDB (hd:VD d n k):∀ (w:List Nat) {i:Nat},i<(zV d k).length->yJ k w->(zV d k).getD (run (xT d k) i w) 0=run d ((zV d k).getD i 0) w
 | [],i,_,_=>rfl
 | a::w,i,hi,hw=>by
  have ha:=hw a (by simp)
  have hn:=(xQ hd).2
  have hm:=(xQ hd).1.cl i a (by omega) hi ha
  have hlt:=List.idxOf_lt_length_of_mem hm
  have h:=qDB hd w (i:=nx (xT d k) i a) (by rw[qFJ hd hi ha];exact hlt) (fun b hb=>hw b (by simp[hb]))
  show (zV d k).getD (run (xT d k) (nx (xT d k) i a) w) 0=run d (nx d ((zV d k).getD i 0) a) w
  rw[h,qFJ hd hi ha,zG hlt,List.getElem_idxOf]
theorem jK (hd:VD d n k){i:Nat}(hi:i<(zV d k).length):(xT d k).final.getD i false=d.final.getD ((zV d k).getD i 0) false:=by
 simp only[xT];rw[tB (x:=0) hi]
end
def minD (d:DfaV)(k:Nat):DfaV:=xT (uT d (yO d k)) k
def minN (d:DfaV)(k:Nat):Nat:=(zV (uT d (yO d k)) k).length
section
variable {d:DfaV} {n k:Nat}
theorem kI (hd:VD d n k):VD (uT d (yO d k)) (cls (yO d k)) k:=qCL hd (by rw[wN,hd.hn]) (tY d k)
theorem iJ (hd:VD d n k):VD (minD d k) (minN d k) k:=lI (kI hd)
theorem qGD (hd:VD d n k):minN d k<=n:=Nat.le_trans (xQ (kI hd)).2 (Nat.le_trans (iP _) (by rw[wN,hd.hn];exact Nat.le_refl _))
end
open Go.RowKit
def uW (B:Nat)(w:World)(v:Value)(d:DfaV):Prop:=∃ fv nv,v=.agg #[.int .i64 d.letters,.int .i64 d.start,fv,nv]/\Row B w fv (bls d.final)/\Mat B w nv d.next
theorem uW.kept {B:Nat}{w w':World}{v:Value}{d:DfaV}{row:Option Nat}(h:uW B w v d)(hg:w.grownBy w' row)(hr:∀ k,row=some k->B<=k):uW B w' v d:=by
 obtain⟨fv,nv,h1,h2,h3⟩:=h;exact⟨fv,nv,h1,h2.kept hg hr,h3.kept hg hr⟩
theorem uW.mono {B B':Nat}{w:World}{v:Value}{d:DfaV}(h:uW B w v d)(hB:B<=B'):uW B' w v d:=by
 obtain⟨fv,nv,h1,h2,h3⟩:=h;exact⟨fv,nv,h1,h2.mono hB,h3.mono hB⟩
theorem mX {d:DfaV}(h:d.letters<1\/6<d.letters):xD d=1:=by rw[xD,if_pos h]
theorem dJ {d:DfaV}(h:¬ (d.letters<1\/6<d.letters))(h2:512<d.final.length):xD d=3:=by rw[xD,if_neg h,if_pos h2]
theorem iD {d:DfaV}(h:¬ (d.letters<1\/6<d.letters))(h2:¬ 512<d.final.length)(h3:d.final.length=0\/d.next.length≠d.final.length\/d.start<0\/d.final.length<=d.start):xD d=4:=by rw[xD,if_neg h,if_neg h2,if_pos h3]
theorem rO {d:DfaV}(h:¬ (d.letters<1\/6<d.letters))(h2:¬ 512<d.final.length)(h3:¬ (d.final.length=0\/d.next.length≠d.final.length\/d.start<0\/d.final.length<=d.start)){q:Nat}(hq:q<d.next.length)(hb:rowD d.letters d.final.length (d.next.getD q [])=false):xD d=4:=by
 rw[xD,if_neg h,if_neg h2,if_neg h3,if_neg];intro ha;have:=List.all_eq_true.1 ha d.next[q] (List.getElem_mem hq);rw[zG hq,this]at hb;cases hb
theorem qAD {d:DfaV}(h:¬ (d.letters<1\/6<d.letters))(h2:¬ 512<d.final.length)(h3:¬ (d.final.length=0\/d.next.length≠d.final.length\/d.start<0\/d.final.length<=d.start))(ha:∀ q,q<d.next.length->rowD d.letters d.final.length (d.next.getD q [])=true):xD d=0:=by
 rw[xD,if_neg h,if_neg h2,if_neg h3,if_pos];rw[List.all_eq_true];intro r hr;obtain⟨q,hq,rfl⟩:=List.getElem_of_mem hr;have:=ha q hq
 rwa [zG hq]at this
theorem qDM {k:Int}{n:Nat}{r:List Int}(h:(r.length:Int)≠k):rowD k n r=false:=by simp[rowD,h]
theorem iY {k:Int}{n:Nat}{r:List Int}{y:Nat}(hy:y<r.length)(h:r.getD y 0<0\/n<=r.getD y 0):rowD k n r=false:=by
 rw[<- Bool.not_eq_true];intro hr;have:=(pZ.1 hr).2 y hy;omega
def qIR (d:DfaV)(k:Nat):Prop:=∀ x,x<k->rowD d.letters d.final.length (d.next.getD x [])=true
open Go.Maps
theorem sL:Try.prog.underlying 171=some (.map 3 3):=by kernel_rfl
theorem tV:Try.prog.underlying 3=some (.int .i64):=by kernel_rfl
theorem iW (w:World):(zeroValue 3).run Try.prog w=.ok (.int .i64 0) w:=by kernel_rfl
def Mid (x:Int):Prop:=-4611686018427387904<x/\x<4611686018427387904
theorem qBE {x:Int}(hx:Mid x):(Lit.int .i64 x).wf=true:=by
 have h1:IntKind.i64.min = -9223372036854775808:=rfl;have h2:IntKind.i64.max=9223372036854775807:=rfl;obtain⟨h3,h4⟩:=hx;simp[Lit.wf];omega
theorem qCP {x:Int}(hx:Mid x):keyOf Try.prog 3 (.int .i64 x)=some (.int .i64 x):=keyOf_int_mk (q:=.i64) (by kernel_rfl) (qBE hx)
def rM (w:World)(b n:Nat)(l:List Int):Prop :=
 ∃ D:DataW Unit,w.ownsMap Try.prog 3 (plainElem Try.prog 3) b n D/\size D=l.length /\
  ∀ x:Int,Mid x->has D (.int .i64 x)=decide (x∈l)/\D.atKey (.int .i64 x) (.lit (.int .i64 0))=.lit (.int .i64 (if x∈l then ((l.idxOf x:Nat):Int) else 0))
theorem rM.made (w:World):rM (w.alloc (.map #[] 0)) w.heap.size 0 []:=by
 refine⟨.map [],World.ownsMap_made _ _ _ _,rfl,fun x _=>⟨by simp[has_eq],?_⟩⟩;rw[WideAt.atKey_none _ (by simp)];simp
theorem rM.kept {w w':World}{b n:Nat}{l:List Int}{row:Option Nat}(h:rM w b n l)(hg:w.grownBy w' row)(hne:row≠some b):rM w' b n l:=by
 obtain⟨D,h1,h2,h3⟩:=h;exact⟨D,h1.kept hg (fun e=>hne e.symm),h2,h3⟩
theorem rM.mono {w:World}{b n n':Nat}{l:List Int}(h:rM w b n l)(hn:n<=n'):rM w b n' l:=by
 obtain⟨D,h1,h2,h3⟩:=h;exact⟨D,h1.mono hn,h2,h3⟩
theorem rM.lt {w:World}{b n:Nat}{l:List Int}(h:rM w b n l):b<w.heap.size:=by
 obtain⟨D,h1,_⟩:=h;exact h1.lt
theorem rM.lookup {w:World}{b n:Nat}{l:List Int}(h:rM w b n l){x:Int}(hx:Mid x):(Instr.lookup 171 (.map (some b)) (.int .i64 x) true).run Try.prog w=.ok (.tuple #[.int .i64 (if x∈l then ((l.idxOf x:Nat):Int) else 0),.bool (decide (x∈l))]) w:=by
 obtain⟨D,h1,h2,h3⟩:=h;obtain⟨v,ps,h0,hv⟩:=h1.look_ok aJ sL (iW w) (plainElem_int tV (by decide)) (qCP hx);obtain⟨c,rfl,hc,_⟩:=plainElem_int_inv tV hv;obtain⟨e1,e2⟩:=h3 x hx;have e3:=congrArg Prod.fst hc;simp only[e2]at e3;rw[h0,e1]
 have e4:(if x∈l then ((l.idxOf x:Nat):Int) else 0)=c:=by
  simp only[Lit.int.injEq,DataW.lit.injEq,true_and]at e3;exact e3
 rw[e4]
theorem rM.len {w:World}{b n:Nat}{l:List Int}(h:rM w b n l):(Builtin.len_ #[171] 3 #[.map (some b)]).run Try.prog w=.ok (.int .i64 (l.length:Nat)) w:=by
 obtain⟨D,h1,h2,h3⟩:=h;have h0:=h1.len sL 3;rw[h2]at h0;exact h0
theorem jM {w:World}{ops:Array Oper}{rest:List Oper}{o:Oper}{a:Act}{Q:Exit->Act->World->Prop}(hg:o.guard=none)(m x v:Operand)(hop:o.op=Op.mapUpdate 171 m x v)(b n:Nat)(l:List Int)(z:Int)(hm:a.eval m=.map (some b))(hx:a.eval x=.int .i64 z)(hv:a.eval v=.int .i64 (l.length:Nat))(h:rM w b n l)(hn:n<maxLen)(hz:Mid z)(hnew:z ∉ l)(hll:l.length<4611686018427387904)(hK:∀ w',rM w' b (n+1) (l++[z])->w.grownBy w' (some b)->wpList Try.prog ops Q rest (a.put o.dst undef) w'):wpList Try.prog ops Q (o::rest) a w:=by
 obtain⟨D,h1,h2,h3⟩:=h;obtain⟨w',h0,h4,h7⟩:=h1.update aJ sL hn (qCP hz) (plainElem_int tV (qBE (x:=((l.length:Nat):Int)) ⟨by omega,by omega⟩));have h6:WideAt.IsKeyLit (.int .i64 z):=by simp[WideAt.IsKeyLit]
 refine wpList_plain hg fun K' hK'=>?_;unfold Oper.wp;simp[execOp,hop,hm,hx,hv,h0,Result.andThen];refine hK' _ _ (hK w' ⟨_,h4,?_,fun y hy=>?_⟩ h7)
 ·rw[size_put (h1.tidy aJ),(h3 z hz).1,decide_eq_false hnew,h2];simp
 ·by_cases e:y=z
  ·subst e
   refine⟨by rw[has_put_same h1.isMap h6];simp,?_⟩;rw[atKey_put_same h1.isMap h6,if_pos (by simp),List.idxOf_append,if_neg hnew];simp
  ·have h5:(Lit.int .i64 y)≠Lit.int .i64 z:=by intro h;injection h with _ h;exact e h
   obtain⟨e1,e2⟩:=h3 y hy;refine⟨by rw[has_put_other h5,e1];simp[e],?_⟩;rw[atKey_put_other h5,e2];by_cases hyl:y∈l
   ·rw[if_pos hyl,if_pos (by simp[hyl]),List.idxOf_append,if_pos hyl]
   ·rw[if_neg hyl,if_neg (by simp[hyl,e])]
def vX (l:List Nat)(k:Nat):List Nat:=l.take k++List.replicate (l.length - k) 0
theorem oK (l:List Nat):vX l 0=List.replicate l.length 0:=by simp[vX]
theorem mO (l:List Nat):vX l l.length=l:=by simp[vX]
theorem xU {l:List Nat}{k:Nat}(h:k<=l.length):(vX l k).length=l.length:=by simp[vX];omega
theorem mM {l:List Nat}{k:Nat}(h:k<l.length):(vX l k).set k (l.getD k 0)=vX l (k+1):=by
 have hl:(l.take k).length=k:=by simp;omega
 unfold vX;rw[List.set_append_right _ _ (by omega),hl,Nat.sub_self,zR (d:=0) h,show l.length - k=(l.length - (k+1))+1 by omega,List.replicate_succ,List.set_cons_zero,List.append_assoc];rfl
def qII (w:World)(p:List Nat)(e:Ending)(w':World):Prop :=
 ∃ g,e=.returned (.slice (some ⟨g,0,none⟩) p.length p.length)/\w.heap.size<=g/\Arr w' g 3 (nats p)/\w.grownBy w' none
theorem numb_step {l:List Int}{k:Nat}(hk:k<l.length):(numb l).getD k 0=if l[k]∈zZ (l.take k) then (zZ (l.take k)).idxOf l[k] else (zZ (l.take k)).length:=by
 rw[zG (by rw[yN];exact hk),qL hk,<- qAZ hk,List.take_succ_eq_append_getElem hk,tJ];by_cases h:l[k]∈zZ (l.take k)
 ·rw[uR h,if_pos h]
 ·rw[wV h,if_neg h,List.idxOf_append,if_neg h];simp
theorem cZ (B:Nat)(w:World)(v:Value)(l:List Int)(hB:B<=w.heap.size)(h:Row B w v (ints l))(hmid:∀ x∈l,Mid x)(hle:l.length<=4194304):Calls Try.prog 102 #[v] w (qII w (numb l)):=by
 have c2:=@run_makeMap Try.prog;obtain⟨va,vc,rfl⟩:=h.shape;rw[yE]at h ⊢;have H:=Kh h;have HM:=Kh hmid;clear h hmid;obtain⟨w1,h4⟩:∃ w1,w1=w.alloc (.map #[] 0):=⟨_,rfl⟩;have a4:w.grownBy w1 none:=by rw[h4];exact Ga w _ none
 have c1:w1.heap.size=w.heap.size+1:=by rw[h4,zJ]
 have b5:Hid (rM w1 w.heap.size 0 []):=Kh (by rw[h4];exact rM.made w);have b6:=Kh a4;have b3:=Kh h4;clear a4 h4;go_enter Try.func102,Try.ntmps102;go_upto_region 2 with fail;rw[<- b3.out];go_wp2_with (first|(at_make;refine lO rfl _ _ _ rfl yU rfl .i64 .i64 _ _ l.length rfl rfl rfl rfl ?b1 ?b2 ?_)|fail)
 case b1=>omega
 case b2=>unfold maxLen;omega
 intro w2 h0 H6 H3;have a0:=Kh h0;have H9:=Kh H6;have c0:=H6.size;clear h0 H6;obtain⟨g,hg⟩:∃ g,g=w.heap.size+1:=⟨_,rfl⟩;rw[<- hg]at a0 ⊢;have c6:w.heap.size<g:=by omega
 have c5:g<w2.heap.size:=by omega
 clear hg H3;go_wp2
 go_loopg [5,6,7,8,15] l.length (fun gh a5 a6 a7 a8 i wr=>∃ k:Nat,gh+k=l.length/\i=.int .i64 k/\Arr wr g 3 (nats (vX (numb l) k))/\rM wr w.heap.size k (zZ (l.take k))/\w.grownBy wr none)
 case atStart=>exact⟨0,rfl,rfl,by rw[oK,yN,xI];exact a0.out,by simpa [zZ] using b5.out.kept H9.out (by simp),zD b6.out H9.out⟩
 case round =>
  clear a0 H9;obtain⟨k,hg,rfl,h0,h5,h9⟩:=hrel;have HG:=Kh hg;have HA:=Kh h0;have h8:=Kh h5;have H8:=Kh h9;have b8:=h9.size;have a2:(numb l).length=l.length:=yN l;clear hg h5;by_cases hk:k<l.length
  ·have c4:(k:Int)<l.length:=by omega
   obtain⟨ib,io,ic,e,_,_,_,a1⟩:=(H.out.kept h9 (by simp)).some_ (by rw[yE];omega);simp only[Value.slice.injEq]at e;obtain⟨rfl,-,-⟩:=e;have ck:=a1.int k hk;have H2:Mid (l.getD k 0):=(by rw[zG hk];exact HM.out _ (List.getElem_mem hk));have h2:=numb_step hk;rw[<- zG (d:=0) hk]at h2;have h7:zZ (l.take (k+1))=xP (zZ (l.take k)) (l.getD k 0):=by rw[List.take_succ_eq_append_getElem hk,tJ,zG hk]
   obtain⟨x,hx⟩:∃ x,x=l.getD k 0:=⟨_,rfl⟩;rw[<- hx]at ck H2 h2 h7;have h6:=tG (l.take k);rw[List.length_take]at h6;have H4:=h8.out.lookup H2;have h1:=mM (l:=numb l) (k:=k) (by omega);have c7:=frozen_of_row wr g k;have cgk:=h0.nat k (by rw[xU (by omega)];omega);have c8:(nats (vX (numb l) k)).length=l.length:=by rw[zT,xU (by omega)];omega
   have fgk:=h0.frozen k;clear a1 hx h9 h0;by_cases hin:x∈zZ (l.take k)
   ·rw[if_pos hin,decide_eq_true hin]at H4
    rw[if_pos hin]at h2;have H1:Hid (zZ (l.take (k+1))=zZ (l.take k)):=Kh (by rw[h7,uR hin]);obtain⟨c,hc⟩:∃ c,c=(zZ (l.take k)).idxOf x:=⟨_,rfl⟩;rw[<- hc]at H4 h2;rw[h2]at h1;have HS:=Kh h1;clear h2 h1 hc h7 hin;go_wp2;go_roundg (l.length - (k+1))
    case measure=>have:=HG.out;omega
    case rel =>
     refine⟨k+1,by omega,by go_num,?_,?_,?_⟩
     ·rw[<- HS.out];exact HA.out.nat_set k (by rw[xU (by omega)];omega) c
     ·rw[H1.out]
      exact(h8.out.kept (zC wr ⟨g,k,none⟩ _) (by simp;omega)).mono (by omega)
     ·exact zA H8.out (zC wr ⟨g,k,none⟩ _) (fun q e=>by have:=Oj e;simp at this;omega)
   ·rw[if_neg hin,decide_eq_false hin]at H4
    rw[if_neg hin]at h2;have H1:Hid (zZ (l.take (k+1))=zZ (l.take k)++[x]):=Kh (by rw[h7,wV hin]);have a9:=Kh hin;have b4:=Kh H2;rw[h2]at h1;have HS:=Kh h1;clear h2 h1 h7 hin cgk fgk;obtain⟨L,hL⟩:∃ L,L=zZ (l.take k):=⟨_,rfl⟩;rw[<- hL]at h8 H1 a9 HS h6;have c3:=h8.out.len;clear hL;go_wp2_with (first|(at_mapUpdate;refine jM rfl _ _ _ rfl w.heap.size k L x rfl rfl rfl h8.out (by unfold maxLen;omega) b4.out a9.out (by omega) ?_;intro w5 h3 H5;(have H0:=HA.out.kept H5 (by simp;omega));(have H7:=Kh h3);(have b0:=Kh H5);(have b7:=Kh H0);(have fg5:=H0.frozen k);(have cg5:=H0.nat k (by rw[xU (by omega)];omega));clear h3 H5 H0)|fail);go_roundg (l.length - (k+1))
    case measure=>have:=HG.out;omega
    case rel =>
     have b9:=b0.out.size;refine⟨k+1,by omega,by go_num,?_,?_,?_⟩
     ·rw[<- HS.out];exact b7.out.nat_set k (by rw[xU (by omega)];omega) _
     ·rw[H1.out]
      exact H7.out.kept (zC w5 ⟨g,k,none⟩ _) (by simp;omega)
     ·exact zA (zA H8.out b0.out (fun q e=>by have:=Oj e;omega)) (zC w5 ⟨g,k,none⟩ _) (fun q e=>by have:=Oj e;simp at this;omega)
  ·have a3:k=l.length:=by have:=HG.out;omega
   have HE:Hid (vX (numb l) k=numb l):=Kh (by rw[a3,<- a2];exact mO _);clear a3 h0;go_wp2;go_ret;refine⟨g,by rw[a2];rfl,by omega,?_,H8.out⟩;rw[<- HE.out];exact HA.out
end Go.Proofs.Ytjfdomfendbhfaa
