/- Part 2 of the proof. -/
import Derived.Test.YtcoimliafiammaaGreatQa1
import Derived.Maps.Own
import Derived.Maps.Views
import Derived.Maps.OwnSet
import Derived.Maps.OwnOps
import Derived.Deep.DeepCutAuto
import Derived.Deep.CutBlock
set_option linter.unusedVariables false
set_option linter.unusedSimpArgs false
set_option maxRecDepth 100000
set_option maxHeartbeats 16000000
namespace Go.Proofs.YtcoimliafiammaaGreat
open Go.RowKit
def qTR (w:World)(sz:Nat)(sv:Value)(m:Nat)(news:List Value):Prop :=
 (∃a cap,sv=.slice a 0 cap/\m=0/\news=[])\/∃b off cap,sv=.slice (some ⟨b,off,none⟩) m cap/\news.length=m*sz/\m<=maxLen/\∀j u,news[j]?=some u->w.cell? ⟨b,off+j,none⟩=some u
theorem Row.src {B:Nat}{w:World}{v:Value}{xs:List Value}(h:Row B w v xs):qTR w 1 v xs.length xs:=by
 rcases h with ⟨a,cap,rfl,rfl⟩|⟨b,off,cap,rfl,_,h2,h3,hra⟩
 ·exact .inl ⟨a,cap,rfl,rfl,rfl⟩
 refine .inr ⟨b,off,cap,rfl,by omega,by omega,fun j u hj=>?_⟩
 have h0:j<xs.length:=by
  rcases Nat.lt_or_ge j xs.length with h|h
  ·exact h
  rw[List.getElem?_eq_none h]at hj;cases hj
 rw[List.getElem?_eq_getElem h0]at hj;rw[hra.2 j h0,hj]
theorem iZ {P:Program}{w:World}(base:Nat)(t ty:TypeId){e:TypeId}{sz:Nat}{z:Value}{bytes:Nat}(E:ElemN P t e sz z bytes)(v:Value)(n:Nat)(xs:List Value)(a8:w.ownsRow base e sz v n xs)(sv:Value)(m:Nat)(a9:List Value)(a5:qTR w sz sv m a9)(h1:∀u∈a9,u.oneCell'=true)(a4:n+m<=maxLen)(a7:(n+m)*bytes<=140737488355328)(a6:base<=w.heap.size):∃v' w',(Builtin.append_ #[t,t] ty #[v,sv]).run P w=.ok v' w'/\w'.ownsRow base e sz v' (n+m) (xs++a9)/\w.grownBy w' v.ownBlock/\pG w w' v v':=by
 obtain⟨i,hi,hz,h5,H0⟩:=info_parts E.hi;have h7:=E.pos;have H1:n+m<=9223372036854775807:=by simp only[maxLen]at a4;omega
 have H2:∀(b off j:Nat),(⟨b,off,none⟩:Addr).add j=⟨b,off+j,none⟩:=fun b off j=>by unfold Addr.add;split<;>simp_all
 have stay:∀(a':Addr) (cap:Nat),m=0->a9=[]->∃v' w',(Builtin.append_ #[t,t] ty #[v,.slice (some a') 0 cap]).run P w=.ok v' w'/\w'.ownsRow base e sz v' (n+m) (xs++a9)/\w.grownBy w' v.ownBlock/\pG w w' v v':=by
  intro a' cap h9 hn;subst hn;subst h9;obtain⟨v',w',hr,h2,h3,h4⟩:=run_append_own (P:=P) w base t ty e i z sz bytes E.ht hi hz h5 H0 E.hz h7 v n xs a8 a' 0 cap [] (by simp) (fun j u hj=>by simp at hj) (fun u hu=>by simp at hu) (by simpa using a4) (by simpa using a7) a6;refine⟨v',w',hr,h2,h3,?_⟩;rcases a8.2 with ⟨rfl,rfl⟩|⟨b,bc,cur,rfl,hb,hg,hnc,hcm,hcs,htake⟩
  ·have:=h4.2 ⟨rfl,rfl⟩
   subst this;exact .inl rfl
  obtain⟨w2,h6,_⟩:=run_append_fits (P:=P) w base t ty e i sz E.ht hi h5 b n bc xs a8 a' 0 cap [] (by simp) (fun j u hj=>by simp at hj) (fun u hu=>by simp at hu) (by omega);rw[h6]at hr;injection hr with e1 e2;subst e1;exact .inl rfl
 rcases a5 with ⟨a',cap,rfl,rfl,rfl⟩|⟨b,off,cap,rfl,hnl,hml,hra⟩
 ·cases a' with
  | none =>
   have hr:(Builtin.append_ #[t,t] ty #[v,.slice none 0 cap]).run P w=.ok v w:=by
    rcases a8.2 with ⟨rfl,rfl⟩|⟨g,gc,cur,rfl,_,_,hnc,_⟩
    ·simp[Builtin.append_,run_underlying E.ht,sizeOf,typeInfo,hi,Builtin.lenOf,Builtin.firstCells]
    simp[Builtin.append_,run_underlying E.ht,sizeOf,typeInfo,hi,Builtin.lenOf,Builtin.firstCells,hnc,storeCells]
   exact⟨v,w,hr,by simpa using a8,zH _ _,.inl rfl⟩
  | some a'=>exact stay a' cap rfl rfl
 by_cases h9:m=0
 ·have H3:a9=[]:=List.eq_nil_of_length_eq_zero (by rw[hnl,h9];simp)
  subst h9;exact stay _ _ rfl H3
 have h0:∀j u',a9[j]?=some u'->w.cell? ((⟨b,off,none⟩:Addr).add j)=some u':=fun j u' hj=>by rw[H2];exact hra j u' hj
 obtain⟨v',w',hr,H6,H5,_⟩:=run_append_own (P:=P) w base t ty e i z sz bytes E.ht hi hz h5 H0 E.hz h7 v n xs a8 ⟨b,off,none⟩ m cap a9 hnl h0 h1 a4 a7 a6;refine⟨v',w',hr,H6,H5,?_⟩;rcases a8.2 with ⟨rfl,rfl⟩|⟨g,gc,cur,rfl,hb,hg,hnc,hcm,hcs,htake⟩
 ·have h6:=run_append_nil (P:=P) w t ty e i z E.ht hi hz ⟨b,off,none⟩ m cap a9 (by rw[hnl,h5]) h0 (by omega) (by omega) (by rw[H0];simp at a7;omega)
  rw[h6]at hr;injection hr with e1 e2;subst e1;subst e2;refine .inr ⟨wS (Ga w _ none) rfl rfl rfl rfl,fun k hk=>?_⟩;have:w.heap.size=k:=by simpa [Value.ownBlock] using hk
  omega
 by_cases hroom:n+m<=gc
 ·obtain⟨w2,h6,_⟩:=run_append_fits (P:=P) w base t ty e i sz E.ht hi h5 g n gc xs a8 ⟨b,off,none⟩ m cap a9 hnl h0 h1 hroom
  rw[h6]at hr;injection hr with e1 e2;subst e1;exact .inl rfl
 have h8:∀j u,xs[j]?=some u->w.cell? ((⟨g,0,none⟩:Addr).add j)=some u:=a8.cells (g:=g) rfl;have H4:xs.length=n*i.size:=by rw[h5];exact a8.1
 have h6:=run_append_grow (P:=P) w t ty e i z E.ht hi hz ⟨g,0,none⟩ n gc xs H4 h8 ⟨b,off,none⟩ m cap a9 (by rw[hnl,h5]) h0 (by omega) (by omega) (growslice_fits (by omega) (by rw[H0];exact a7));rw[h6]at hr;injection hr with e1 e2;subst e1;subst e2;refine .inr ⟨wS (Ga w _ none) rfl rfl rfl rfl,fun k hk=>?_⟩;have:w.heap.size=k:=by simpa [Value.ownBlock] using hk
 omega
section
variable {w0 W W':World} {F:Nat->Prop} {rs:List RowS} {ls ls':List (Nat×Obj)} {ps:List (Nat×TypeId×List Value)}
end
def wF (a0:Act)(l:List (Nat×Value)):Act:=l.foldl (fun a p=>a.put (some p.1) p.2) a0
section
variable {P:Program} {md:Region.Mode} {ops:Array Oper} {Q:Exit->Act->World->Prop} {G:Array Bool->World->Prop}
theorem gP {a9:Nat}{listed:Array Bool}{a:Act}{w:World}(h:∀Wp:Nat->Array Bool->Act->World->Prop,Wp=uA P md ops Q G->∀a0,a0=a->Wp a9 listed a0 w):uA P md ops Q G a9 listed a w:=h _ rfl _ rfl
end
theorem oI {P:Program}{ops:Array Oper}{o:Oper}{a:Act}{w:World}{K:Act->World->Prop}{Q:Exit->Act->World->Prop}{R:Prop}(a5:o.guard=none)(s x:Operand)(t:TypeId)(ho:o.op=.call { callee:=.builtin .append,args:=#[s,x],argTypes:=#[t,t] }){e:TypeId}{z:Value}{bytes:Nat}(E:ElemOk P t e z bytes)(base:Nat)(v:Value)(n:Nat)(xs:List Value)(hs:a.eval s=v)(a7:w.ownsRow base e 1 v n xs)(u:Value)(blk:Nat)(m:Nat×Nat)(hx:a.eval x=.slice (some ⟨blk,0,none⟩) 1 1)(a6:w.heap[blk]?=some (.cells #[u] e m))(h1:u.oneCell'=true)(a4:n+1<=maxLen)(a9:(n+1)*bytes<=140737488355328)(a8:base<=w.heap.size)(h:∀sa sc w',w'.ownsRow base e 1 (.slice sa (n+1) sc) (n+1) (xs++[u])->w.grownBy w' v.ownBlock->K (a.put o.dst (.slice sa (n+1) sc)) w'):
  if Region.wanted o (yielded ops a.tmps)=true then Oper.wp P o a w K Q else R:=by
 have hw:Region.wanted o (yielded ops a.tmps)=true:=by simp[Region.wanted,a5]
 rw[if_pos hw];obtain⟨i,hi,hz,h0,h3⟩:=info_parts E.hi;refine wp_append_own w s x t ho base e i z 1 bytes E.ht hi hz h0 h3 E.hz (by decide) v n xs hs a7 ⟨blk,0,none⟩ 1 1 [u] hx rfl ?_ ?_ a4 a9 a8 ?_
 ·intro j u' hj
  match j,hj with
  | 0,hj=>simp at hj;subst hj;simpa [Addr.add] using zJ a6 0
 ·intro u' hu;simp at hu;subst hu;exact h1
 ·intro v' w' h1 h2 _
  obtain⟨sa,sc,rfl⟩:=rD h1;exact h sa sc w' h1 h2
theorem qGG {P:Program}{w:World}{o:Oper}{a:Act}{K:Act->World->Prop}{Q:Exit->Act->World->Prop}(s x:Operand)(t:TypeId)(ho:o.op=.call { callee:=.builtin .append,args:=#[s,x],argTypes:=#[t,t] }){e:TypeId}{sz:Nat}{z:Value}{bytes:Nat}(E:ElemN P t e sz z bytes)(base:Nat)(v:Value)(n:Nat)(xs:List Value)(hs:a.eval s=v)(a7:w.ownsRow base e sz v n xs)(us:List Value)(g:Nat)(hx:a.eval x=.slice (some ⟨g,0,none⟩) 1 1)(m:Nat×Nat)(a5:us.length=sz)(hg:w.heap[g]?=some (.cells us.toArray e m))(h1:∀u∈us,u.oneCell'=true)(a6:n+1<=maxLen)(a9:(n+1)*bytes<=140737488355328)(a8:base<=w.heap.size)(h:∀sa sc w',w'.ownsRow base e sz (.slice sa (n+1) sc) (n+1) (xs++us)->w.grownBy w' v.ownBlock->pG w w' v (.slice sa (n+1) sc)->K (a.put o.dst (.slice sa (n+1) sc)) w'):o.wp P a w K Q:=by
 have h5:∀j,(⟨g,0,none⟩:Addr).add j=⟨g,j,none⟩:=fun j=>by unfold Addr.add;split<;>simp_all
 have h0:qTR w sz (.slice (some ⟨g,0,none⟩) 1 1) 1 us:=.inr ⟨g,0,1,rfl,by omega,by unfold maxLen;omega,fun i u hi=>by
  obtain⟨hl,e⟩:=List.getElem?_eq_some_iff.1 hi;have:=zJ hg i (by simpa using hl)
  rw[Nat.zero_add,this];simpa using e⟩
 obtain⟨v',w',hr,h2,h3,h4⟩:=iZ (P:=P) base t o.type E v n xs a7 _ 1 us h0 h1 a6 a9 a8;obtain⟨sa,sc,rfl⟩:=pJ h2;unfold Oper.wp execOp;simp only[ho,resolve,invoke,builtin,Sem.run_bind,Sem.run_pure,Result.andThen_ok,List.map_toArray,List.map_cons,List.map_nil,hs,hx,hr];exact h sa sc w' h2 h3 h4
theorem qO {P:Program}{ops:Array Oper}{w:World}{o:Oper}{a:Act}{K:Act->World->Prop}{Q:Exit->Act->World->Prop}{R:Prop}(a5:o.guard=none)(s x:Operand)(t:TypeId)(ho:o.op=.call { callee:=.builtin .append,args:=#[s,x],argTypes:=#[t,t] }){e:TypeId}{sz:Nat}{z:Value}{bytes:Nat}(E:ElemN P t e sz z bytes)(base:Nat)(v:Value)(n:Nat)(xs:List Value)(hs:a.eval s=v)(a7:w.ownsRow base e sz v n xs)(us:List Value)(g:Nat)(hx:a.eval x=.slice (some ⟨g,0,none⟩) 1 1)(m:Nat×Nat)(a6:us.length=sz)(hg:w.heap[g]?=some (.cells us.toArray e m))(h1:∀u∈us,u.oneCell'=true)(a4:n+1<=maxLen)(a9:(n+1)*bytes<=140737488355328)(a8:base<=w.heap.size)(h:∀sa sc w',w'.ownsRow base e sz (.slice sa (n+1) sc) (n+1) (xs++us)->w.grownBy w' v.ownBlock->pG w w' v (.slice sa (n+1) sc)->K (a.put o.dst (.slice sa (n+1) sc)) w'):if Region.wanted o (yielded ops a.tmps)=true then Oper.wp P o a w K Q else R:=by
 have hw:Region.wanted o (yielded ops a.tmps)=true:=by simp[Region.wanted,a5]
 rw[if_pos hw];exact qGG s x t ho E base v n xs hs a7 us g hx m a6 hg h1 a4 a9 a8 h
theorem jH {P:Program}{w:World}{ops:Array Oper}{a8:List Oper}{o:Oper}{a:Act}{Q:Exit->Act->World->Prop}(a4:o.guard=none)(s x:Operand)(t:TypeId)(ho:o.op=.call { callee:=.builtin .append,args:=#[s,x],argTypes:=#[t,t] }){e:TypeId}{sz:Nat}{z:Value}{bytes:Nat}(E:ElemN P t e sz z bytes)(base:Nat)(v:Value)(n:Nat)(xs:List Value)(hs:a.eval s=v)(a7:w.ownsRow base e sz v n xs)(us:List Value)(hx:a.eval x=.slice (some ⟨w.heap.size,0,none⟩) 1 1)(a5:us.length=sz)(h1:∀u∈us,u.oneCell'=true)(a3:n+1<=maxLen)(a9:(n+1)*bytes<=140737488355328)(a6:base<=w.heap.size)(h:∀sa sc w',w'.ownsRow base e sz (.slice sa (n+1) sc) (n+1) (xs++us)->w.grownBy w' v.ownBlock->wpList P ops Q a8 (a.put o.dst (.slice sa (n+1) sc)) w'):
  wpList P ops Q (o::a8) a (w.alloc (.cells us.toArray e)) :=
 wpList_plain a4 fun _ hK=>qGG s x t ho E base v n xs hs (a7.alloc _) us w.heap.size hx (0,0) a5 (heap_alloc_new w _) h1 a3 a9 (by simp;omega) fun sa sc w' h2 h3 _=>hK _ _ (h sa sc w' h2 (zC (Ga w _ _) h3))
theorem vZ {P:Program}{w:World}{ops:Array Oper}{a8:List Oper}{o:Oper}{a:Act}{Q:Exit->Act->World->Prop}(a4:o.guard=none)(s x:Operand)(t:TypeId)(ho:o.op=.call { callee:=.builtin .append,args:=#[s,x],argTypes:=#[t,t] }){e:TypeId}{sz:Nat}{z:Value}{bytes:Nat}(E:ElemN P t e sz z bytes)(base:Nat)(v:Value)(n:Nat)(xs:List Value)(hs:a.eval s=v)(a7:w.ownsRow base e sz v n xs)(us:List Value)(hx:a.eval x=.slice (some ⟨w.heap.size,0,none⟩) 1 1)(a5:us.length=sz)(h1:∀u∈us,u.oneCell'=true)(a3:n+1<=maxLen)(a9:(n+1)*bytes<=140737488355328)(a6:base<=w.heap.size)(h:∀sa sc w',w'.ownsRow base e sz (.slice sa (n+1) sc) (n+1) (xs++us)->w.grownBy w' v.ownBlock->pG w w' v (.slice sa (n+1) sc)->wpList P ops Q a8 (a.put o.dst (.slice sa (n+1) sc)) w'):
  wpList P ops Q (o::a8) a (w.alloc (.cells us.toArray e)) :=
 wpList_plain a4 fun _ hK=>qGG s x t ho E base v n xs hs (a7.alloc _) us w.heap.size hx (0,0) a5 (heap_alloc_new w _) h1 a3 a9 (by simp;omega) fun sa sc w' h2 h3 h4=>hK _ _ (h sa sc w' h2 (zC (Ga w _ _) h3) (by
  rcases h4 with h4|⟨h4,h5⟩
  ·exact .inl h4
  ·exact .inr ⟨zC (Ga w _ none) h4,fun k hk=>by have:=h5 k hk;rw[zL]at this;omega⟩))
theorem iI (p q:Nat->Bool)(a9:∀j,q j=true->p j=true):∀l:List Nat,(l.filter q).length<=(l.filter p).length
 | []=>Nat.le_refl _
 | x::l=>by
  have ih:=iI p q a9 l
  by_cases hq:q x=true
  ·rw[List.filter_cons_of_pos hq,List.filter_cons_of_pos (a9 x hq)]
   simp only[List.length_cons];omega
  ·rw[List.filter_cons_of_neg hq]
   by_cases hp:p x=true
   ·rw[List.filter_cons_of_pos hp];simp only[List.length_cons];omega
   ·rw[List.filter_cons_of_neg hp];exact ih
theorem iH (p q:Nat->Bool)(a9:∀j,q j=true->p j=true){i:Nat}(hp:p i=true)(hq:q i=false):∀l:List Nat,i∈l->(l.filter q).length<(l.filter p).length
 | [],h=>by cases h
 | x::l,h=>by
  rcases List.mem_cons.1 h with rfl|h'
  ·have:=iI p q a9 l
   rw[List.filter_cons_of_pos hp,List.filter_cons_of_neg (by rw[hq];simp)]
   simp only[List.length_cons];omega
  ·have ih:=iH p q a9 hp hq l h'
   by_cases hqx:q x=true
   ·rw[List.filter_cons_of_pos hqx,List.filter_cons_of_pos (a9 x hqx)]
    simp only[List.length_cons];omega
   ·rw[List.filter_cons_of_neg hqx]
    by_cases hpx:p x=true
    ·rw[List.filter_cons_of_pos hpx];simp only[List.length_cons];omega
    ·rw[List.filter_cons_of_neg hpx];exact ih
section
variable {P:Program} {md:Region.Mode} {ops:Array Oper} {Q:Exit->Act->World->Prop}
def qIZ (ops:Array Oper)(listed:Array Bool):Nat:=((List.range ops.size).filter fun i=>!listed.getD i true).length
theorem bY {listed:Array Bool}{i:Nat}(hi:i∈Region.ready md ops listed):qIZ ops (listed.setIfInBounds i true)<qIZ ops listed:=by
 obtain⟨h0,o,ho,_⟩:=mem_ready.1 hi
 have h1:i<ops.size:=by
  rcases Nat.lt_or_ge i ops.size with h|h
  ·exact h
  rw[Array.getElem?_eq_none h]at ho;cases ho
 refine iH _ _ (fun j hj=>?_) (i:=i) (by rw[h0];rfl) (by rw[uN];rfl) _ (List.mem_range.2 h1);by_cases e:i=j
 ·subst e;rw[uN]at hj;cases hj
 rwa [Go.getD_set_ne true e]at hj
end
section
variable {P:Program} {md:Region.Mode} {ops:Array Oper} {Q:Exit->Act->World->Prop} {G:Array Bool->World->Prop}
theorem bV (I : Array Bool → Act → World → Prop)(hG : ∀ l a w, I l a w → G l w)(a9 : ∀ i o, ops[i]? = some o → ∀ listed a w, I listed a w → listed.getD i true = false → (∀ e ∈ o.after, Region.binds md e = true → listed.getD e.on false = true) →
   ∀ K' : Act → World → Prop, Shut (∀ a w, I (listed.setIfInBounds i true) a w → K' a w) → if Region.wanted o (yielded ops a.tmps) = true then Oper.wp P o a w K' Q else K' (a.put o.dst undef) w)(a8 : ∀ listed a w, I listed a w → Region.ready md ops listed = [] → Q .normal a w):
  ∀ (fuel : Nat) (listed : Array Bool) (a : Act) (w : World), qIZ ops listed ≤ fuel → I listed a w → uA P md ops Q G fuel listed a w
 | 0, listed, a, w, hf, hI => by
  have hr : Region.ready md ops listed = [] := by
   rcases h : Region.ready md ops listed with _ | ⟨i, l⟩
   ·rfl
   ·have := bY (md := md) (ops := ops) (listed := listed) (i := i) (by rw [h]; exact List.mem_cons_self)
    omega
  exact ⟨hr, a8 _ _ _ hI hr⟩
 | fuel + 1, listed, a, w, hf, hI => by
  refine ⟨a8 _ _ _ hI, fun i hi => ?_⟩
  obtain ⟨h0, o, ho, hall⟩ := mem_ready.1 hi
  have hu := bY hi
  exact wpOp_mono (fun a' w' h => ⟨hG _ _ _ h, bV I hG a9 a8 fuel _ a' w' (by omega) h⟩) (wpOp_step (K := I (listed.setIfInBounds i true)) ho (fun K' hK => a9 i o ho _ _ _ hI h0 hall K' hK))
def qLI (P:Program)(md:Region.Mode)(ops:Array Oper)(Q:Exit->Act->World->Prop)(I:Array Bool->Act->World->Prop)(i:Nat)(o:Oper):Prop :=
 ∀listed a w,I listed a w->listed.getD i true=false->(∀e∈o.after,Region.binds md e=true->listed.getD e.on false=true) ->
  ∀K':Act->World->Prop,Shut (∀a w,I (listed.setIfInBounds i true) a w->K' a w)->if Region.wanted o (yielded ops a.tmps)=true then Oper.wp P o a w K' Q else K' (a.put o.dst undef) w
def kM (S:Nat->Oper->Prop):Nat->List Oper->Prop
 | _,[]=>True
 | k,o::l=>S k o/\kM S (k+1) l
def qYU (P:Program)(md:Region.Mode)(ops:Array Oper)(Q:Exit->Act->World->Prop)(I:Array Bool->Act->World->Prop)(listed:Array Bool)(a:Act)(w:World)(i:Nat)(o:Oper):Prop :=
 listed.getD i true=false->(∀e∈o.after,Region.binds md e=true->listed.getD e.on false=true) ->
  ∀K':Act->World->Prop,Shut (∀a w,I (listed.setIfInBounds i true) a w->K' a w)->if Region.wanted o (yielded ops a.tmps)=true then Oper.wp P o a w K' Q else K' (a.put o.dst undef) w
theorem qTN {I:Array Bool->Act->World->Prop}:∀ {k:Nat} {l:List Oper},(∀listed a w,I listed a w->kM (qYU P md ops Q I listed a w) k l)->kM (qLI P md ops Q I) k l
 | _,[],_=>trivial
 | _,_::_,h=>⟨fun listed a w hI=>(h listed a w hI).1,qTN (fun listed a w hI=>(h listed a w hI).2)⟩
theorem hs7Z {I:Array Bool->Act->World->Prop}{listed:Array Bool}{a:Act}{w:World}{i:Nat}{o:Oper}(h:listed.getD i true=true):qYU P md ops Q I listed a w i o:=fun hun=>absurd h (by rw[hun];simp)
theorem kM.get {S:Nat->Oper->Prop}:∀ {k:Nat} {l:List Oper},kM S k l->∀i o,l[i]?=some o->S (k+i) o
 | _,[],_,i,o,h=>by simp at h
 | k,x::l,h,0,o,e=>by
  have e:x=o:=by simpa using e
  subst e;exact h.1
 | k,x::l,h,i+1,o,e=>by
  have:=kM.get h.2 i o (by simpa using e)
  rwa [Nat.add_right_comm,Nat.add_assoc]at this
theorem xCT {S:Nat->Oper->Prop}{ops:Array Oper}(h:kM S 0 ops.toList):∀i o,ops[i]?=some o->S i o:=fun i o ho=>by
 have:=h.get i o (by simpa using ho)
 rwa [Nat.zero_add]at this
def xCL (ops:Array Oper):Bool:=(List.range ops.size).all fun i=>match ops[i]? with|some o=>o.after.all fun e=>decide (e.on<i)|none=>true
theorem qOE {listed:Array Bool}(hw:xCL ops=true)(hr:Region.ready md ops listed=[]):∀j,j<ops.size->listed.getD j true=true:=by
 intro j
 induction j using Nat.strongRecOn with
 | ind j ih =>
  intro hj;rcases hl:listed.getD j true with _|_
  ·exfalso
   have h0:j<listed.size:=by
    rcases Nat.lt_or_ge j listed.size with h|h
    ·exact h
    simp[h]at hl
   have hm:j∈Region.ready md ops listed:=by
    refine mem_ready.2 ⟨hl,ops[j],Array.getElem?_eq_getElem hj,fun e he _=>?_⟩;have h1:=List.all_eq_true.1 hw j (List.mem_range.2 hj);rw[Array.getElem?_eq_getElem hj]at h1
    have h2:e.on<j:=by
     have:=Array.all_eq_true'.1 h1 e he;simpa using this
    have h3:=ih e.on h2 (by omega);have h4:e.on<listed.size:=(by omega);simpa [h4] using h3
   rw[hr]at hm;cases hm
  rfl
theorem gO (I:Array Bool->Act->World->Prop)(hG:∀l a w,I l a w->G l w)(a8:∀(ops':Array Oper) (Q':Exit->Act->World->Prop),kM (qLI P md ops' Q' I) 0 ops.toList)(hw:xCL ops=true)(a7:∀listed a w,I listed a w->(∀j,j<ops.size->listed.getD j true=true)->Q .normal a w){a9:Nat}{listed:Array Bool}{a:Act}{w:World}(hf:qIZ ops listed<=a9)(hI:I listed a w):uA P md ops Q G a9 listed a w :=
 bV I hG (xCT (a8 ops Q)) (fun l a w h hr=>a7 l a w h (qOE hw hr)) a9 listed a w hf hI
end
theorem yI {l:Array Bool}{j:Nat}(h:l.getD j false=true):l.getD j true=true:=by
 rcases Nat.lt_or_ge j l.size with h'|h'
 ·simp[h']at h⊢;exact h
 simp[h']at h
theorem zS {l:Array Bool}{i j:Nat}(h:l.getD j true=true):(l.setIfInBounds i true).getD j true=true:=by
 by_cases e:i=j
 ·subst e;exact uN
 rwa [Go.getD_set_ne true e]
theorem yS {l:Array Bool}{i j:Nat}(a9:i≠j)(h:(l.setIfInBounds i true).getD j true=true):l.getD j true=true:=by rwa [Go.getD_set_ne true a9]at h
theorem bO {l:Array Bool}{i j:Nat}(h:(l.setIfInBounds i true).getD j true=false):l.getD j true=false:=by
 by_cases e:i=j
 ·subst e;rw[uN]at h;cases h
 rwa [Go.getD_set_ne true e]at h
theorem hs7P {l:Array Bool}{i j:Nat}{p:Prop}(h:Hid (l.getD j true=true->p))(a9:i≠j:=by decide):Hid ((l.setIfInBounds i true).getD j true=true->p):=Kh (fun e=>h.out (yS a9 e))
theorem hs7Q {l:Array Bool}{i j k:Nat}{p:Prop}(h:Hid (l.getD j true=true->l.getD k true=true/\p))(a9:i≠j:=by decide):Hid ((l.setIfInBounds i true).getD j true=true->(l.setIfInBounds i true).getD k true=true/\p) :=
 Kh (fun e=>⟨zS (h.out (yS a9 e)).1,(h.out (yS a9 e)).2⟩)
theorem hs7R {l:Array Bool}{i j k m:Nat}{p:Prop}(h:Hid (l.getD j true=true->l.getD k true=true/\l.getD m true=true/\p))(a9:i≠j:=by decide):Hid ((l.setIfInBounds i true).getD j true=true->(l.setIfInBounds i true).getD k true=true/\(l.setIfInBounds i true).getD m true=true/\p) :=
 Kh (fun e=>⟨zS (h.out (yS a9 e)).1,zS (h.out (yS a9 e)).2.1,(h.out (yS a9 e)).2.2⟩)
theorem hs7N {l:Array Bool}{i j:Nat}{p:Prop}(h:Hid (l.getD j true=false->p)):Hid ((l.setIfInBounds i true).getD j true=false->p):=Kh (fun e=>h.out (bO e))
theorem hs7A {l:Array Bool}{i j:Nat}{p q:Prop}(h:Hid (l.getD j true=true->l.getD i true=true/\p))(a9:l.getD i true=false)(a8:i≠j:=by decide):Hid ((l.setIfInBounds i true).getD j true=true->q) :=
 Kh (fun e=>absurd (h.out (yS a8 e)).1 (by rw[a9];simp))
theorem hs7B {l:Array Bool}{i j:Nat}{p q r:Prop}(h:Hid (l.getD j true=true->p/\l.getD i true=true/\r))(a9:l.getD i true=false)(a8:i≠j:=by decide):Hid ((l.setIfInBounds i true).getD j true=true->q) :=
 Kh (fun e=>absurd (h.out (yS a8 e)).2.1 (by rw[a9];simp))
theorem hs7C {l:Array Bool}{j:Nat}{p:Prop}(h:l.getD j true=false:=by decide +kernel):Hid (l.getD j true=true->p):=Kh (fun e=>absurd e (by rw[h];simp))
theorem uK {l:Array Bool}{i:Nat}{p:Prop}(h:(l.setIfInBounds i true).getD i true=false):p:=by rw[uN]at h;cases h
section
variable {w0 W W':World} {F:Nat->Prop} {rs:List RowS} {ls:List (Nat×Obj)}
theorem Many.far (h:Many w0 F W rs ls []){r:Nat}(hg:W.grownBy W' (some r))(hF:F r)(a8:r<w0.heap.size)(a9:∀(j:Nat) (s:RowS),rs[j]?=some s->s.v.ownBlock≠some r):Many w0 F W' rs ls [] where
 own:=fun j s hs=>(h.own j s hs).kept hg (.inr (a9 j s hs))
 mine:=h.mine
 apart:=h.apart
 lit:=fun p hp=>⟨zB (h.lit p hp).1 hg (fun e=>by have e:=Oj e;have:=(h.lit p hp).2.2;omega),(h.lit p hp).2⟩
 pre:=fun p hp=>by cases hp
 but:=h.but.step hg (fun k e=>.inl (by have e:=Oj e;subst e;exact hF))
theorem Many.make (h:Many w0 F W rs ls []){j base sz:Nat}{e:TypeId}{cs:List Value}{n:Nat}(hr:rs[j]?=some ⟨base,e,.slice none 0 0,0,[],sz⟩)(hb:base<=w0.heap.size)(hl:cs.length=n*sz)(hm:n<=maxLen):Many w0 F (W.alloc (.cells cs.toArray e)) (rs.set j ⟨base,e,.slice (some ⟨W.heap.size,0,none⟩) n n,n,cs,sz⟩) ls []:=by
 have hg:=Ga W (.cells cs.toArray e) none
 have:=h.append (W':=W.alloc (.cells cs.toArray e)) (j:=j) hr (v':=.slice (some ⟨W.heap.size,0,none⟩) n n) (n':=n) (us:=cs) (by
  have h9:=heap_alloc_new W (.cells cs.toArray e)
  exact⟨by simpa using hl,.inr ⟨W.heap.size,n,cs.toArray,rfl,Nat.le_trans hb h.but.size,h9,Nat.le_refl _,hm,by simp[hl],by simp[<-hl]⟩⟩) hg (.inr ⟨hg,fun k hk=>by
  have:W.heap.size=k:=by simpa [Value.ownBlock] using hk
  omega⟩)
 simpa using this
end
theorem Many.not_type {w0 W:World}{F:Nat->Prop}{rs:List RowS}{ls:List (Nat×Obj)}{ps:List (Nat×TypeId×List Value)}(h:Many w0 F W rs ls ps){r e':Nat}{c:Array Value}{m:Nat×Nat}(hr:W.heap[r]?=some (.cells c e' m))(a9:∀s∈rs,s.e≠e'):∀(j:Nat) (s:RowS),rs[j]?=some s->s.v.ownBlock≠some r :=
 fun j s hs=>zO (h.own j s hs) hr (a9 s (List.mem_of_getElem? hs))
theorem lJ {P:Program}{W:World}{o:Oper}{a:Act}{K:Act->World->Prop}{Q:Exit->Act->World->Prop}{R c0:Prop}[Decidable c0](a6:c0)(s x:Operand)(t:TypeId)(ho:o.op=.call { callee:=.builtin .append,args:=#[s,x],argTypes:=#[t,t] }){e:TypeId}{z:Value}{bytes:Nat}(E:ElemOk P t e z bytes)(j:Nat)(g c:Nat)(hx:a.eval x=.slice (some ⟨g,0,none⟩) 1 c){w0:World}{F:Nat->Prop}{rs:List RowS}{ls:List (Nat×Obj)}{ps:List (Nat×TypeId×List Value)}(h:Many w0 F W rs ls ps){r:RowS}(hr:rs[j]?=some r)(he:r.e=e)(a7:r.sz=1)(hs:a.eval s=r.v)(a5:r.n+1<=maxLen)(a9:(r.n+1)*bytes<=140737488355328)(a8:r.base<=w0.heap.size){u:Value}{m:Nat×Nat}(hl:(g,Obj.cells #[u] e m)∈ls)(h1:u.oneCell'=true)(hK:∀sa sc w',Many w0 F w' (rs.set j ⟨r.base,r.e,.slice sa (r.n+1) sc,r.n+1,r.xs++[u],r.sz⟩) ls ps->W.grownBy w' r.v.ownBlock->K (a.put o.dst (.slice sa (r.n+1) sc)) w'):if c0 then Oper.wp P o a W K Q else R:=by
 subst he;rw[if_pos a6];have hu:W.cell? ⟨g,0,none⟩=some u:=by simpa using zJ (h.lit _ hl).1 0 (by simp)
 obtain⟨v',w',h0,h2,h3,h4⟩:=nW (P:=P) r.base t o.type E r.v r.n r.xs (by have:=h.own j r hr;rwa [a7]at this) g c u hu h1 a5 a9 (Nat.le_trans a8 h.but.size);obtain⟨sa,sc,rfl⟩:=rD h2;unfold Oper.wp execOp;simp only[ho,resolve,invoke,builtin,Sem.run_bind,Sem.run_pure,Result.andThen_ok,List.map_toArray,List.map_cons,List.map_nil,hs,hx,h0];exact hK sa sc w' (h.append hr (by rw[a7];exact h2) h3 h4) h3
theorem mH {a0:Act}:∀ {l:List (Nat×Value)},(∀p∈l,p.2=a0.tmps.getD p.1 undef)->wF a0 l=a0
 | [],_=>rfl
 | p::l,h=>by
  have h1:=h p List.mem_cons_self
  have hp:a0.put (some p.1) p.2=a0:=by
   rw[h1];show Act.mk (a0.tmps.setIfInBounds p.1 (a0.tmps.getD p.1 undef)) a0.defers=a0
   have:a0.tmps.setIfInBounds p.1 (a0.tmps.getD p.1 undef)=a0.tmps:=by
    apply Array.ext
    ·simp
    ·intro i h1 h2
     rw[Array.getElem_setIfInBounds]
     split
     ·rename_i e;subst e;simp[h2]
     ·rfl
   rw[this]
  show wF (a0.put (some p.1) p.2) l=a0;rw[hp];exact mH fun q hq=>h q (List.mem_cons_of_mem _ hq)
theorem Many.start {w:World}{F:Nat->Prop}{rs:List RowS}(a9:∀r∈rs,w.ownsRow r.base r.e r.sz r.v r.n r.xs)(hF:∀r∈rs,∀k,r.v.ownBlock=some k->F k)(a8:rs.Pairwise (fun r s=>∀k,r.v.ownBlock=some k->s.v.ownBlock≠some k)):Many w F w rs [] [] where
 own:=fun j r hr=>a9 r (List.mem_of_getElem? hr)
 mine:=fun j r hr k hk=>.inl (hF r (List.mem_of_getElem? hr) k hk)
 apart:=fun i j r s hij hr hs k hk hk2=>by
  obtain⟨hi,hri⟩:=List.getElem?_eq_some_iff.1 hr
  obtain⟨hj,hsj⟩:=List.getElem?_eq_some_iff.1 hs
  rcases Nat.lt_or_gt_of_ne hij with h|h
  ·have:=List.pairwise_iff_getElem.1 a8 i j hi hj h k
   rw[hri,hsj]at this
   exact this hk hk2
  ·have:=List.pairwise_iff_getElem.1 a8 j i hj hi h k
   rw[hri,hsj]at this
   exact this hk2 hk
 lit:=fun p hp=>by simp at hp
 pre:=fun p hp=>by simp at hp
 but:=GrownBut.refl _ _
theorem qQR {w:World}{base base' e e' sz a8 n n':Nat}{v v':Value}{xs a9:List Value}(h:w.ownsRow base e sz v n xs)(h':w.ownsRow base' e' a8 v' n' a9)(a7:e≠e'):∀k,v.ownBlock=some k->v'.ownBlock≠some k:=by
 intro k hk e2;rcases h'.2 with ⟨hv,_⟩|⟨g,cap,cur,hv,_,hg,_⟩
 ·rw[hv]at e2;simp[Value.ownBlock]at e2
 rw[hv]at e2;have:g=k:=by simpa [Value.ownBlock] using e2
 subst this;exact zO h hg a7 hk
def lC:Code->Nat->Option (Array Oper)
 | .region i ops _,k=>if i=k then some ops else none
 | .seq a b,k=>match lC a k with
  | some o=>some o
  | none=>lC b k
 | .cond _ a b,k=>match lC a k with
  | some o=>some o
  | none=>lC b k
 | .block _ b,k=>lC b k
 | .loop b,k=>lC b k
 | .scope b,k=>lC b k
 | _,_=>none
def qDQ (f:Func)(k:Nat):Array Oper:=match f.body with
 | some b=>(lC b k).getD #[]
 | none=>#[]
open Go.Maps
theorem qBX:Keyed Tryz.prog 3:=int_keyed (q:=.i64) (by kernel_rfl)
end Go.Proofs.YtcoimliafiammaaGreat
namespace Go.Proofs.YtcoimliafiammaaGreat
def xV {α:Type}[DecidableEq α](acc:List α)(x:α):List α:=if x∈acc then acc else acc++[x]
def yE {α:Type}[DecidableEq α](l:List α):List α:=l.foldl xV []
section
variable {α:Type} [DecidableEq α]
theorem tK {acc:List α}{x:α}(h:x∈acc):xV acc x=acc:=if_pos h
theorem vK {acc:List α}{x:α}(h:x ∉ acc):xV acc x=acc++[x]:=if_neg h
theorem lR {acc:List α}{x y:α}:y∈xV acc x↔y∈acc\/y=x:=by
 unfold xV
 split
 ·rename_i h
  exact⟨.inl,fun h'=>by rcases h' with h'|rfl<;>assumption⟩
 simp
theorem sE (l:List α)(x:α):yE (l++[x])=xV (yE l) x:=by simp[yE,List.foldl_append]
theorem fM (l:List α):∀(acc:List α) (y:α),y∈l.foldl xV acc↔y∈acc\/y∈l:=by
 induction l with
 | nil=>intro acc y;simp
 | cons a l ih=>intro acc y;rw[List.foldl_cons,ih,lR,List.mem_cons];exact or_assoc
theorem wV {l:List α}{y:α}:y∈yE l↔y∈l:=by rw[yE,fM];simp
theorem fH {acc:List α}{x:α}(h:acc.Nodup):(xV acc x).Nodup:=by
 unfold xV
 split
 ·exact h
 rename_i hx
 rw[List.nodup_append];exact⟨h,by simp,fun a ha b hb=>by rw[List.mem_singleton]at hb;subst hb;rintro rfl;exact hx ha⟩
theorem iK (l:List α):∀ {acc:List α},acc.Nodup->(l.foldl xV acc).Nodup:=by
 induction l with
 | nil=>intro acc h;exact h
 | cons a l ih=>intro acc h;exact ih (fH h)
theorem rV (l:List α):(yE l).Nodup:=iK l (by simp)
theorem nS (acc:List α)(x:α):acc <+: xV acc x:=by
 unfold xV;split
 ·exact List.prefix_refl _
 exact List.prefix_append _ _
theorem jA (l:List α):∀(acc:List α),acc <+: l.foldl xV acc:=by
 induction l with
 | nil=>intro acc;exact List.prefix_refl _
 | cons a l ih=>intro acc;exact(nS acc a).trans (ih _)
theorem pS (l:List α)(k:Nat):yE (l.take k) <+: yE l:=by
 conv=>rhs;rw[<-List.take_append_drop k l]
 rw[yE,yE,List.foldl_append];exact jA _ _
theorem tW (l:List α):(yE l).length<=l.length:=by
 have key:∀(l acc:List α),(l.foldl xV acc).length<=acc.length+l.length:=by
  intro l
  induction l with
  | nil=>intro acc;simp
  | cons a l ih =>
   intro acc;rw[List.foldl_cons];have h1:=ih (xV acc a);have h2:(xV acc a).length<=acc.length+1:=by unfold xV;split<;>simp
   rw[List.length_cons];omega
 simpa [yE] using key l []
theorem fA {l m:List α}{x:α}(h:l <+: m)(hx:x∈l):m.idxOf x=l.idxOf x:=by
 obtain⟨r,rfl⟩:=h;rw[List.idxOf_append,if_pos hx]
theorem qFD {l:List α}{x y:α}(hx:x∈l)(h:l.idxOf x=l.idxOf y):x=y:=by
 have h1:=List.idxOf_lt_length_of_mem hx;have e1:=List.getElem_idxOf h1;have e2:=List.getElem_idxOf (show l.idxOf y<l.length by omega);rw[<-e1,<-e2];simp only[h]
def numb (l:List α):List Nat:=l.map fun x=>(yE l).idxOf x
theorem yW (l:List α):(numb l).length=l.length:=by simp[numb]
theorem pL {l:List α}{i:Nat}(h:i<l.length):(numb l)[i]'(by rw[yW];exact h)=(yE l).idxOf l[i]:=by simp[numb]
theorem qQY {l:List α}:∀c∈numb l,c<(yE l).length:=by
 intro c hc;obtain⟨x,hx,rfl⟩:=List.mem_map.1 hc;exact List.idxOf_lt_length_of_mem (wV.2 hx)
theorem nH {l:List α}{i j:Nat}(hi:i<l.length)(hj:j<l.length):(numb l).getD i 0=(numb l).getD j 0↔l[i]=l[j]:=by
 simp only[List.getD,List.getElem?_eq_getElem (show i<(numb l).length by rw[yW];exact hi),List.getElem?_eq_getElem (show j<(numb l).length by rw[yW];exact hj),Option.getD_some,pL hi,pL hj];exact⟨fun h=>qFD (wV.2 (List.getElem_mem hi)) h,fun h=>by rw[h]⟩
theorem qEK {l:List α}{k:Nat}(hk:k<l.length):(yE (l.take (k+1))).idxOf l[k]=(yE l).idxOf l[k]:=by
 refine(fA (pS l (k+1)) (wV.2 ?_)).symm;rw[List.take_succ_eq_append_getElem hk];exact List.mem_append_right _ (List.mem_singleton_self _)
end
def xAT (p q:List Nat):Prop:=p.length=q.length/\∀i j,i<p.length->j<p.length->(p.getD i 0=p.getD j 0↔q.getD i 0=q.getD j 0)
def Norm (p:List Nat):Prop:=numb p=p
theorem zG {α:Type}{l:List α}{i:Nat}{d:α}(h:i<l.length):l.getD i d=l[i]:=by simp[List.getD,List.getElem?_eq_getElem h]
theorem bS {α β:Type}[DecidableEq α][DecidableEq β](f:α->β)(l:List α)(h:∀x∈l,∀y∈l,f x=f y->x=y):yE (l.map f)=(yE l).map f:=by
 have key:∀(m acc:List α),(∀x∈acc++m,∀y∈acc++m,f x=f y->x=y)->(m.map f).foldl xV (acc.map f)=(m.foldl xV acc).map f:=by
  intro m
  induction m with
  | nil=>intro acc _;rfl
  | cons a m ih =>
   intro acc hh;rw[List.map_cons,List.foldl_cons,List.foldl_cons]
   have e:xV (acc.map f) (f a)=(xV acc a).map f:=by
    unfold xV;by_cases ha:a∈acc
    ·rw[if_pos ha,if_pos (List.mem_map_of_mem ha)]
    rw[if_neg ha,if_neg]
    ·simp
    intro hm;obtain⟨b,hb,e⟩:=List.mem_map.1 hm;have:=hh b (by simp[hb]) a (by simp) e;subst this;exact ha hb
   rw[e];refine ih _ fun x hx y hy=>hh x ?_ y ?_
   ·rw[List.mem_append,lR]at hx;simp;rcases hx with (h|h)|h<;>simp[h]
   rw[List.mem_append,lR]at hy;simp;rcases hy with (h|h)|h<;>simp[h]
 have:=key l [] (by simpa using h);simpa [yE] using this
theorem qBY {α β:Type}[DecidableEq α][DecidableEq β](f:α->β)(l:List α)(x:α)(hx:x∈l)(h:∀y∈l,f y=f x->y=x):(l.map f).idxOf (f x)=l.idxOf x:=by
 induction l with
 | nil=>simp at hx
 | cons a l ih =>
  rw[List.map_cons,List.idxOf_cons,List.idxOf_cons];by_cases e:a=x
  ·subst e;simp
  have:f a≠f x:=fun h'=>e (h a (by simp) h');simp only[beq_eq_false_iff_ne.2 this,beq_eq_false_iff_ne.2 e,cond_false];rw[ih (by simpa [Ne.symm e] using hx) (fun y hy=>h y (by simp[hy]))]
theorem aZ {α β:Type}[DecidableEq α][DecidableEq β]:∀(l:List α) (m:List β) (he:l.length=m.length),(∀i j (hi:i<l.length) (hj:j<l.length),(l[i]=l[j]↔m[i]'(by omega)=m[j]'(by omega)))->numb l=numb m:=by
 intro l m he h
 have key:∀(k:Nat) (hk:k<=l.length),∃ps:List (Fin l.length),yE (l.take k)=ps.map (fun i=>l[i])/\yE (m.take k)=ps.map (fun i=>m[i.1]'(by omega)):=by
  intro k
  induction k with
  | zero=>intro _;exact⟨[],by simp[yE],by simp[yE]⟩
  | succ k ih =>
   intro hk;obtain⟨ps,h1,h2⟩:=ih (by omega);have h3:k<l.length:=(by omega);rw[List.take_succ_eq_append_getElem h3,List.take_succ_eq_append_getElem (show k<m.length by omega),sE,sE,h1,h2]
   have h0:(l[k]∈ps.map (fun i=>l[i]))↔(m[k]'(by omega)∈ps.map (fun i=>m[i.1]'(by omega))):=by
    simp only[List.mem_map];constructor
    ·rintro ⟨i,hi,e⟩;exact⟨i,hi,(h i.1 k i.2 h3).1 e⟩
    rintro ⟨i,hi,e⟩;exact⟨i,hi,(h i.1 k i.2 h3).2 e⟩
   by_cases hm:l[k]∈ps.map (fun i=>l[i])
   ·exact⟨ps,tK hm,tK (h0.1 hm)⟩
   refine⟨ps++[⟨k,h3⟩],?_,?_⟩
   ·rw[vK hm];simp
   rw[vK (fun h'=>hm (h0.2 h'))];simp
 obtain⟨ps,h1,h2⟩:=key l.length (Nat.le_refl _);rw[List.take_length]at h1;rw[show m.take l.length=m from List.take_of_length_le (by omega)]at h2;refine List.ext_getElem (by simp[numb,he]) fun i hi _=>?_;rw[yW]at hi;rw[pL hi,pL (by omega),h1,h2]
 have aux:∀(qs:List (Fin l.length)),(qs.map (fun i=>l[i])).idxOf l[i]=(qs.map (fun i=>m[i.1]'(by omega))).idxOf (m[i]'(by omega)):=by
  intro qs
  induction qs with
  | nil=>simp
  | cons a qs ih =>
   rw[List.map_cons,List.map_cons,List.idxOf_cons,List.idxOf_cons,ih];have:=h a.1 i a.2 hi;by_cases e:l[a]=l[i]
   ·have e':=this.1 e
    simp only[beq_iff_eq.2 e,beq_iff_eq.2 e']
   have e':¬(m[a.1]'(by omega)=m[i]'(by omega)):=fun h'=>e (this.2 h');simp only[beq_eq_false_iff_ne.2 e,beq_eq_false_iff_ne.2 e']
 exact aux ps
theorem dJ {α:Type}[DecidableEq α](l:List α):Norm (numb l):=by
 refine aZ _ _ (yW l) fun i j hi hj=>?_;rw[yW]at hi hj;have:=nH (l:=l) hi hj;rw[zG (by rw[yW];exact hi),zG (by rw[yW];exact hj)]at this;exact this
theorem qBO {p q:List Nat}(hp:Norm p)(hq:Norm q)(h:xAT p q):p=q:=by
 rw[<-hp,<-hq];refine aZ _ _ h.1 fun i j hi hj=>?_;have:=h.2 i j hi hj;rw[zG hi,zG hj,zG (by rw[<-h.1];exact hi),zG (by rw[<-h.1];exact hj)]at this;exact this
structure DfaV where
 letters:Int
 start:Int
 final:List Bool
 next:List (List Int)
def rowD (letters:Int)(n:Nat)(r:List Int):Bool:=decide ((r.length:Int)=letters) && r.all fun x=>decide (0<=x/\x<n)
def xK (d:DfaV):Int :=
 if d.letters<1\/6<d.letters then 1 else if 512<d.final.length then 3
 else if d.final.length=0\/d.next.length≠d.final.length\/d.start<0\/d.final.length<=d.start then 4
 else if d.next.all (rowD d.letters d.final.length) then 0 else 4
structure VD (d:DfaV)(n k:Nat):Prop where
 hk:d.letters=k
 k1:1<=k
 k6:k<=6
 hn:d.final.length=n
 n1:1<=n
 nbig:n<=4194304
 nl:d.next.length=n
 s0:0<=d.start
 sn:d.start<n
 row:∀q,q<n->(d.next.getD q []).length=k
 lo:∀q a,q<n->a<k->0<=ent d.next q a
 hi:∀q a,q<n->a<k->ent d.next q a<n
theorem oY {k:Int}{n:Nat}{r:List Int}:rowD k n r=true↔(r.length:Int)=k/\∀y,y<r.length->0<=r.getD y 0/\r.getD y 0<n:=by
 simp only[rowD,Bool.and_eq_true,decide_eq_true_eq,List.all_eq_true];refine and_congr_right fun _=>⟨fun h y hy=>?_,fun h x hx=>?_⟩
 ·have:=h (r[y]) (List.getElem_mem hy)
  rwa [<-zG (d:=0) hy]at this
 obtain⟨y,hy,rfl⟩:=List.getElem_of_mem hx;have:=h y hy
 rwa [zG hy]at this
theorem bM {d:DfaV}(h:xK d=0):VD d d.final.length d.letters.toNat:=by
 unfold xK at h
 split at h
 ·omega
 rename_i h1
 split at h
 ·omega
 rename_i h2
 split at h
 ·omega
 rename_i h3
 split at h
 ·rename_i h4
  rw[List.all_eq_true]at h4
  have hr:∀q,q<d.next.length->rowD d.letters d.final.length (d.next.getD q [])=true:=fun q hq=>by
   rw[zG hq];exact h4 _ (List.getElem_mem hq)
  have h0:d.next.length=d.final.length:=by
   apply Classical.byContradiction;intro hh;exact h3 (.inr (.inl hh))
  refine⟨by omega,by omega,by omega,rfl,by omega,by omega,h0,by omega,by omega,fun q hq=>?_,fun q a hq ha=>?_,fun q a hq ha=>?_⟩
  ·have:=(oY.1 (hr q (by omega))).1;omega
  ·obtain⟨e,h⟩:=oY.1 (hr q (by omega))
   exact(h a (by omega)).1
  obtain⟨e,h⟩:=oY.1 (hr q (by omega));exact(h a (by omega)).2
 omega
theorem eG {d:DfaV}{n k:Nat}(h:VD d n k)(h5:n<=512):xK d=0:=by
 unfold xK
 rw[if_neg (by have:=h.hk;have:=h.k1;have:=h.k6;omega),if_neg (by have:=h.hn;omega),
  if_neg (by have:=h.hn;have:=h.n1;have:=h.nl;have:=h.s0;have:=h.sn;omega),if_pos]
 rw[List.all_eq_true];intro r hr;obtain⟨q,hq,rfl⟩:=List.getElem_of_mem hr;have h0:q<n:=by have:=h.nl;omega
 rw[oY];have hl:=h.row q h0;rw[zG hq]at hl;refine⟨by rw[hl,h.hk],fun y hy=>?_⟩;have h1:=h.lo q y h0 (by omega);have h2:=h.hi q y h0 (by omega);unfold ent at h1 h2;rw[zG hq]at h1 h2;rw[h.hn];exact⟨h1,h2⟩
def nx (d:DfaV)(q a:Nat):Nat:=entN d.next q a
theorem qQW {d:DfaV}{n k:Nat}(h:VD d n k){q a:Nat}(hq:q<n)(ha:a<k):(nx d q a:Int)=ent d.next q a:=Int.toNat_of_nonneg (h.lo q a hq ha)
theorem mP {d:DfaV}{n k:Nat}(h:VD d n k){q a:Nat}(hq:q<n)(ha:a<k):nx d q a<n:=by
 have h1:=qQW h hq ha;have h2:=h.hi q a hq ha;omega
def st0 (d:DfaV):Nat:=d.start.toNat
theorem qAX {d:DfaV}{n k:Nat}(h:VD d n k):(st0 d:Int)=d.start:=Int.toNat_of_nonneg h.s0
theorem oJ {d:DfaV}{n k:Nat}(h:VD d n k):st0 d<n:=by have:=qAX h;have:=h.sn;omega
def finB (b:Bool):Int:=if b then 1 else 0
def jX (d:DfaV):List Nat:=numb (d.final.map finB)
def lB (d:DfaV)(p:List Nat)(a:Nat):List Nat:=(List.range p.length).map fun q=>p.getD (nx d q a) 0
def qED (m:Nat)(a b:Nat):Int:=(a:Int)*(m+1)+b
def kC (p q:List Nat):List Int:=List.zipWith (qED p.length) p q
def qCM (p q:List Nat):List Nat:=numb (kC p q)
def uZ (d:DfaV)(p:List Nat):Nat->List Nat
 | 0=>p
 | k+1=>qCM (uZ d p k) (lB d p k)
theorem mM (d:DfaV):(jX d).length=d.final.length:=by simp[jX,yW]
theorem rW (d:DfaV)(p:List Nat)(a:Nat):(lB d p a).length=p.length:=by simp[lB]
theorem pV {p q:List Nat}(h:q.length=p.length):(kC p q).length=p.length:=by simp[kC,h]
theorem qGB {p q:List Nat}(h:q.length=p.length):(qCM p q).length=p.length:=by rw[qCM,yW,pV h]
theorem xD (d:DfaV)(p:List Nat):∀k,(uZ d p k).length=p.length
 | 0=>rfl
 | k+1=>by rw[uZ,qGB (by rw[rW,xD d p k]),xD d p k]
theorem mQ {p:List Nat}(h:Norm p):∀c∈p,c<p.length:=by
 intro c hc;have h1:=qQY (l:=p);rw[h]at h1;have:=h1 c hc;have:=tW p;omega
theorem qMU {m a b a' b':Nat}(hb:b<=m)(a9:b'<=m):qED m a b=qED m a' b'↔a=a'/\b=b':=by
 unfold qED;constructor
 ·intro h
  have h':a*(m+1)+b=a'*(m+1)+b':=by exact_mod_cast h
  have e1:(a*(m+1)+b) / (m+1)=a:=by rw[Nat.mul_comm,Nat.mul_add_div (by omega),Nat.div_eq_of_lt (by omega)];omega
  have e2:(a'*(m+1)+b') / (m+1)=a':=by rw[Nat.mul_comm,Nat.mul_add_div (by omega),Nat.div_eq_of_lt (by omega)];omega
  have ha:a=a':=by rw[<-e1,<-e2,h']
  subst ha;exact⟨rfl,by omega⟩
 rintro ⟨rfl,rfl⟩;rfl
theorem qTG {p q:List Nat}(h:q.length=p.length)(hq:∀c∈q,c<p.length){i j:Nat}(hi:i<p.length)(hj:j<p.length):(qCM p q).getD i 0=(qCM p q).getD j 0↔p.getD i 0=p.getD j 0/\q.getD i 0=q.getD j 0:=by
 have h1:i<(kC p q).length:=by rw[pV h];exact hi
 have h0:j<(kC p q).length:=by rw[pV h];exact hj
 rw[qCM,nH h1 h0];simp only[kC,List.getElem_zipWith];rw[qMU (Nat.le_of_lt (hq _ (List.getElem_mem _))) (Nat.le_of_lt (hq _ (List.getElem_mem _))),zG hi,zG hj,zG (show i<q.length by omega),zG (show j<q.length by omega)]
theorem cV {d:DfaV}{p:List Nat}{a i:Nat}(hi:i<p.length):(lB d p a).getD i 0=p.getD (nx d i a) 0:=by
 rw[zG (by rw[rW];exact hi)];simp[lB]
theorem qM {p:List Nat}{n i:Nat}(h:∀c∈p,c<n)(hn:0<n):p.getD i 0<n:=by
 by_cases hi:i<p.length
 ·rw[zG hi];exact h _ (List.getElem_mem hi)
 rw[List.getD,List.getElem?_eq_none (by omega)];exact hn
theorem qQ {d:DfaV}{n k:Nat}(hd:VD d n k){p:List Nat}(hp:p.length=n)(a9:∀c∈p,c<n){i j:Nat}(hi:i<n)(hj:j<n):
  ∀m,m<=k->((uZ d p m).getD i 0=(uZ d p m).getD j 0↔p.getD i 0=p.getD j 0/\∀a,a<m->p.getD (nx d i a) 0=p.getD (nx d j a) 0)
 | 0,_=>by simp[uZ]
 | m+1,hm=>by
  rw[uZ,qTG (by rw[rW,xD]) (fun c hc=>?_) (by rw[xD];omega) (by rw[xD];omega),qQ hd hp a9 hi hj m (by omega),cV (by omega),cV (by omega)]
  ·constructor
   ·rintro ⟨⟨h1,h2⟩,h3⟩
    refine⟨h1,fun a ha=>?_⟩
    rcases Nat.lt_succ_iff_lt_or_eq.1 ha with ha|rfl
    ·exact h2 a ha
    ·exact h3
   ·rintro ⟨h1,h2⟩
    exact⟨⟨h1,fun a ha=>h2 a (by omega)⟩,h2 m (by omega)⟩
  ·rw[xD,hp]
   obtain⟨q,hq,rfl⟩:=List.mem_map.1 hc
   exact qM a9 hd.n1
theorem lK {d:DfaV}{p:List Nat}(hp:Norm p):∀m,Norm (uZ d p m)
 | 0=>hp
 | m+1=>dJ _
def cls (p:List Nat):Nat:=(yE p).length
theorem qXO {p q:List Nat}(hl:q.length=p.length)(h:∀i j,i<p.length->j<p.length->q.getD i 0=q.getD j 0->p.getD i 0=p.getD j 0):cls p<=cls q/\(cls p=cls q->∀i j,i<p.length->j<p.length->p.getD i 0=p.getD j 0->q.getD i 0=q.getD j 0):=by
 let f:Nat->Nat:=fun c=>p.getD (q.idxOf c) 0
 have hf:∀i,i<p.length->f (q.getD i 0)=p.getD i 0:=by
  intro i hi;have h9:i<q.length:=by omega
  have hm:q.getD i 0∈q:=by rw[zG h9];exact List.getElem_mem _
  have h8:=List.idxOf_lt_length_of_mem hm;refine h _ i (by omega) hi ?_;rw[zG h8,List.getElem_idxOf]
 have h3:∀c∈yE p,c∈(yE q).map f:=by
  intro c hc;obtain⟨i,hi,rfl⟩:=List.getElem_of_mem (wV.1 hc);rw[List.mem_map];refine⟨q.getD i 0,wV.2 (by rw[zG (by omega)];exact List.getElem_mem _),?_⟩;rw[hf i hi,zG hi]
 have h5:(yE p).length<=((yE q).map f).length:=(rV p).length_le_of_subset h3;rw[List.length_map]at h5;refine⟨h5,fun e i j hi hj hp=>?_⟩
 have h4:∀x∈yE q,∀y∈yE q,f x=f y->x=y:=by
  intro x hx y hy h6;apply Classical.byContradiction;intro h7
  have h0:∀c∈yE p,c∈((yE q).erase x).map f:=by
   intro c hc;obtain⟨z,hz,rfl⟩:=List.mem_map.1 (h3 c hc);by_cases e:z=x
   ·subst e
    exact List.mem_map.2 ⟨y,(List.mem_erase_of_ne (Ne.symm h7)).2 hy,h6.symm⟩
   exact List.mem_map.2 ⟨z,(List.mem_erase_of_ne e).2 hz,rfl⟩
  have h1:=(rV p).length_le_of_subset h0;rw[List.length_map,List.length_erase_of_mem hx]at h1;have h2:=List.length_pos_of_mem hx;unfold cls at e;omega
 have mem:∀i,i<p.length->q.getD i 0∈yE q:=fun i hi=>wV.2 (by rw[zG (by omega)];exact List.getElem_mem _);exact h4 _ (mem i hi) _ (mem j hj) (by rw[hf i hi,hf j hj,hp])
theorem mW {α:Type}{l:List α}{d:α}{q:Nat}(h:q<l.length):l.getD q d∈l:=by
 rw[List.getD_eq_getElem?_getD,List.getElem?_eq_getElem h];exact List.getElem_mem _
theorem fE (p:List Nat):cls p<=p.length:=tW p
theorem aS (d:DfaV):Norm (jX d):=dJ _
def yY (d:DfaV)(k:Nat):Nat->List Nat
 | 0=>jX d
 | m+1=>uZ d (yY d k m) k
theorem yZ (d:DfaV)(k:Nat):∀m,(yY d k m).length=d.final.length
 | 0=>mM d
 | m+1=>by rw[yY,xD,yZ d k m]
theorem tJ (d:DfaV)(k:Nat):∀m,Norm (yY d k m)
 | 0=>aS d
 | m+1=>lK (tJ d k m) k
theorem qKY (d:DfaV)(k m:Nat):∀c∈yY d k m,c<d.final.length:=by
 have:=mQ (tJ d k m)
 rwa [yZ]at this
theorem qCJ {p:List Nat}(h:0<p.length):0<cls p:=by
 have hm:p[0]∈yE p:=wV.2 (List.getElem_mem h);exact List.length_pos_of_mem hm
theorem nC {d:DfaV}{n k:Nat}(hd:VD d n k){p:List Nat}(hp:p.length=n)(hn:Norm p)(a9:uZ d p k≠p):cls p<cls (uZ d p k):=by
 have h0:∀c∈p,c<n:=by have:=mQ hn;rwa [hp]at this
 obtain⟨h1,h2⟩:=qXO (p:=p) (q:=uZ d p k) (xD d p k) (fun i j hi hj h=>((qQ hd hp h0 (by omega) (by omega) k (Nat.le_refl _)).1 h).1);refine Nat.lt_of_le_of_ne h1 fun e=>a9 ?_;refine qBO (lK hn k) hn ⟨xD d p k,fun i j hi hj=>?_⟩;rw[xD]at hi hj;exact⟨fun h=>((qQ hd hp h0 (by omega) (by omega) k (Nat.le_refl _)).1 h).1,fun h=>h2 e i j hi hj h⟩
def yX (d:DfaV)(k:Nat):List Nat:=yY d k d.final.length
theorem qFV {d:DfaV}{k m:Nat}(h:uZ d (yY d k m) k=yY d k m):∀j,m<=j->yY d k j=yY d k m
 | 0,hj=>by rw[show m=0 by omega]
 | j+1,hj=>by
  by_cases e:m=j+1
  ·rw[e]
  ·rw[yY,qFV h j (by omega),h]
theorem oC {d:DfaV}{k m:Nat}(hm:m<=d.final.length)(h:uZ d (yY d k m) k=yY d k m):yX d k=yY d k m:=qFV h _ hm
theorem qKX {d:DfaV}{n k:Nat}(hd:VD d n k):∀m,(∃j,j<=m/\uZ d (yY d k j) k=yY d k j)\/m<cls (yY d k m)
 | 0=>.inr (qCJ (by rw[yZ,hd.hn];exact hd.n1))
 | m+1=>by
  rcases qKX hd m with ⟨j,hj,h⟩|h
  ·exact .inl ⟨j,by omega,h⟩
  ·by_cases e:uZ d (yY d k m) k=yY d k m
   ·exact .inl ⟨m,by omega,e⟩
   ·have:=nC hd (by rw[yZ,hd.hn]) (tJ d k m) e
    exact .inr (by rw[yY];omega)
theorem qFW {d:DfaV}{n k:Nat}(hd:VD d n k):uZ d (yX d k) k=yX d k:=by
 rcases qKX hd d.final.length with ⟨j,hj,h⟩|h
 ·rw[oC hj h,h]
 have:=fE (yY d k d.final.length);rw[yZ]at this;omega
theorem vD (d:DfaV)(k:Nat):(yX d k).length=d.final.length:=yZ _ _ _
theorem sU (d:DfaV)(k:Nat):Norm (yX d k):=tJ _ _ _
theorem qHW {p:List Nat}(h:Norm p):yE p=List.range (cls p):=by
 refine List.ext_getElem (by simp[cls]) fun i h1 h2=>?_;rw[List.getElem_range];have hm:=List.getElem_mem h1;obtain⟨q,hq,e⟩:=List.getElem_of_mem (wV.1 hm);have hh:(numb p)[q]'(by rw[yW];exact hq)=p[q]:=by simp only[show numb p=p from h]
 rw[pL hq,e]at hh;have h3:=List.idxOf_lt_length_of_mem hm;have h4:=List.getElem_idxOf h3;have:=(List.getElem_inj (rV p)).1 h4;omega
theorem nZ {p:List Nat}(h:Norm p)(k:Nat):yE (p.take k)=List.range (cls (p.take k)):=by
 have h1:=pS p k;rw[qHW h]at h1;obtain⟨r,hr⟩:=h1;refine List.ext_getElem (by simp[cls]) fun i h1 h2=>?_;rw[List.getElem_range];have:(yE (p.take k)++r)[i]'(by rw[List.length_append];omega)=i:=by simp only[hr,List.getElem_range]
 rwa [List.getElem_append_left h1]at this
theorem iC {p:List Nat}(h:Norm p){q:Nat}(hq:q<p.length):p.getD q 0<=cls (p.take q)/\(p.getD q 0=cls (p.take q)->cls (p.take (q+1))=cls (p.take q)+1)/\(p.getD q 0≠cls (p.take q)->cls (p.take (q+1))=cls (p.take q)):=by
 have h1:=nZ h (q+1);have e:yE (p.take (q+1))=xV (yE (p.take q)) p[q]:=by rw[List.take_succ_eq_append_getElem hq,sE]
 have h0:=nZ h q;rw[zG hq];by_cases hm:p[q]∈yE (p.take q)
 ·have h2:p[q]<cls (p.take q):=by rw[h0]at hm;exact List.mem_range.1 hm
  rw[tK hm]at e;have:cls (p.take (q+1))=cls (p.take q):=by unfold cls;rw[e]
  exact⟨by omega,fun h=>by omega,fun _=>this⟩
 rw[vK hm]at e;have hc:cls (p.take (q+1))=cls (p.take q)+1:=by unfold cls;rw[e];simp
 have hl:p[q]=cls (p.take q):=by
  rw[h1,h0,hc,List.range_succ]at e;have:=List.append_cancel_left e;simpa using this.symm
 exact⟨by omega,fun _=>hc,fun h=>absurd hl h⟩
def tR (p:List Nat)(k:Nat):List Nat:=(List.range k).filter fun q=>p.getD q 0 == cls (p.take q)
theorem uC {p:List Nat}{k:Nat}(h:p.getD k 0=cls (p.take k)):tR p (k+1)=tR p k++[k]:=by
 rw[tR,List.range_succ,List.filter_append,List.filter_cons,if_pos (beq_iff_eq.2 h)];rfl
theorem uB {p:List Nat}{k:Nat}(h:p.getD k 0≠cls (p.take k)):tR p (k+1)=tR p k:=by
 rw[tR,List.range_succ,List.filter_append,List.filter_cons,if_neg (fun e=>h (beq_iff_eq.1 e)),List.filter_nil,List.append_nil];rfl
theorem uL {p:List Nat}(h:Norm p):∀k,k<=p.length->(tR p k).length=cls (p.take k)
 | 0,_=>by simp[tR,cls,yE]
 | k+1,hk=>by
  obtain⟨h0,h1,h2⟩:=iC h (show k<p.length by omega)
  have ih:=uL h k (by omega)
  by_cases e:p.getD k 0=cls (p.take k)
  ·rw[uC e,List.length_append,ih,h1 e];rfl
  ·rw[uB e,ih,h2 e]
theorem hJ {p:List Nat}(h:Norm p):∀k,k<=p.length->∀c,c<cls (p.take k)->p.getD ((tR p k).getD c 0) 0=c/\(tR p k).getD c 0<k
 | 0,_,c,hc=>by simp[cls,yE]at hc
 | k+1,hk,c,hc=>by
  obtain⟨h0,h1,h2⟩:=iC h (show k<p.length by omega)
  have hl:=uL h k (by omega)
  by_cases e:p.getD k 0=cls (p.take k)
  ·rw[h1 e]at hc
   rw[uC e]
   by_cases hc':c<cls (p.take k)
   ·have ih:=hJ h k (by omega) c hc'
    rw[show (tR p k++[k]).getD c 0=(tR p k).getD c 0 from by simp[List.getD,List.getElem?_append_left (show c<(tR p k).length by omega)]]
    exact⟨ih.1,by omega⟩
   ·have hc2:c=(tR p k).length:=by omega
    rw[show (tR p k++[k]).getD c 0=k from by simp[List.getD,hc2]]
    exact⟨by omega,by omega⟩
  ·rw[h2 e]at hc
   rw[uB e]
   have ih:=hJ h k (by omega) c hc
   exact⟨ih.1,by omega⟩
def reps (p:List Nat):List Nat:=tR p p.length
def uJ (p:List Nat)(r:List Int):List Int:=r.map fun s=>((p.getD s.toNat 0:Nat):Int)
def tO (d:DfaV)(p:List Nat):DfaV :=
 ⟨d.letters,((p.getD (st0 d) 0:Nat):Int),(reps p).map fun q=>d.final.getD q false,(reps p).map fun q=>uJ p (d.next.getD q [])⟩
theorem tU {α β:Type}{l:List α}{f:α->β}{i:Nat}{x:α}{y:β}(h:i<l.length):(l.map f).getD i y=f (l.getD i x):=by
 rw[zG (by simpa using h),zG h];simp
theorem gA {p:List Nat}{r:List Int}{a:Nat}(h:a<r.length):(uJ p r).getD a 0=((p.getD (r.getD a 0).toNat 0:Nat):Int):=by
 rw[uJ,tU (x:=0) h]
theorem qP {p:List Nat}(h:Norm p):(reps p).length=cls p:=by
 have:=uL h p.length (Nat.le_refl _)
 rwa [List.take_length]at this
theorem oZ {p:List Nat}(h:Norm p){c:Nat}(hc:c<cls p):p.getD ((reps p).getD c 0) 0=c/\(reps p).getD c 0<p.length :=
 hJ h p.length (Nat.le_refl _) c (by rwa [List.take_length])
theorem qS {p:List Nat}(h:Norm p){i:Nat}(hi:i<p.length):p.getD i 0<cls p:=by
 have:=qQY (l:=p);rw[h]at this;rw[zG hi];exact this _ (List.getElem_mem hi)
section
variable {d:DfaV} {n k:Nat} {p:List Nat}
theorem qBI (hd:VD d n k)(hp:p.length=n)(hn:Norm p){c a:Nat}(hc:c<cls p)(ha:a<k):ent (tO d p).next c a=((p.getD (nx d ((reps p).getD c 0) a) 0:Nat):Int):=by
 have hr:=oZ hn hc;unfold ent tO;rw[tU (x:=0) (by rw[qP hn];exact hc),gA (by rw[hd.row _ (by omega)];exact ha)];rfl
theorem qHB (hd:VD d n k)(hp:p.length=n)(hn:Norm p):VD (tO d p) (cls p) k where
 hk:=hd.hk
 k1:=hd.k1
 k6:=hd.k6
 hn:=by simp[tO,qP hn]
 n1:=qCJ (by rw[hp];exact hd.n1)
 nbig:=Nat.le_trans (fE p) (by rw[hp];exact hd.nbig)
 nl:=by simp[tO,qP hn]
 s0:=by simp[tO]
 sn:=by
  have:=qS hn (i:=st0 d) (by rw[hp];exact oJ hd);simp only[tO];omega
 row:=fun c hc=>by
  simp only[tO];rw[tU (x:=0) (by rw[qP hn];exact hc)];have hr:=oZ hn hc;rw[uJ,List.length_map,hd.row _ (by omega)]
 lo:=fun c a hc ha=>by rw[qBI hd hp hn hc ha];omega
 hi:=fun c a hc ha=>by
  rw[qBI hd hp hn hc ha];have hr:=oZ hn hc;have:=qS hn (i:=nx d ((reps p).getD c 0) a) (by rw[hp];exact mP hd (by omega) ha);omega
theorem qZJ (hd:VD d n k)(hp:p.length=n)(hn:Norm p)(a9:uZ d p k=p){q a:Nat}(hq:q<n)(ha:a<k):nx (tO d p) (p.getD q 0) a=p.getD (nx d q a) 0:=by
 have h0:∀c∈p,c<n:=by have:=mQ hn;rwa [hp]at this
 have hc:=qS hn (i:=q) (by omega);have hr:=oZ hn hc;have h1:=qQ hd hp h0 (i:=(reps p).getD (p.getD q 0) 0) (j:=q) (by omega) hq k (Nat.le_refl _);rw[a9]at h1;have h2:=(h1.1 hr.1).2 a ha;show (ent (tO d p).next (p.getD q 0) a).toNat=_;rw[qBI hd hp hn hc ha,h2];simp
end
def run (d:DfaV)(q:Nat)(w:List Nat):Nat:=w.foldl (nx d) q
def yO (k:Nat)(w:List Nat):Prop:=∀a∈w,a<k
theorem aF {d:DfaV}{n k:Nat}(hd:VD d n k):∀(w:List Nat) {q:Nat},q<n->yO k w->run d q w<n
 | [],q,hq,_=>hq
 | a::w,q,hq,hw=>aF hd w (mP hd hq (hw a (by simp))) (fun b hb=>hw b (by simp[hb]))
theorem qBC (d:DfaV)(q:Nat)(w:List Nat)(a:Nat):run d q (w++[a])=nx d (run d q w) a:=by simp[run]
theorem qMA (d:DfaV)(q:Nat)(u v:List Nat):run d q (u++v)=run d (run d q u) v:=by simp[run]
theorem qJN {d:DfaV}{n k:Nat}{p:List Nat}(hd:VD d n k)(hp:p.length=n)(hn:Norm p)(a9:uZ d p k=p):∀(w:List Nat) {q:Nat},q<n->yO k w->run (tO d p) (p.getD q 0) w=p.getD (run d q w) 0
 | [],q,_,_=>rfl
 | a::w,q,hq,hw=>by
  have ha:=hw a (by simp)
  show run (tO d p) (nx (tO d p) (p.getD q 0) a) w=p.getD (run d (nx d q a) w) 0
  rw[qZJ hd hp hn a9 hq ha]
  exact qJN hd hp hn a9 w (mP hd hq ha) (fun b hb=>hw b (by simp[hb]))
def vG (d:DfaV)(l:List Nat)(i:Nat):Nat->List Nat
 | 0=>l
 | a+1=>xV (vG d l i a) (nx d (l.getD i 0) a)
def qA (d:DfaV)(k:Nat):Nat->Nat->List Nat->List Nat
 | 0,_,l=>l
 | f+1,i,l=>if i<l.length then qA d k f (i+1) (vG d l i k) else l
def yB (d:DfaV)(k:Nat):List Nat:=qA d k d.final.length 0 [st0 d]
theorem tL (d:DfaV)(l:List Nat)(i:Nat):∀a,l <+: vG d l i a
 | 0=>List.prefix_refl _
 | a+1=>(tL d l i a).trans (nS _ _)
theorem lG {d:DfaV}{l:List Nat}(h:l.Nodup)(i:Nat):∀a,(vG d l i a).Nodup
 | 0=>h
 | a+1=>fH (lG h i a)
theorem sI {d:DfaV}{l:List Nat}{i:Nat}{y:Nat}:∀ {a},y∈vG d l i a↔y∈l\/∃b,b<a/\y=nx d (l.getD i 0) b
 | 0=>by simp[vG]
 | a+1=>by
  rw[vG,lR,sI,or_assoc]
  refine or_congr_right ⟨?_,?_⟩
  ·rintro (⟨b,hb,h⟩|h)
   ·exact⟨b,by omega,h⟩
   ·exact⟨a,by omega,h⟩
  ·rintro ⟨b,hb,h⟩
   rcases Nat.lt_succ_iff_lt_or_eq.1 hb with hb|rfl
   ·exact .inl ⟨b,hb,h⟩
   ·exact .inr h
structure AccI (d:DfaV)(n k i:Nat)(l:List Nat):Prop where
 nd:l.Nodup
 lt:∀q∈l,q<n
 hd:0<l.length/\l.getD 0 0=st0 d
 cl:∀j a,j<i->j<l.length->a<k->nx d (l.getD j 0) a∈l
 re:∀q∈l,∃w,yO k w/\run d (st0 d) w=q
theorem qV {l m:List Nat}(h:l <+: m){i:Nat}(hi:i<l.length):m.getD i 0=l.getD i 0:=by
 obtain⟨r,rfl⟩:=h;simp[List.getD,List.getElem?_append_left hi]
theorem AccI.row {d:DfaV}{n k i:Nat}{l:List Nat}(hd:VD d n k)(h:AccI d n k i l)(hi:i<l.length):AccI d n k (i+1) (vG d l i k):=by
 have hp:=tL d l i k;have h2:=hp.length_le;have h0:l.getD i 0∈l:=by rw[zG hi];exact List.getElem_mem _
 have h1:=h.lt _ h0;refine⟨lG h.nd i k,fun q hq=>?_,⟨by have:=h.hd.1;omega,by rw[qV hp h.hd.1];exact h.hd.2⟩,fun j a hj hjl ha=>?_,fun q hq=>?_⟩
 ·rcases sI.1 hq with hq|⟨b,hb,rfl⟩
  ·exact h.lt q hq
  exact mP hd h1 hb
 ·rw[qV hp (show j<l.length by omega)]
  rcases Nat.lt_succ_iff_lt_or_eq.1 hj with hj|rfl
  ·exact sI.2 (.inl (h.cl j a hj (by omega) ha))
  exact sI.2 (.inr ⟨a,ha,rfl⟩)
 rcases sI.1 hq with hq|⟨b,hb,rfl⟩
 ·exact h.re q hq
 obtain⟨w,hw,e⟩:=h.re _ h0;refine⟨w++[b],fun c hc=>?_,by rw[qBC,e]⟩;rcases List.mem_append.1 hc with hc|hc
 ·exact hw c hc
 rw[List.mem_singleton]at hc;subst hc;exact hb
theorem lO {l:List Nat}{n:Nat}(h:l.Nodup)(hl:∀q∈l,q<n):l.length<=n:=by
 have:=h.length_le_of_subset (fun q hq=>List.mem_range.2 (hl q hq));simpa using this
theorem AccI.start {d:DfaV}{n k:Nat}(hd:VD d n k):AccI d n k 0 [st0 d] :=
 ⟨by simp,fun q hq=>by rw[List.mem_singleton]at hq;subst hq;exact oJ hd,⟨by simp,by simp⟩,fun j a hj=>by omega,fun q hq=>by
  rw[List.mem_singleton]at hq;subst hq;exact⟨[],fun a ha=>by simp at ha,rfl⟩⟩
theorem qLH {d:DfaV}{n k:Nat}(hd:VD d n k):∀f i l,AccI d n k i l->n<=i+f->AccI d n k n (qA d k f i l)/\(qA d k f i l).length<=n
 | 0,i,l,h,hf=>by
  have hl:=lO h.nd h.lt
  exact⟨⟨h.nd,h.lt,h.hd,fun j a hj hjl ha=>h.cl j a (by omega) hjl ha,h.re⟩,hl⟩
 | f+1,i,l,h,hf=>by
  rw[qA]
  split
  ·rename_i hi
   exact qLH hd f (i+1) _ (h.row hd hi) (by omega)
  ·rename_i hi
   have hl:=lO h.nd h.lt
   exact⟨⟨h.nd,h.lt,h.hd,fun j a hj hjl ha=>h.cl j a (by omega) hjl ha,h.re⟩,hl⟩
theorem xW {d:DfaV}{n k:Nat}(hd:VD d n k):AccI d n k n (yB d k)/\(yB d k).length<=n:=qLH hd _ _ _ (AccI.start hd) (by rw[hd.hn];omega)
theorem bI {d:DfaV}{k f i:Nat}{l:List Nat}(h:¬i<l.length):qA d k f i l=l:=by
 cases f with
 | zero=>rfl
 | succ f=>rw[qA,if_neg h]
def rX (l:List Nat)(q:Nat):Int:=if q∈l then (l.idxOf q:Int) else -1
def wI (l:List Nat)(r:List Int):List Int:=r.map fun s=>rX l s.toNat
def xY (d:DfaV)(k:Nat):DfaV:=⟨d.letters,0,(yB d k).map fun q=>d.final.getD q false,(yB d k).map fun q=>wI (yB d k) (d.next.getD q [])⟩
section
variable {d:DfaV} {n k:Nat}
theorem jN (hd:VD d n k){i a:Nat}(hi:i<(yB d k).length)(ha:a<k):ent (xY d k).next i a=(((yB d k).idxOf (nx d ((yB d k).getD i 0) a):Nat):Int):=by
 have hA:=(xW hd).1;have hq:=hA.lt _ (show (yB d k).getD i 0∈yB d k by rw[zG hi];exact List.getElem_mem _);have hn:=(xW hd).2;unfold ent xY;rw[tU (x:=0) hi,wI,tU (x:=0) (by rw[hd.row _ hq];exact ha),rX,if_pos]
 ·rfl
 exact hA.cl i a (by omega) hi ha
theorem kP (hd:VD d n k):VD (xY d k) (yB d k).length k where
 hk:=hd.hk
 k1:=hd.k1
 k6:=hd.k6
 hn:=by simp[xY]
 n1:=(xW hd).1.hd.1
 nbig:=Nat.le_trans (xW hd).2 hd.nbig
 nl:=by simp[xY]
 s0:=by simp[xY]
 sn:=by have:=(xW hd).1.hd.1;simp only[xY];omega
 row:=fun i hi=>by
  have hA:=(xW hd).1
  have hq:=hA.lt _ (show (yB d k).getD i 0∈yB d k by rw[zG hi];exact List.getElem_mem _)
  simp only[xY]
  rw[tU (x:=0) hi,wI,List.length_map,hd.row _ hq]
 lo:=fun i a hi ha=>by rw[jN hd hi ha];omega
 hi:=fun i a hi ha=>by
  have hn:=(xW hd).2
  rw[jN hd hi ha]
  have:=List.idxOf_lt_length_of_mem ((xW hd).1.cl i a (by omega) hi ha)
  omega
theorem qOS (hd:VD d n k){i a:Nat}(hi:i<(yB d k).length)(ha:a<k):nx (xY d k) i a=(yB d k).idxOf (nx d ((yB d k).getD i 0) a):=by
 show (ent (xY d k).next i a).toNat=_;rw[jN hd hi ha];simp
theorem qJA (hd:VD d n k):∀(w:List Nat) {i:Nat},i<(yB d k).length->yO k w->(yB d k).getD (run (xY d k) i w) 0=run d ((yB d k).getD i 0) w
 | [],i,_,_=>rfl
 | a::w,i,hi,hw=>by
  have ha:=hw a (by simp)
  have hn:=(xW hd).2
  have hm:=(xW hd).1.cl i a (by omega) hi ha
  have hlt:=List.idxOf_lt_length_of_mem hm
  have h:=qJA hd w (i:=nx (xY d k) i a) (by rw[qOS hd hi ha];exact hlt) (fun b hb=>hw b (by simp[hb]))
  show (yB d k).getD (run (xY d k) (nx (xY d k) i a) w) 0=run d (nx d ((yB d k).getD i 0) a) w
  rw[h,qOS hd hi ha,zG hlt,List.getElem_idxOf]
theorem iV (hd:VD d n k){i:Nat}(hi:i<(yB d k).length):(xY d k).final.getD i false=d.final.getD ((yB d k).getD i 0) false:=by
 simp only[xY];rw[tU (x:=0) hi]
end
def minD (d:DfaV)(k:Nat):DfaV:=xY (tO d (yX d k)) k
def minN (d:DfaV)(k:Nat):Nat:=(yB (tO d (yX d k)) k).length
section
variable {d:DfaV} {n k:Nat}
theorem jT (hd:VD d n k):VD (tO d (yX d k)) (cls (yX d k)) k:=qHB hd (by rw[vD,hd.hn]) (sU d k)
theorem qEQ (hd:VD d n k):VD (minD d k) (minN d k) k:=kP (jT hd)
theorem qRO (hd:VD d n k):minN d k<=n:=Nat.le_trans (xW (jT hd)).2 (Nat.le_trans (fE _) (by rw[vD,hd.hn];exact Nat.le_refl _))
end
open Go.RowKit
def tM (B:Nat)(w:World)(v:Value)(d:DfaV):Prop:=∃fv nv,v=.agg #[.int .i64 d.letters,.int .i64 d.start,fv,nv]/\Row B w fv (bls d.final)/\Mat B w nv d.next
theorem tM.kept {B:Nat}{w w':World}{v:Value}{d:DfaV}{row:Option Nat}(h:tM B w v d)(hg:w.grownBy w' row)(hr:∀k,row=some k->B<=k):tM B w' v d:=by
 obtain⟨fv,nv,h1,h2,h3⟩:=h;exact⟨fv,nv,h1,h2.kept hg hr,h3.kept hg hr⟩
theorem tM.mono {B B':Nat}{w:World}{v:Value}{d:DfaV}(h:tM B w v d)(hB:B<=B'):tM B' w v d:=by
 obtain⟨fv,nv,h1,h2,h3⟩:=h;exact⟨fv,nv,h1,h2.mono hB,h3.mono hB⟩
theorem kE {d:DfaV}(h:d.letters<1\/6<d.letters):xK d=1:=by rw[xK,if_pos h]
theorem bX {d:DfaV}(h:¬(d.letters<1\/6<d.letters))(h2:512<d.final.length):xK d=3:=by rw[xK,if_neg h,if_pos h2]
theorem gR {d:DfaV}(h:¬(d.letters<1\/6<d.letters))(h2:¬512<d.final.length)(h3:d.final.length=0\/d.next.length≠d.final.length\/d.start<0\/d.final.length<=d.start):xK d=4:=by rw[xK,if_neg h,if_neg h2,if_pos h3]
theorem qJ {d:DfaV}(h:¬(d.letters<1\/6<d.letters))(h2:¬512<d.final.length)(h3:¬(d.final.length=0\/d.next.length≠d.final.length\/d.start<0\/d.final.length<=d.start)){q:Nat}(hq:q<d.next.length)(hb:rowD d.letters d.final.length (d.next.getD q [])=false):xK d=4:=by
 rw[xK,if_neg h,if_neg h2,if_neg h3,if_neg];intro ha;have:=List.all_eq_true.1 ha d.next[q] (List.getElem_mem hq);rw[zG hq,this]at hb;cases hb
theorem qCZ {d:DfaV}(h:¬(d.letters<1\/6<d.letters))(h2:¬512<d.final.length)(h3:¬(d.final.length=0\/d.next.length≠d.final.length\/d.start<0\/d.final.length<=d.start))(ha:∀q,q<d.next.length->rowD d.letters d.final.length (d.next.getD q [])=true):xK d=0:=by
 rw[xK,if_neg h,if_neg h2,if_neg h3,if_pos];rw[List.all_eq_true];intro r hr;obtain⟨q,hq,rfl⟩:=List.getElem_of_mem hr;have:=ha q hq
 rwa [zG hq]at this
theorem qJL {k:Int}{n:Nat}{r:List Int}(h:(r.length:Int)≠k):rowD k n r=false:=by simp[rowD,h]
theorem fU {k:Int}{n:Nat}{r:List Int}{y:Nat}(hy:y<r.length)(h:r.getD y 0<0\/n<=r.getD y 0):rowD k n r=false:=by
 rw[<-Bool.not_eq_true];intro hr;have:=(oY.1 hr).2 y hy;omega
def xCZ (d:DfaV)(k:Nat):Prop:=∀x,x<k->rowD d.letters d.final.length (d.next.getD x [])=true
open Go.Maps
theorem rE:Tryz.prog.underlying 168=some (.map 3 3):=by kernel_rfl
theorem sP:Tryz.prog.underlying 3=some (.int .i64):=by kernel_rfl
theorem fP (w:World):(zeroValue 3).run Tryz.prog w=.ok (.int .i64 0) w:=by kernel_rfl
def Mid (x:Int):Prop:=-4611686018427387904<x/\x<4611686018427387904
theorem qES {x:Int}(hx:Mid x):(Lit.int .i64 x).wf=true:=by
 have h1:IntKind.i64.min = -9223372036854775808:=rfl;have h2:IntKind.i64.max=9223372036854775807:=rfl;obtain⟨h3,h4⟩:=hx;simp[Lit.wf];omega
theorem qHP {x:Int}(hx:Mid x):keyOf Tryz.prog 3 (.int .i64 x)=some (.int .i64 x):=keyOf_int_mk (q:=.i64) (by kernel_rfl) (qES hx)
def qH (w:World)(b n:Nat)(l:List Int):Prop :=
 ∃D:DataW Unit,w.ownsMap Tryz.prog 3 (plainElem Tryz.prog 3) b n D/\size D=l.length /\
  ∀x:Int,Mid x->has D (.int .i64 x)=decide (x∈l)/\D.atKey (.int .i64 x) (.lit (.int .i64 0))=.lit (.int .i64 (if x∈l then ((l.idxOf x:Nat):Int) else 0))
theorem qH.made (w:World):qH (w.alloc (.map #[] 0)) w.heap.size 0 []:=by
 refine⟨.map [],World.ownsMap_made _ _ _ _,rfl,fun x _=>⟨by simp[has_eq],?_⟩⟩;rw[WideAt.atKey_none _ (by simp)];simp
theorem qH.kept {w w':World}{b n:Nat}{l:List Int}{row:Option Nat}(h:qH w b n l)(hg:w.grownBy w' row)(a9:row≠some b):qH w' b n l:=by
 obtain⟨D,h1,h2,h3⟩:=h;exact⟨D,h1.kept hg (fun e=>a9 e.symm),h2,h3⟩
theorem qH.mono {w:World}{b n n':Nat}{l:List Int}(h:qH w b n l)(hn:n<=n'):qH w b n' l:=by
 obtain⟨D,h1,h2,h3⟩:=h;exact⟨D,h1.mono hn,h2,h3⟩
theorem qH.lt {w:World}{b n:Nat}{l:List Int}(h:qH w b n l):b<w.heap.size:=by
 obtain⟨D,h1,_⟩:=h;exact h1.lt
theorem qH.lookup {w:World}{b n:Nat}{l:List Int}(h:qH w b n l){x:Int}(hx:Mid x):(Instr.lookup 168 (.map (some b)) (.int .i64 x) true).run Tryz.prog w=.ok (.tuple #[.int .i64 (if x∈l then ((l.idxOf x:Nat):Int) else 0),.bool (decide (x∈l))]) w:=by
 obtain⟨D,h1,h2,h3⟩:=h;obtain⟨v,ps,h0,hv⟩:=h1.look_ok qBX rE (fP w) (plainElem_int sP (by decide)) (qHP hx);obtain⟨c,rfl,hc,_⟩:=plainElem_int_inv sP hv;obtain⟨e1,e2⟩:=h3 x hx;have e3:=congrArg Prod.fst hc;simp only[e2]at e3;rw[h0,e1]
 have e4:(if x∈l then ((l.idxOf x:Nat):Int) else 0)=c:=by
  simp only[Lit.int.injEq,DataW.lit.injEq,true_and]at e3;exact e3
 rw[e4]
theorem qH.len {w:World}{b n:Nat}{l:List Int}(h:qH w b n l):(Builtin.len_ #[168] 3 #[.map (some b)]).run Tryz.prog w=.ok (.int .i64 (l.length:Nat)) w:=by
 obtain⟨D,h1,h2,h3⟩:=h;have h0:=h1.len rE 3;rw[h2]at h0;exact h0
theorem iX {w:World}{ops:Array Oper}{a9:List Oper}{o:Oper}{a:Act}{Q:Exit->Act->World->Prop}(hg:o.guard=none)(m x v:Operand)(a7:o.op=Op.mapUpdate 168 m x v)(b n:Nat)(l:List Int)(z:Int)(hm:a.eval m=.map (some b))(hx:a.eval x=.int .i64 z)(hv:a.eval v=.int .i64 (l.length:Nat))(h:qH w b n l)(hn:n<maxLen)(hz:Mid z)(a8:z ∉ l)(a6:l.length<4611686018427387904)(hK:∀w',qH w' b (n+1) (l++[z])->w.grownBy w' (some b)->wpList Tryz.prog ops Q a9 (a.put o.dst undef) w'):wpList Tryz.prog ops Q (o::a9) a w:=by
 obtain⟨D,h1,h2,h3⟩:=h;obtain⟨w',h0,h4,h7⟩:=h1.update qBX rE hn (qHP hz) (plainElem_int sP (qES (x:=((l.length:Nat):Int)) ⟨by omega,by omega⟩));have h6:WideAt.IsKeyLit (.int .i64 z):=by simp[WideAt.IsKeyLit]
 refine wpList_plain hg fun K' hK'=>?_;unfold Oper.wp;simp[execOp,a7,hm,hx,hv,h0,Result.andThen];refine hK' _ _ (hK w' ⟨_,h4,?_,fun y hy=>?_⟩ h7)
 ·rw[size_put (h1.tidy qBX),(h3 z hz).1,decide_eq_false a8,h2];simp
 by_cases e:y=z
 ·subst e
  refine⟨by rw[has_put_same h1.isMap h6];simp,?_⟩;rw[atKey_put_same h1.isMap h6,if_pos (by simp),List.idxOf_append,if_neg a8];simp
 have h5:(Lit.int .i64 y)≠Lit.int .i64 z:=by intro h;injection h with _ h;exact e h
 obtain⟨e1,e2⟩:=h3 y hy;refine⟨by rw[has_put_other h5,e1];simp[e],?_⟩;rw[atKey_put_other h5,e2];by_cases hyl:y∈l
 ·rw[if_pos hyl,if_pos (by simp[hyl]),List.idxOf_append,if_pos hyl]
 rw[if_neg hyl,if_neg (by simp[hyl,e])]
def uT (l:List Nat)(k:Nat):List Nat:=l.take k++List.replicate (l.length-k) 0
theorem nM (l:List Nat):uT l 0=List.replicate l.length 0:=by simp[uT]
theorem lV (l:List Nat):uT l l.length=l:=by simp[uT]
theorem xZ {l:List Nat}{k:Nat}(h:k<=l.length):(uT l k).length=l.length:=by simp[uT];omega
theorem lU {l:List Nat}{k:Nat}(h:k<l.length):(uT l k).set k (l.getD k 0)=uT l (k+1):=by
 have hl:(l.take k).length=k:=by simp;omega
 unfold uT;rw[List.set_append_right _ _ (by omega),hl,Nat.sub_self,zT (d:=0) h,show l.length-k=(l.length-(k+1))+1 by omega,List.replicate_succ,List.set_cons_zero,List.append_assoc];rfl
def xAY (w:World)(p:List Nat)(e:Ending)(w':World):Prop :=
 ∃g,e=.returned (.slice (some ⟨g,0,none⟩) p.length p.length)/\w.heap.size<=g/\Arr w' g 3 (nats p)/\w.grownBy w' none
theorem qQX {l:List Int}{k:Nat}(hk:k<l.length):(numb l).getD k 0=if l[k]∈yE (l.take k) then (yE (l.take k)).idxOf l[k] else (yE (l.take k)).length:=by
 rw[zG (by rw[yW];exact hk),pL hk,<-qEK hk,List.take_succ_eq_append_getElem hk,sE];by_cases h:l[k]∈yE (l.take k)
 ·rw[tK h,if_pos h]
 rw[vK h,if_neg h,List.idxOf_append,if_neg h];simp
theorem aY (B:Nat)(w:World)(v:Value)(l:List Int)(hB:B<=w.heap.size)(h:Row B w v (ints l))(a9:∀x∈l,Mid x)(a4:l.length<=4194304):Calls Tryz.prog 103 #[v] w (xAY w (numb l)):=by
 have c4:=@run_makeMap Tryz.prog;obtain⟨va,vc,rfl⟩:=h.shape;rw[yF]at h⊢;have H:=Kh h;have HM:=Kh a9;clear h a9;obtain⟨w1,h4⟩:=Nm (w.alloc (.map #[] 0));have b0:w.grownBy w1 none:=by rw[h4];exact Ga w _ none
 have c3:w1.heap.size=w.heap.size+1:=by rw[h4,zL]
 have b7:Hid (qH w1 w.heap.size 0 []):=Kh (by rw[h4];exact qH.made w);have b8:=Kh b0;have b5:=Kh h4;clear b0 h4;go_enter Tryz.func103,Tryz.ntmps103;go_upto_region 2 with fail;rw[<-b5.out];go_wp2_with (first|(at_make;refine kW rfl _ _ _ rfl yP rfl .i64 .i64 _ _ l.length rfl rfl rfl rfl ?b1 ?b2 ?_)|fail)
 case b1=>omega
 case b2=>unfold maxLen;omega
 intro w2 h0 H6 H3;have a0:=Kh h0;have H9:=Kh H6;have c2:=H6.size;clear h0 H6;obtain⟨g,hg⟩:=Nm (w.heap.size+1);rw[<-hg]at a0⊢;have c8:w.heap.size<g:=by omega
 have c7:g<w2.heap.size:=by omega
 clear hg H3;go_wp2
 go_loopg [5,6,7,8,15] l.length (fun gh a5 a6 a7 a8 i wr=>∃k:Nat,gh+k=l.length/\i=.int .i64 k/\Arr wr g 3 (nats (uT (numb l) k))/\qH wr w.heap.size k (yE (l.take k))/\w.grownBy wr none)
 case atStart=>exact⟨0,rfl,rfl,by rw[nM,yW,xJ];exact a0.out,by simpa [yE] using b7.out.kept H9.out (by simp),zC b8.out H9.out⟩
 clear a0 H9;obtain⟨k,hg,rfl,h0,h5,h9⟩:=hrel;obtain⟨HG,HA,h8,H8⟩:=K4 hg h0 h5 h9;have c0:=h9.size;have a2:(numb l).length=l.length:=yW l;clear hg h5;by_cases hk:k<l.length
 ·have c6:(k:Int)<l.length:=by omega
  obtain⟨ib,io,ic,e,_,_,_,a1⟩:=(H.out.kept h9 (by simp)).some_ (by rw[yF];omega);simp only[Value.slice.injEq]at e;obtain⟨rfl,-,-⟩:=e;have ck:=a1.int k hk;have H2:Mid (l.getD k 0):=(by rw[zG hk];exact HM.out _ (List.getElem_mem hk));have h2:=qQX hk;rw[<-zG (d:=0) hk]at h2;have h7:yE (l.take (k+1))=xV (yE (l.take k)) (l.getD k 0):=by rw[List.take_succ_eq_append_getElem hk,sE,zG hk]
  obtain⟨x,hx⟩:=Nm (l.getD k 0);rw[<-hx]at ck H2 h2 h7;have h6:=tW (l.take k);rw[List.length_take]at h6;have H4:=h8.out.lookup H2;have h1:=lU (l:=numb l) (k:=k) (by omega);have c9:=frozen_of_row wr g k;have cgk:=h0.nat k (by rw[xZ (by omega)];omega);have d0:(nats (uT (numb l) k)).length=l.length:=by rw[zV,xZ (by omega)];omega
  have fgk:=h0.frozen k;clear a1 hx h9 h0;by_cases hin:x∈yE (l.take k)
  ·rw[if_pos hin,decide_eq_true hin]at H4
   rw[if_pos hin]at h2;have H1:Hid (yE (l.take (k+1))=yE (l.take k)):=Kh (by rw[h7,tK hin]);obtain⟨c,hc⟩:=Nm ((yE (l.take k)).idxOf x);rw[<-hc]at H4 h2;rw[h2]at h1;have HS:=Kh h1;clear h2 h1 hc h7 hin;go_wp2;go_roundg (l.length-(k+1))
   case measure=>have:=HG.out;omega
   refine⟨k+1,by omega,by go_num,?_,?_,?_⟩
   ·rw[<-HS.out];exact HA.out.nat_set k (by rw[xZ (by omega)];omega) c
   ·rw[H1.out]
    exact(h8.out.kept (zD wr ⟨g,k,none⟩ _) (by simp;omega)).mono (by omega)
   exact zA H8.out (zD wr ⟨g,k,none⟩ _) (fun q e=>by have:=Oj e;simp at this;omega)
  rw[if_neg hin,decide_eq_false hin]at H4;rw[if_neg hin]at h2;have H1:Hid (yE (l.take (k+1))=yE (l.take k)++[x]):=Kh (by rw[h7,vK hin]);have b3:=Kh hin;have b6:=Kh H2;rw[h2]at h1;have HS:=Kh h1;clear h2 h1 h7 hin cgk fgk;obtain⟨L,hL⟩:=Nm (yE (l.take k));rw[<-hL]at h8 H1 b3 HS h6;have c5:=h8.out.len;clear hL;go_wp2_with (first|(at_mapUpdate;refine iX rfl _ _ _ rfl w.heap.size k L x rfl rfl rfl h8.out (by unfold maxLen;omega) b6.out b3.out (by omega) ?_;intro w5 h3 H5;(have H0:=HA.out.kept H5 (by simp;omega));(have H7:=Kh h3);(have b4:=Kh H5);(have b9:=Kh H0);(have fg5:=H0.frozen k);(have cg5:=H0.nat k (by rw[xZ (by omega)];omega));clear h3 H5 H0)|fail);go_roundg (l.length-(k+1))
  case measure=>have:=HG.out;omega
  have c1:=b4.out.size;refine⟨k+1,by omega,by go_num,?_,?_,?_⟩
  ·rw[<-HS.out];exact b9.out.nat_set k (by rw[xZ (by omega)];omega) _
  ·rw[H1.out]
   exact H7.out.kept (zD w5 ⟨g,k,none⟩ _) (by simp;omega)
  exact zA (zA H8.out b4.out (fun q e=>by have:=Oj e;omega)) (zD w5 ⟨g,k,none⟩ _) (fun q e=>by have:=Oj e;simp at this;omega)
 have a3:k=l.length:=by have:=HG.out;omega
 have HE:Hid (uT (numb l) k=numb l):=Kh (by rw[a3,<-a2];exact lV _);clear a3 h0;go_wp2;go_ret;refine⟨g,by rw[a2];rfl,by omega,?_,H8.out⟩;rw[<-HE.out];exact HA.out
end Go.Proofs.YtcoimliafiammaaGreat
