/- Part 4 of the proof: Many2, Inv2, FamPlain. -/
import Derived.Test.YtdjhoadoiknaoaaDoorZC3
set_option linter.unusedVariables false
set_option linter.unusedSimpArgs false
namespace Go.Proofs.YtdjhoadoiknaoaaDoor
open Go.RowKit
def uJ (w:World) (sz:Nat) (sv:Value) (m:Nat) (news:List Value):Prop :=
 (∃ a cap,sv=.slice a 0 cap∧m=0∧news=[])∨∃ b off cap,sv=.slice (some ⟨b,off,none⟩) m cap∧news.length=m * sz∧m≤maxLen∧∀ j u,news[j]?=some u→w.cell? ⟨b,off+j,none⟩=some u
theorem Row.src {B:Nat} {w:World} {v:Value} {xs:List Value} (h:Row B w v xs):uJ w 1 v xs.length xs:=by
 rcases h with ⟨a,cap,rfl,rfl⟩|⟨b,off,cap,rfl,_,h2,h3,hra⟩
 ·exact .inl ⟨a,cap,rfl,rfl,rfl⟩
 ·refine .inr ⟨b,off,cap,rfl,by omega,by omega,fun j u hj=>?_⟩
  have hjl:j < xs.length:=by
   rcases Nat.lt_or_ge j xs.length with h|h
   ·exact h
   ·rw [List.getElem?_eq_none h] at hj;cases hj
  rw [List.getElem?_eq_getElem hjl] at hj
  rw [hra.2 j hjl,hj]
theorem pK {w:World} {base e sz n:Nat} {v:Value} {xs:List Value} (h:w.ownsRow base e sz v n xs):uJ w sz v n xs:=by
 have hl:=h.1
 rcases h.2 with ⟨rfl,rfl⟩|⟨g,cap,cur,rfl,hb,hg,hnc,hcm,hcs,htake⟩
 ·exact .inl ⟨none,0,rfl,rfl,List.eq_nil_of_length_eq_zero (by simpa using hl)⟩
 ·refine .inr ⟨g,0,cap,rfl,hl,by omega,fun j u hj=>?_⟩
  have:=h.cells (g:=g) rfl j u hj
  have hadd:(⟨g,0,none⟩:Addr).add j=⟨g,j,none⟩:=by unfold Addr.add;split <;> simp_all
  rw [hadd] at this
  rwa [Nat.zero_add]
theorem run_append_movedR {P:Program} {w:World} (base:Nat) (t ty:TypeId) {e:TypeId} {sz:Nat} {z:Value} {bytes:Nat} (E:ElemN P t e sz z bytes)
  (v:Value) (n:Nat) (xs:List Value) (hown:w.ownsRow base e sz v n xs) (sv:Value) (m:Nat) (news:List Value) (hrow:uJ w sz sv m news) (h1:∀ u∈news,u.oneCell'=true)
  (h63:n+m≤maxLen) (hbytes:(n+m) * bytes≤140737488355328) (hbase:base≤w.heap.size) :
  ∃ v' w',(Builtin.append_ #[t,t] ty #[v,sv]).run P w=.ok v' w'∧w'.ownsRow base e sz v' (n+m) (xs ++ news)∧w.grownBy w' v.ownBlock∧Moved w w' v v':=by
 obtain ⟨i,hi,hz,hsz,hby⟩:=info_parts E.hi
 have hpos:=E.pos
 have hsmall:n+m≤9223372036854775807:=by simp only [maxLen] at h63;omega
 have hadd:∀ (b off j:Nat),(⟨b,off,none⟩:Addr).add j=⟨b,off+j,none⟩:=fun b off j=>by unfold Addr.add;split <;> simp_all
 have stay:∀ (a':Addr) (cap:Nat),m=0→news=[]→∃ v' w',(Builtin.append_ #[t,t] ty #[v,.slice (some a') 0 cap]).run P w=.ok v' w'∧w'.ownsRow base e sz v' (n+m) (xs ++ news)∧w.grownBy w' v.ownBlock∧Moved w w' v v':=by
  intro a' cap hm0 hn
  subst hn
  subst hm0
  obtain ⟨v',w',hr,h2,h3,h4⟩:=run_append_own (P:=P) w base t ty e i z sz bytes E.ht hi hz hsz hby E.hz hpos v n xs hown a' 0 cap [] (by simp) (fun j u hj=>by simp at hj) (fun u hu=>by simp at hu) (by simpa using h63) (by simpa using hbytes) hbase
  refine ⟨v',w',hr,h2,h3,?_⟩
  rcases hown.2 with ⟨rfl,rfl⟩|⟨b,bc,cur,rfl,hb,hg,hnc,hcm,hcs,htake⟩
  ·have:=h4.2 ⟨rfl,rfl⟩
   subst this
   exact .inl rfl
  ·obtain ⟨w2,hr2,_⟩:=run_append_fits (P:=P) w base t ty e i sz E.ht hi hsz b n bc xs hown a' 0 cap [] (by simp) (fun j u hj=>by simp at hj) (fun u hu=>by simp at hu) (by omega)
   rw [hr2] at hr
   injection hr with e1 e2
   subst e1
   exact .inl rfl
 rcases hrow with ⟨a',cap,rfl,rfl,rfl⟩|⟨b,off,cap,rfl,hnl,hml,hra⟩
 ·cases a' with
  | none =>
   have hr:(Builtin.append_ #[t,t] ty #[v,.slice none 0 cap]).run P w=.ok v w:=by
    rcases hown.2 with ⟨rfl,rfl⟩|⟨g,gc,cur,rfl,_,_,hnc,_⟩
    ·simp [Builtin.append_,run_underlying E.ht,sizeOf,typeInfo,hi,Builtin.lenOf,Builtin.firstCells]
    ·simp [Builtin.append_,run_underlying E.ht,sizeOf,typeInfo,hi,Builtin.lenOf,Builtin.firstCells,hnc,storeCells]
   exact ⟨v,w,hr,by simpa using hown,zX _ _,.inl rfl⟩
  | some a'=>exact stay a' cap rfl rfl
 ·by_cases hm0:m=0
  ·have hn0:news=[]:=List.eq_nil_of_length_eq_zero (by rw [hnl,hm0];simp)
   subst hm0
   exact stay _ _ rfl hn0
  have hnews:∀ j u',news[j]?=some u'→w.cell? ((⟨b,off,none⟩:Addr).add j)=some u':=fun j u' hj=>by rw [hadd];exact hra j u' hj
  obtain ⟨v',w',hr,h2',h3',_⟩:=run_append_own (P:=P) w base t ty e i z sz bytes E.ht hi hz hsz hby E.hz hpos v n xs hown ⟨b,off,none⟩ m cap news hnl hnews h1 h63 hbytes hbase
  refine ⟨v',w',hr,h2',h3',?_⟩
  rcases hown.2 with ⟨rfl,rfl⟩|⟨g,gc,cur,rfl,hb,hg,hnc,hcm,hcs,htake⟩
  ·have hr2:=run_append_nil (P:=P) w t ty e i z E.ht hi hz ⟨b,off,none⟩ m cap news (by rw [hnl,hsz]) hnews (by omega) (by omega) (by rw [hby];simp at hbytes;omega)
   rw [hr2] at hr
   injection hr with e1 e2
   subst e1;subst e2
   refine .inr ⟨xJ (Ga w _ none) rfl rfl rfl rfl,fun k hk=>?_⟩
   have:w.heap.size=k:=by simpa [Value.ownBlock] using hk
   omega
  ·by_cases hroom:n+m≤gc
   ·obtain ⟨w2,hr2,_⟩:=run_append_fits (P:=P) w base t ty e i sz E.ht hi hsz g n gc xs hown ⟨b,off,none⟩ m cap news hnl hnews h1 hroom
    rw [hr2] at hr
    injection hr with e1 e2
    subst e1
    exact .inl rfl
   ·have holds:∀ j u,xs[j]?=some u→w.cell? ((⟨g,0,none⟩:Addr).add j)=some u:=hown.cells (g:=g) rfl
    have hlo:xs.length=n * i.size:=by rw [hsz];exact hown.1
    have hr2:=run_append_grow (P:=P) w t ty e i z E.ht hi hz ⟨g,0,none⟩ n gc xs hlo holds ⟨b,off,none⟩ m cap news (by rw [hnl,hsz]) hnews (by omega) (by omega) (growslice_fits (by omega) (by rw [hby];exact hbytes))
    rw [hr2] at hr
    injection hr with e1 e2
    subst e1;subst e2
    refine .inr ⟨xJ (Ga w _ none) rfl rfl rfl rfl,fun k hk=>?_⟩
    have:w.heap.size=k:=by simpa [Value.ownBlock] using hk
    omega
section
variable {w0 W W':World} {F:Nat→Prop} {rs:List RowS} {ls ls':List (Nat × Obj)} {ps:List (Nat × TypeId × List Value)}
theorem Many.lit0 (h:Many w0 F W rs ls ps) {j base sz:Nat} {e:TypeId} (hr:rs[j]?=some ⟨base,e,.slice none 0 0,0,[],sz⟩) (hb:base≤w0.heap.size) :
  Many w0 F (W.alloc (.cells #[] e)) (rs.set j ⟨base,e,.slice (some ⟨W.heap.size,0,none⟩) 0 0,0,[],sz⟩) ls ps:=by
 have hg:=Ga W (.cells #[] e) none
 have:=h.append (W':=W.alloc (.cells #[] e)) (j:=j) hr (v':=.slice (some ⟨W.heap.size,0,none⟩) 0 0) (n':=0) (us:=[]) (by
  have h9:=heap_alloc_new W (.cells #[] e)
  exact ⟨by simp,.inr ⟨W.heap.size,0,#[],rfl,Nat.le_trans hb h.but.size,h9,Nat.le_refl _,Nat.zero_le _,by simp,by simp⟩⟩) hg (.inr ⟨hg,fun k hk=>by
  have:W.heap.size=k:=by simpa [Value.ownBlock] using hk
  omega⟩)
 exact this
theorem Many.lits (h:Many w0 F W rs ls ps) (hs:∀ p∈ls',p∈ls):Many w0 F W rs ls' ps:=⟨h.own,h.mine,h.apart,fun p hp=>h.lit p (hs p hp),h.pre,h.but⟩
theorem pB {P : Program} {ops : Array Oper} {o : Oper} {a : Act} {K : Act → World → Prop} {Q : Exit → Act → World → Prop} {R : Prop} (hgd : o.guard = none) (s x : Operand) (t : TypeId)
  (ho : o.op = .call { callee := .builtin .append, args := #[s, x], argTypes := #[t, t] }) {e : TypeId} {sz : Nat} {z : Value} {bytes : Nat} (E : ElemN P t e sz z bytes) (j : Nat) (sv : Value) (hx : a.eval x = sv)
  (h : ∃ (w0 : World) (F : Nat → Prop) (rs : List RowS) (ls : List (Nat × Obj)) (ps : List (Nat × TypeId × List Value)), Many w0 F W rs ls ps ∧
   ∃ (r : RowS) (m n' : Nat) (news : List Value), rs[j]? = some r ∧ r.e = e ∧ r.sz = sz ∧ a.eval s = r.v ∧ uJ W sz sv m news ∧ (∀ u ∈ news, u.oneCell' = true) ∧ r.n + m = n' ∧ n' ≤ maxLen ∧ n' * bytes ≤ 140737488355328 ∧ r.base ≤ w0.heap.size ∧
   ∀ sa sc w', Many w0 F w' (rs.set j ⟨r.base, r.e, .slice sa n' sc, n', r.xs ++ news, r.sz⟩) ls ps → K (a.put o.dst (.slice sa n' sc)) w') : if Region.wanted o (yielded ops a.tmps) = true then Oper.wp P o a W K Q else R := by
 obtain ⟨w0, F, rs, ls, ps, h, r, m, n', news, hr, rfl, rfl, hs, hrow, h1, rfl, h63, hbytes, hbase, hK⟩ := h
 have hw : Region.wanted o (yielded ops a.tmps) = true := by simp [Region.wanted, hgd]
 rw [if_pos hw]
 obtain ⟨v', w', hrun, h2, h3, h4⟩ := run_append_movedR (P := P) r.base t o.type E r.v r.n r.xs (h.own j r hr) sv m news hrow h1 h63 hbytes (Nat.le_trans hbase h.but.size)
 obtain ⟨sa, sc, rfl⟩ : ∃ sa sc, v' = .slice sa (r.n + m) sc := by
  rcases h2.2 with ⟨e1, e2⟩ | ⟨g, cap, cur, e1, _⟩
  ·exact ⟨none, 0, by rw [e1, e2]⟩
  ·exact ⟨_, _, e1⟩
 unfold Oper.wp execOp
 simp only [ho, resolve, invoke, builtin, Sem.run_bind, Sem.run_pure, Result.andThen_ok, List.map_toArray, List.map_cons, List.map_nil, hs, hx, hrun]
 exact hK sa sc w' (h.append hr h2 h3 h4)
end
def zL (a0:Act) (l:List (Nat × Value)):Act:=l.foldl (fun a p=>a.put (some p.1) p.2) a0
section
variable {P:Program} {md:Region.Mode} {ops:Array Oper} {Q:Exit→Act→World→Prop} {G:Array Bool→World→Prop}
theorem uL {fuel:Nat} {listed:Array Bool} {a:Act} {w:World} (h:∀ Wp:Nat→Array Bool→Act→World→Prop,Wp=uM P md ops Q G→∀ a0,a0=a→Wp fuel listed a0 w):uM P md ops Q G fuel listed a w:=h _ rfl _ rfl
end
section
variable {P:Program} {md:Region.Mode} {ops:Array Oper} {Q:Exit→Act→World→Prop} {G:Array Bool→World→Prop}
theorem wpAnyG_inv (I : Array Bool → Act → World → Prop) (hG : ∀ l a w, I l a w → G l w)
  (hstep : ∀ i o, ops[i]? = some o → ∀ listed a w, I listed a w → listed.getD i true = false → (∀ e ∈ o.after, Region.binds md e = true → listed.getD e.on false = true) →
   ∀ K' : Act → World → Prop, Shut (∀ a w, I (listed.setIfInBounds i true) a w → K' a w) → if Region.wanted o (yielded ops a.tmps) = true then Oper.wp P o a w K' Q else K' (a.put o.dst undef) w)
  (hend : ∀ listed a w, I listed a w → Region.ready md ops listed = [] → Q .normal a w) :
  ∀ (fuel : Nat) (listed : Array Bool) (a : Act) (w : World), iM ops listed ≤ fuel → I listed a w → uM P md ops Q G fuel listed a w
 | 0, listed, a, w, hf, hI => by
  have hr : Region.ready md ops listed = [] := by
   rcases h : Region.ready md ops listed with _ | ⟨i, l⟩
   ·rfl
   ·have := undone_set (md := md) (ops := ops) (listed := listed) (i := i) (by rw [h]; exact List.mem_cons_self)
    omega
  exact ⟨hr, hend _ _ _ hI hr⟩
 | fuel + 1, listed, a, w, hf, hI => by
  refine ⟨hend _ _ _ hI, fun i hi => ?_⟩
  obtain ⟨h0, o, ho, hall⟩ := mem_ready.1 hi
  have hu := undone_set hi
  exact wpOp_mono (fun a' w' h => ⟨hG _ _ _ h, wpAnyG_inv I hG hstep hend fuel _ a' w' (by omega) h⟩) (wpOp_step (K := I (listed.setIfInBounds i true)) ho (fun K' hK => hstep i o ho _ _ _ hI h0 hall K' hK))
def lH (P:Program) (md:Region.Mode) (ops:Array Oper) (Q:Exit→Act→World→Prop) (I:Array Bool→Act→World→Prop) (i:Nat) (o:Oper):Prop :=
 ∀ listed a w,I listed a w→listed.getD i true=false→(∀ e∈o.after,Region.binds md e=true→listed.getD e.on false=true) →
  ∀ K':Act→World→Prop,Shut (∀ a w,I (listed.setIfInBounds i true) a w→K' a w)→if Region.wanted o (yielded ops a.tmps)=true then Oper.wp P o a w K' Q else K' (a.put o.dst undef) w
def pJ (S:Nat→Oper→Prop):Nat→List Oper→Prop
 | _,[]=>True
 | k,o :: l=>S k o∧pJ S (k+1) l
theorem pJ.get {S:Nat→Oper→Prop}:∀ {k:Nat} {l:List Oper},pJ S k l→∀ i o,l[i]?=some o→S (k+i) o
 | _,[],_,i,o,h=>by simp at h
 | k,x :: l,h,0,o,e=>by
  have e:x=o:=by simpa using e
  subst e;exact h.1
 | k,x :: l,h,i+1,o,e=>by
  have:=pJ.get h.2 i o (by simpa using e)
  rwa [Nat.add_right_comm,Nat.add_assoc] at this
theorem allOps {S:Nat→Oper→Prop} {ops:Array Oper} (h:pJ S 0 ops.toList):∀ i o,ops[i]?=some o→S i o:=fun i o ho=>by
 have:=h.get i o (by simpa using ho)
 rwa [Nat.zero_add] at this
def early (ops:Array Oper):Bool:=(List.range ops.size).all fun i=>match ops[i]? with|some o=>o.after.all fun e=>decide (e.on < i)|none=>true
theorem all_listed {listed:Array Bool} (hw:early ops=true) (hr:Region.ready md ops listed=[]):∀ j,j < ops.size→listed.getD j true=true:=by
 intro j
 induction j using Nat.strongRecOn with
 | ind j ih =>
  intro hj
  rcases hl:listed.getD j true with _|_
  ·exfalso
   have hjs:j < listed.size:=by
    rcases Nat.lt_or_ge j listed.size with h|h
    ·exact h
    ·simp [h] at hl
   have hm:j∈Region.ready md ops listed:=by
    refine mem_ready.2 ⟨hl,ops[j],Array.getElem?_eq_getElem hj,fun e he _=>?_⟩
    have h1:=List.all_eq_true.1 hw j (List.mem_range.2 hj)
    rw [Array.getElem?_eq_getElem hj] at h1
    have h2:e.on < j:=by
     have:=Array.all_eq_true'.1 h1 e he
     simpa using this
    have h3:=ih e.on h2 (by omega)
    have h4:e.on < listed.size:=by omega
    simpa [h4] using h3
   rw [hr] at hm
   cases hm
  ·rfl
theorem uK (I:Array Bool→Act→World→Prop) (hG:∀ l a w,I l a w→G l w) (hstep:∀ (ops':Array Oper) (Q':Exit→Act→World→Prop),pJ (lH P md ops' Q' I) 0 ops.toList) (hw:early ops=true)
  (hend:∀ listed a w,I listed a w→(∀ j,j < ops.size→listed.getD j true=true)→Q .normal a w) {fuel:Nat} {listed:Array Bool} {a:Act} {w:World} (hf:iM ops listed≤fuel) (hI:I listed a w):uM P md ops Q G fuel listed a w :=
 wpAnyG_inv I hG (allOps (hstep ops Q)) (fun l a w h hr=>hend l a w h (all_listed hw hr)) fuel listed a w hf hI
end
theorem zK {l:Array Bool} {j:Nat} (h:l.getD j false=true):l.getD j true=true:=by
 rcases Nat.lt_or_ge j l.size with h'|h'
 ·simp [h'] at h ⊢;exact h
 ·simp [h'] at h
theorem zB {l:Array Bool} {i j:Nat} (h:l.getD j true=true):(l.setIfInBounds i true).getD j true=true:=by
 by_cases e:i=j
 ·subst e;exact vQ
 ·rwa [Go.getD_set_ne true e]
theorem zA {l:Array Bool} {i j:Nat} (hne:i≠j) (h:(l.setIfInBounds i true).getD j true=true):l.getD j true=true:=by rwa [Go.getD_set_ne true hne] at h
theorem zC {l:Array Bool} {i j:Nat} (h:(l.setIfInBounds i true).getD j true=false):l.getD j true=false:=by
 by_cases e:i=j
 ·subst e;rw [vQ] at h;cases h
 ·rwa [Go.getD_set_ne true e] at h
theorem zY {l:Array Bool} {i:Nat} {p:Prop} (h:(l.setIfInBounds i true).getD i true=false):p:=by rw [vQ] at h;cases h
section
variable {w0 W W':World} {F:Nat→Prop} {rs:List RowS} {ls:List (Nat × Obj)}
theorem Many.far (h:Many w0 F W rs ls []) {r:Nat} (hg:W.grownBy W' (some r)) (hF:F r) (hlt:r < w0.heap.size) (hne:∀ (j:Nat) (s:RowS),rs[j]?=some s→s.v.ownBlock≠some r):Many w0 F W' rs ls [] where
 own:=fun j s hs=>(h.own j s hs).kept hg (.inr (hne j s hs))
 mine:=h.mine
 apart:=h.apart
 lit:=fun p hp=>⟨zE (h.lit p hp).1 hg (fun e=>by have e:=Oj e;have:=(h.lit p hp).2.2;omega),(h.lit p hp).2⟩
 pre:=fun p hp=>by cases hp
 but:=h.but.step hg (fun k e=>.inl (by have e:=Oj e;subst e;exact hF))
theorem Many.make (h:Many w0 F W rs ls []) {j base sz:Nat} {e:TypeId} {cs:List Value} {n:Nat} (hr:rs[j]?=some ⟨base,e,.slice none 0 0,0,[],sz⟩) (hb:base≤w0.heap.size) (hl:cs.length=n * sz) (hm:n≤maxLen) :
  Many w0 F (W.alloc (.cells cs.toArray e)) (rs.set j ⟨base,e,.slice (some ⟨W.heap.size,0,none⟩) n n,n,cs,sz⟩) ls []:=by
 have hg:=Ga W (.cells cs.toArray e) none
 have:=h.append (W':=W.alloc (.cells cs.toArray e)) (j:=j) hr (v':=.slice (some ⟨W.heap.size,0,none⟩) n n) (n':=n) (us:=cs) (by
  have h9:=heap_alloc_new W (.cells cs.toArray e)
  exact ⟨by simpa using hl,.inr ⟨W.heap.size,n,cs.toArray,rfl,Nat.le_trans hb h.but.size,h9,Nat.le_refl _,hm,by simp [hl],by simp [← hl]⟩⟩) hg (.inr ⟨hg,fun k hk=>by
  have:W.heap.size=k:=by simpa [Value.ownBlock] using hk
  omega⟩)
 simpa using this
end
theorem Many.not_type {w0 W:World} {F:Nat→Prop} {rs:List RowS} {ls:List (Nat × Obj)} {ps:List (Nat × TypeId × List Value)} (h:Many w0 F W rs ls ps) {r e':Nat} {c:Array Value} {m:Nat × Nat} (hr:W.heap[r]?=some (.cells c e' m)) (hty:∀ s∈rs,s.e≠e'):∀ (j:Nat) (s:RowS),rs[j]?=some s→s.v.ownBlock≠some r :=
 fun j s hs=>zS (h.own j s hs) hr (hty s (List.mem_of_getElem? hs))
theorem vZ {P:Program} {W:World} {o:Oper} {a:Act} {K:Act→World→Prop} {Q:Exit→Act→World→Prop} {R c0:Prop} [Decidable c0] (hc0:c0) (s x:Operand) (t:TypeId)
  (ho:o.op=.call { callee:=.builtin .append,args:=#[s,x],argTypes:=#[t,t] }) {e:TypeId} {z:Value} {bytes:Nat} (E:ElemOk P t e z bytes) (j:Nat) (g c:Nat) (hx:a.eval x=.slice (some ⟨g,0,none⟩) 1 c)
  {w0:World} {F:Nat→Prop} {rs:List RowS} {ls:List (Nat × Obj)} {ps:List (Nat × TypeId × List Value)} (h:Many w0 F W rs ls ps)
  {r:RowS} (hr:rs[j]?=some r) (he:r.e=e) (hsz:r.sz=1) (hs:a.eval s=r.v) (h63:r.n+1≤maxLen) (hbytes:(r.n+1) * bytes≤140737488355328) (hbase:r.base≤w0.heap.size)
  {u:Value} {m:Nat × Nat} (hl:(g,Obj.cells #[u] e m)∈ls) (h1:u.oneCell'=true)
  (hK:∀ sa sc w',Many w0 F w' (rs.set j ⟨r.base,r.e,.slice sa (r.n+1) sc,r.n+1,r.xs ++ [u],r.sz⟩) ls ps→W.grownBy w' r.v.ownBlock→K (a.put o.dst (.slice sa (r.n+1) sc)) w'):if c0 then Oper.wp P o a W K Q else R:=by
 subst he
 rw [if_pos hc0]
 have hu:W.cell? ⟨g,0,none⟩=some u:=by simpa using zI (h.lit _ hl).1 0 (by simp)
 obtain ⟨v',w',hrun,h2,h3,h4⟩:=run_append_moved (P:=P) r.base t o.type E r.v r.n r.xs (by have:=h.own j r hr;rwa [hsz] at this) g c u hu h1 h63 hbytes (Nat.le_trans hbase h.but.size)
 obtain ⟨sa,sc,rfl⟩:=tX h2
 unfold Oper.wp execOp
 simp only [ho,resolve,invoke,builtin,Sem.run_bind,Sem.run_pure,Result.andThen_ok,List.map_toArray,List.map_cons,List.map_nil,hs,hx,hrun]
 exact hK sa sc w' (h.append hr (by rw [hsz];exact h2) h3 h4) h3
theorem tV {P:Program} {W:World} {o:Oper} {a:Act} {K:Act→World→Prop} {Q:Exit→Act→World→Prop} {R c0:Prop} [Decidable c0] (hc0:c0) (s x:Operand) (t:TypeId)
  (ho:o.op=.call { callee:=.builtin .append,args:=#[s,x],argTypes:=#[t,t] }) {e:TypeId} {sz:Nat} {z:Value} {bytes:Nat} (E:ElemN P t e sz z bytes) (j:Nat) (sv:Value) (hx:a.eval x=sv)
  {w0:World} {F:Nat→Prop} {rs:List RowS} {ls:List (Nat × Obj)} {ps:List (Nat × TypeId × List Value)} (h:Many w0 F W rs ls ps)
  {r:RowS} {m n':Nat} {news:List Value} (hr:rs[j]?=some r) (he:r.e=e) (hsz:r.sz=sz) (hs:a.eval s=r.v) (hrow:uJ W sz sv m news) (h1:∀ u∈news,u.oneCell'=true) (hn:r.n+m=n') (h63:n'≤maxLen) (hbytes:n' * bytes≤140737488355328) (hbase:r.base≤w0.heap.size)
  (hK:∀ sa sc w',Many w0 F w' (rs.set j ⟨r.base,r.e,.slice sa n' sc,n',r.xs ++ news,r.sz⟩) ls ps→W.grownBy w' r.v.ownBlock→K (a.put o.dst (.slice sa n' sc)) w'):if c0 then Oper.wp P o a W K Q else R:=by
 subst he;subst hsz;subst hn
 rw [if_pos hc0]
 obtain ⟨v',w',hrun,h2,h3,h4⟩:=run_append_movedR (P:=P) r.base t o.type E r.v r.n r.xs (h.own j r hr) sv m news hrow h1 h63 hbytes (Nat.le_trans hbase h.but.size)
 obtain ⟨sa,sc,rfl⟩:∃ sa sc,v'=.slice sa (r.n+m) sc:=by
  rcases h2.2 with ⟨e1,e2⟩|⟨g,cap,cur,e1,_⟩
  ·exact ⟨none,0,by rw [e1,e2]⟩
  ·exact ⟨_,_,e1⟩
 unfold Oper.wp execOp
 simp only [ho,resolve,invoke,builtin,Sem.run_bind,Sem.run_pure,Result.andThen_ok,List.map_toArray,List.map_cons,List.map_nil,hs,hx,hrun]
 exact hK sa sc w' (h.append hr h2 h3 h4) h3
theorem vG {a0:Act}:∀ {l:List (Nat × Value)},(∀ p∈l,p.2=a0.tmps.getD p.1 undef)→zL a0 l=a0
 | [],_=>rfl
 | p :: l,h=>by
  have h1:=h p List.mem_cons_self
  have hp:a0.put (some p.1) p.2=a0:=by
   rw [h1]
   show Act.mk (a0.tmps.setIfInBounds p.1 (a0.tmps.getD p.1 undef)) a0.defers=a0
   have:a0.tmps.setIfInBounds p.1 (a0.tmps.getD p.1 undef)=a0.tmps:=by
    apply Array.ext
    ·simp
    ·intro i h1 h2
     rw [Array.getElem_setIfInBounds]
     split
     ·rename_i e;subst e;simp [h2]
     ·rfl
   rw [this]
  show zL (a0.put (some p.1) p.2) l=a0
  rw [hp]
  exact vG fun q hq=>h q (List.mem_cons_of_mem _ hq)
theorem Many.start {w:World} {F:Nat→Prop} {rs:List RowS} (hown:∀ r∈rs,w.ownsRow r.base r.e r.sz r.v r.n r.xs) (hF:∀ r∈rs,∀ k,r.v.ownBlock=some k→F k) (hap:rs.Pairwise (fun r s=>∀ k,r.v.ownBlock=some k→s.v.ownBlock≠some k)):Many w F w rs [] [] where
 own:=fun j r hr=>hown r (List.mem_of_getElem? hr)
 mine:=fun j r hr k hk=>.inl (hF r (List.mem_of_getElem? hr) k hk)
 apart:=fun i j r s hij hr hs k hk hk2=>by
  obtain ⟨hi,hri⟩:=List.getElem?_eq_some_iff.1 hr
  obtain ⟨hj,hsj⟩:=List.getElem?_eq_some_iff.1 hs
  rcases Nat.lt_or_gt_of_ne hij with h|h
  ·have:=List.pairwise_iff_getElem.1 hap i j hi hj h k
   rw [hri,hsj] at this
   exact this hk hk2
  ·have:=List.pairwise_iff_getElem.1 hap j i hj hi h k
   rw [hri,hsj] at this
   exact this hk2 hk
 lit:=fun p hp=>by simp at hp
 pre:=fun p hp=>by simp at hp
 but:=GrownBut.refl _ _
theorem own_apart {w:World} {base base' e e' sz sz' n n':Nat} {v v':Value} {xs xs':List Value} (h:w.ownsRow base e sz v n xs) (h':w.ownsRow base' e' sz' v' n' xs') (hne:e≠e'):∀ k,v.ownBlock=some k→v'.ownBlock≠some k:=by
 intro k hk e2
 rcases h'.2 with ⟨hv,_⟩|⟨g,cap,cur,hv,_,hg,_⟩
 ·rw [hv] at e2;simp [Value.ownBlock] at e2
 ·rw [hv] at e2
  have:g=k:=by simpa [Value.ownBlock] using e2
  subst this
  exact zS h hg hne hk
def oM:Code→Nat→Option (Array Oper)
 | .region i ops _,k=>if i=k then some ops else none
 | .seq a b,k=>match oM a k with
  | some o=>some o
  | none=>oM b k
 | .cond _ a b,k=>match oM a k with
  | some o=>some o
  | none=>oM b k
 | .block _ b,k=>oM b k
 | .loop b,k=>oM b k
 | .scope b,k=>oM b k
 | _,_=>none
def rZ (f:Func) (k:Nat):Array Oper:=match f.body with
 | some b=>(oM b k).getD #[]
 | none=>#[]
end Go.Proofs.YtdjhoadoiknaoaaDoor
namespace Go.Proofs.YtdjhoadoiknaoaaDoor
def under (l:List Nat) (s:Nat):Bool:=l.any fun b=>decide (s &&& b=s)
theorem yI {l:List Nat} {s:Nat}:under l s=true ↔ ∃ b∈l,s &&& b=s:=by simp [under]
theorem tT {a b:Nat}:a &&& b=a ↔ ∀ z,a.testBit z=true→b.testBit z=true:=by
 constructor
 ·intro h z hz
  rw [← h,Nat.testBit_and,Bool.and_eq_true] at hz
  exact hz.2
 ·intro h
  apply Nat.eq_of_testBit_eq
  intro z
  rw [Nat.testBit_and]
  cases ha:a.testBit z with
  | false=>rfl
  | true=>rw [h z ha];rfl
theorem oV (a:Nat):a &&& a=a:=Nat.and_self a
theorem rV {a b c:Nat} (h:a &&& b=a) (k:b &&& c=b):a &&& c=a:=tT.2 fun z hz=>tT.1 k z (tT.1 h z hz)
theorem iP {a b:Nat} (h:a &&& b=a):a≤b:=by rw [← h];exact Nat.and_le_right
theorem iO {a b n:Nat} (h:a &&& b=a) (hb:b < 2 ^ n):a < 2 ^ n:=Nat.lt_of_le_of_lt (iP h) hb
theorem nS (s x z:Nat):(s ||| 1 <<< x).testBit z=(s.testBit z || decide (x=z)):=by rw [Nat.testBit_or,xY]
theorem mR (s x:Nat):s &&& (s ||| 1 <<< x)=s:=tT.2 fun z hz=>by rw [nS,hz];rfl
theorem or_one_sub {s x b:Nat} (h:s &&& b=s) (hb:b.testBit x=true):(s ||| 1 <<< x) &&& b=s ||| 1 <<< x:=by
 refine tT.2 fun z hz=>?_
 rw [nS,Bool.or_eq_true,decide_eq_true_eq] at hz
 rcases hz with hz|rfl
 ·exact tT.1 h z hz
 ·exact hb
theorem kF {s x n:Nat} (hs:s < 2 ^ n) (hx:x < n):s ||| 1 <<< x < 2 ^ n:=by
 refine Nat.or_lt_two_pow hs ?_
 rw [Nat.one_shiftLeft]
 exact Nat.pow_lt_pow_right (by omega) hx
theorem or_one_gt {s x:Nat} (h:s.testBit x=false):s < s ||| 1 <<< x:=by
 refine Nat.lt_of_le_of_ne (iP (mR s x)) fun e=>?_
 have:(s ||| 1 <<< x).testBit x=true:=by rw [nS];simp
 rw [← e,h] at this;cases this
theorem exists_bit {a b n:Nat} (h:a &&& b=a) (hne:a≠b) (hb:b < 2 ^ n):∃ x,x < n∧a.testBit x=false∧b.testBit x=true:=by
 apply Classical.byContradiction
 intro hno
 apply hne
 apply Nat.eq_of_testBit_eq
 intro z
 by_cases hz:z < n
 ·cases ha:a.testBit z with
  | true=>exact (tT.1 h z ha).symm
  | false =>
   cases hbz:b.testBit z with
   | false=>rfl
   | true=>exact absurd ⟨z,hz,ha,hbz⟩ hno
 ·rw [lG (iO h hb) (by omega),lG hb (by omega)]
theorem under_step {n:Nat} {l:List Nat} (hl:∀ b∈l,b < 2 ^ n) (s:Nat) :
  under l s=true ↔ s∈l∨∃ x,x < n∧s.testBit x=false∧under l (s ||| 1 <<< x)=true:=by
 constructor
 ·intro h
  obtain ⟨b,hb,hs⟩:=yI.1 h
  by_cases e:s=b
  ·exact .inl (e ▸ hb)
  ·obtain ⟨x,hx,h0,h1⟩:=exists_bit hs e (hl b hb)
   exact .inr ⟨x,hx,h0,yI.2 ⟨b,hb,or_one_sub hs h1⟩⟩
 ·rintro (h|⟨x,_,_,h⟩)
  ·exact yI.2 ⟨s,h,oV s⟩
  ·obtain ⟨b,hb,hs⟩:=yI.1 h
   exact yI.2 ⟨b,hb,rV (mR s x) hs⟩
theorem under_lt {n:Nat} {l:List Nat} (hl:∀ b∈l,b < 2 ^ n) {s:Nat} (h:under l s=true):s < 2 ^ n:=by
 obtain ⟨b,hb,hs⟩:=yI.1 h
 exact iO hs (hl b hb)
def topB (n:Nat) (l:List Nat) (s:Nat):Bool:=(List.range n).all fun x=>s.testBit x || !under l (s ||| 1 <<< x)
def maxOf (n:Nat) (l:List Nat):List Nat:=(List.range (2 ^ n)).filter fun s=>under l s && topB n l s
def mostIn (l:List Nat) (a:Nat):Prop:=∀ b∈l,a=b∨a &&& b≠a
theorem kJ {n:Nat} {l:List Nat} (hl:∀ b∈l,b < 2 ^ n) {s:Nat}:s∈maxOf n l ↔ s∈l∧mostIn l s:=by
 simp only [maxOf,List.mem_filter,List.mem_range,Bool.and_eq_true]
 constructor
 ·rintro ⟨hs,hu,ht⟩
  have key:∀ b∈l,s &&& b=s→s=b:=by
   intro b hb h
   apply Classical.byContradiction
   intro hne
   obtain ⟨x,hx,h0,h1⟩:=exists_bit h hne (hl b hb)
   have:=List.all_eq_true.1 ht x (List.mem_range.2 hx)
   rw [h0,Bool.false_or,Bool.not_eq_true',yI.2 ⟨b,hb,or_one_sub h h1⟩] at this
   cases this
  obtain ⟨b,hb,h⟩:=yI.1 hu
  have e:=key b hb h
  subst e
  exact ⟨hb,fun c hc=>by
   by_cases e:s=c
   ·exact .inl e
   ·exact .inr fun h=>e (key c hc h)⟩
 ·rintro ⟨hs,hm⟩
  refine ⟨hl s hs,yI.2 ⟨s,hs,oV s⟩,List.all_eq_true.2 fun x hx=>?_⟩
  cases h0:s.testBit x with
  | true=>rfl
  | false =>
   rw [Bool.false_or,Bool.not_eq_true',← Bool.not_eq_true]
   intro hu
   obtain ⟨b,hb,h⟩:=yI.1 hu
   have hsb:=rV (mR s x) h
   rcases hm b hb with e|e
   ·subst e
    have h1:=iP h
    have h2:=or_one_gt h0
    omega
   ·exact e hsb
theorem under_congr {l m:List Nat} (h:∀ a,a∈l ↔ a∈m) (s:Nat):under l s=under m s:=by
 rw [Bool.eq_iff_iff,yI,yI]
 exact ⟨fun ⟨b,hb,hs⟩=>⟨b,(h b).1 hb,hs⟩,fun ⟨b,hb,hs⟩=>⟨b,(h b).2 hb,hs⟩⟩
theorem maxOf_congr {n:Nat} {l m:List Nat} (h:∀ a,a∈l ↔ a∈m):maxOf n l=maxOf n m:=by
 unfold maxOf topB
 congr 1
 funext s
 rw [under_congr h]
 congr 1
 congr 1
 funext x
 rw [under_congr h]
theorem oH {n:Nat} {l:List Nat} (hl:∀ b∈l,b < 2 ^ n) {s:Nat} (h:s∈maxOf n l):s∈l:=((kJ hl).1 h).1
theorem maxOf_lt {n:Nat} {l:List Nat} {s:Nat} (h:s∈maxOf n l):s < 2 ^ n:=by
 simp only [maxOf,List.mem_filter,List.mem_range] at h;exact h.1
theorem rQ {n:Nat} {l:List Nat} (hl:∀ b∈l,b < 2 ^ n):∀ (d a:Nat),2 ^ n - a≤d→a∈l→∃ b∈maxOf n l,a &&& b=a:=by
 intro d
 induction d with
 | zero=>intro a hd ha;have:=hl a ha;omega
 | succ d ih =>
  intro a hd ha
  by_cases hm:mostIn l a
  ·exact ⟨a,(kJ hl).2 ⟨ha,hm⟩,oV a⟩
  ·have:∃ c,c∈l∧a≠c∧a &&& c=a:=by
    apply Classical.byContradiction
    intro hno
    exact hm fun b hb=>by
     by_cases e:a=b
     ·exact .inl e
     ·exact .inr fun h=>hno ⟨b,hb,e,h⟩
   obtain ⟨c,hc,hne,hs⟩:=this
   have h1:=iP hs
   obtain ⟨b,hb,h⟩:=ih c (by have:=hl a ha;have:=hl c hc;omega) hc
   exact ⟨b,hb,rV hs h⟩
theorem tS {n:Nat} {l:List Nat} (hl:∀ b∈l,b < 2 ^ n) (s:Nat):under (maxOf n l) s=under l s:=by
 rw [Bool.eq_iff_iff,yI,yI]
 constructor
 ·rintro ⟨b,hb,h⟩
  exact ⟨b,oH hl hb,h⟩
 ·rintro ⟨b,hb,h⟩
  obtain ⟨c,hc,h2⟩:=rQ hl _ b (Nat.le_refl _) hb
  exact ⟨c,hc,rV h h2⟩
theorem maxOf_max {n:Nat} {l:List Nat} (hl:∀ b∈l,b < 2 ^ n):maxOf n (maxOf n l)=maxOf n l:=by
 have e:∀ s,under (maxOf n l) s=under l s:=tS hl
 unfold maxOf topB
 congr 1
 funext s
 have e':(fun s=>under l s && (List.range n).all fun x=>s.testBit x || !under l (s ||| 1 <<< x))=(fun s=>under l s && topB n l s):=rfl
 rw [e']
 show (under (maxOf n l) s && _)=_
 rw [e]
 congr 1
 congr 1
 funext x
 show (s.testBit x || !under (maxOf n l) (s ||| 1 <<< x))=_
 rw [e]
def tK (n:Nat) (tb:Nat→Nat→Nat) (l:List Nat):List Nat:=l ++ l.flatMap fun a=>(l.map fun b=>zP n tb a b) ++ [yC n tb a]
def yA (n:Nat) (tb:Nat→Nat→Nat) (l:List Nat):List Nat:=maxOf n (tK n tb l)
theorem wR {n:Nat} {tb:Nat→Nat→Nat} {l:List Nat} {s:Nat} :
  s∈tK n tb l ↔ s∈l∨∃ a∈l,(∃ b∈l,zP n tb a b=s)∨yC n tb a=s:=by
 simp only [tK,List.mem_append,List.mem_flatMap,List.mem_map,List.mem_singleton]
 constructor
 ·rintro (h|⟨a,ha,h|h⟩)
  ·exact .inl h
  ·exact .inr ⟨a,ha,.inl h⟩
  ·exact .inr ⟨a,ha,.inr h.symm⟩
 ·rintro (h|⟨a,ha,h|h⟩)
  ·exact .inl h
  ·exact .inr ⟨a,ha,.inl h⟩
  ·exact .inr ⟨a,ha,.inr h.symm⟩
theorem vH {n:Nat} {tb:Nat→Nat→Nat} (ht:Tb n tb) {l:List Nat} (hl:∀ b∈l,b < 2 ^ n):∀ b∈tK n tb l,b < 2 ^ n:=by
 intro s hs
 rcases wR.1 hs with h|⟨a,ha,⟨b,_,rfl⟩|rfl⟩
 ·exact hl s h
 ·exact xU ht.lt a b
 ·exact vO ht (hl a ha)
end Go.Proofs.YtdjhoadoiknaoaaDoor
