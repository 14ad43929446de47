/- Part 9 of the proof. -/
import Derived.Test.YtiknckajkdlppaaGreatQb8
import Derived.BigQuiet
import Derived.Deep.RegionLaw
set_option linter.unusedVariables false
set_option linter.unusedSimpArgs false
set_option maxRecDepth 100000
set_option maxHeartbeats 16000000
namespace Go.Proofs.YtiknckajkdlppaaGreat
open Go.RowKit
variable{g e p sz cap i j a9 n' mb:Nat}{r:RowS}{v z:Value}{xs:List Value}{P:Program}{ops:Array Oper}{a:Act}{K:Act->World->Prop}{Q:Exit->Act->World->Prop}{R:Prop}
theorem bR {W:World}{u:Value}{m:Nat×Nat}(h:W.heap[g]?=some (.cells #[u] e m)):tM W 1 (.slice (some ⟨g,0,none⟩) 1 1) 1 [u]:=by
 have c0:=zJ h 0;simp only[List.getElem_toArray,List.getElem_cons_zero]at c0;refine .inr ⟨g,0,1,rfl,rfl,jm,fun j u' hj=>?_⟩
 match j,hj with
 | 0,hj=>simp at hj;subst hj;simpa using c0
theorem zU {w:World}{x0 x1 x2 x3 x4 x5:Value}(h:w.heap[p]?=some (.cells #[x0,x1,x2,x3,x4,x5] e (0,0))):w.cell? ⟨p,0,none⟩=some x0/\w.cell? ⟨p,1,none⟩=some x1/\w.cell? ⟨p,2,none⟩=some x2/\w.cell? ⟨p,3,none⟩=some x3/\w.cell? ⟨p,4,none⟩=some x4/\w.cell? ⟨p,5,none⟩=some x5:=by
 have c0:=zJ h 0;have c1:=zJ h 1;have c2:=zJ h 2;have c3:=zJ h 3;have c4:=zJ h 4;have c5:=zJ h 5;exact⟨by simpa using c0,by simpa using c1,by simpa using c2,by simpa using c3,by simpa using c4,by simpa using c5⟩
theorem uT {w:World}{z0 z1 z2 z3 z4 z5:Value}(h:w.heap[p]?=some (.cells #[z0,z1,z2,z3,z4,z5] e (0,0)))(x0 x1 x2 x3 x4 x5:Value):((((((w.setCell ⟨p,0,none⟩ x0).setCell ⟨p,1,none⟩ x1).setCell ⟨p,2,none⟩ x2).setCell ⟨p,3,none⟩ x3).setCell ⟨p,4,none⟩ x4).setCell ⟨p,5,none⟩ x5).heap[p]?=some (.cells #[x0,x1,x2,x3,x4,x5] e (0,0))/\w.grownBy ((((((w.setCell ⟨p,0,none⟩ x0).setCell ⟨p,1,none⟩ x1).setCell ⟨p,2,none⟩ x2).setCell ⟨p,3,none⟩ x3).setCell ⟨p,4,none⟩ x4).setCell ⟨p,5,none⟩ x5) (some p):=by
 have s0:=heap_setCell_same w p 0 _ _ x0 h;have s1:=heap_setCell_same _ p 1 _ _ x1 s0;have s2:=heap_setCell_same _ p 2 _ _ x2 s1;have s3:=heap_setCell_same _ p 3 _ _ x3 s2;have s4:=heap_setCell_same _ p 4 _ _ x4 s3;have s5:=heap_setCell_same _ p 5 _ _ x5 s4;refine⟨by rw[s5];simp,?_⟩;have t:=fun(W:World) (i:Nat) (u:Value)=>zH W ⟨p,i,none⟩ u;exact zI (zI (zI (zI (zI (t _ 0 _) (t _ 1 _)) (t _ 2 _)) (t _ 3 _)) (t _ 4 _)) (t _ 5 _)
structure BoxS (B:Nat)(X:Nat->Prop)(o ty:Nat)(w0 wk:World)(rs:List RowS)(c:Array Value)(w:World):Prop where
 mem:EMem X w rs
 typ:∀r∈rs,r.base=B/\r.e≠ty
 box:w.heap[o]?=some (.cells c ty (0,0))
 off:¬X o
 size:w0.heap.size<=B
 old:w0.heap.size<=o
 base:B<=wk.heap.size
 grown:w0.grownBy w none
 kept:wG X wk w
 wk:wk.heap.size<=w.heap.size
section
variable {B:Nat} {X:Nat->Prop} {o ty:Nat} {w0 wk w:World} {rs:List RowS} {c:Array Value}
theorem BoxS.grow (h:BoxS B X o ty w0 wk rs c w){w':World}(hg:w.grownBy w' none):BoxS B X o ty w0 wk rs c w' :=
 ⟨h.mem.grow hg,h.typ,zD h.box hg,h.off,h.size,h.old,h.base,zE h.grown hg,h.kept.trans (h.mem.keep hg),Nat.le_trans h.wk hg.size⟩
theorem BoxS.set (h:BoxS B X o ty w0 wk rs c w)(f:Nat)(u:Value):BoxS B X o ty w0 wk rs (c.setIfInBounds f u) (w.setCell ⟨o,f,none⟩ u):=by
 have hs:=heap_setCell_same w o f _ _ u h.box;have hg:=zH w ⟨o,f,none⟩ u;exact⟨h.mem.far hg (fun r hr=>zR (h.mem.own r hr) h.box (h.typ r hr).2),h.typ,hs,h.off,h.size,h.old,h.base,yM h.grown hg (by show _<=o;have:=h.old;omega),h.kept.trans (wG.of_grown h.mem.lt hg (fun j e hx=>by have e:o=j:=Oj e;subst e;exact h.off hx)),Nat.le_trans h.wk hg.size⟩
theorem BoxS.own (h:BoxS B X o ty w0 wk rs c w)(hr:r∈rs):w.ownsRow r.base r.e r.sz r.v r.n r.xs:=h.mem.own r hr
theorem BoxS.nil (h:BoxS B X o ty w0 wk rs c w)(he:e≠ty):BoxS B X o ty w0 wk (rs++[⟨B,e,.slice none 0 0,0,[],sz⟩]) c w :=
 ⟨h.mem.add (zX _ none) (World.ownsRow_nil _ _ _ _) (fun j e=>by simp[Value.ownBlock]at e),fun r hr=>by
  rcases List.mem_append.1 hr with hr|hr
  ·exact h.typ r hr
  ·rw[List.mem_singleton]at hr;subst hr;exact⟨rfl,he⟩,h.box,h.off,h.size,h.old,h.base,h.grown,h.kept,h.wk⟩
theorem BoxS.add (h:BoxS B X o ty w0 wk rs c w){w':World}(hg:w.grownBy w' none){n:Nat}(ho:w'.ownsRow w.heap.size e sz v n xs)(he:e≠ty):BoxS B X o ty w0 wk (rs++[⟨B,e,v,n,xs,sz⟩]) c w' :=
 ⟨h.mem.add hg (xO ho (Nat.le_trans h.base h.wk)) (fun k hk=>(ho.lt k hk).1),fun r hr=>by
  rcases List.mem_append.1 hr with hr|hr
  ·exact h.typ r hr
  ·rw[List.mem_singleton]at hr;subst hr;exact⟨rfl,he⟩,zD h.box hg,h.off,h.size,h.old,h.base,zE h.grown hg,h.kept.trans (h.mem.keep hg),Nat.le_trans h.wk hg.size⟩
theorem BoxS.push (h:BoxS B X o ty w0 wk rs c w):Many w (qE rs) w rs [] []/\B<=w.heap.size/\∀(wM:World) (j:Nat) (r:RowS) (v':Value) (n':Nat) (us:List Value),rs[j]?=some r->Many w (qE rs) wM (rs.set j ⟨r.base,r.e,v',n',r.xs++us,r.sz⟩) [] []->BoxS B X o ty w0 wk (rs.set j ⟨r.base,r.e,v',n',r.xs++us,r.sz⟩) c wM:=by
 refine⟨h.mem.many _ (fun _ h=>h),Nat.le_trans h.base h.wk,fun wM j r v' n' us hr hMM=>?_⟩
 have hf:∀k,qE rs k->B<=k/\k≠o/\¬X k:=fun k hk=>by
  obtain⟨r,hr,hk⟩:=hk;have h0:=h.mem.own r hr;refine⟨by have:=(h0.lt k hk).1;rw[(h.typ r hr).1]at this;exact this,fun e=>?_,h.mem.offX r hr k hk⟩;subst e;exact zR h0 h.box (h.typ r hr).2 hk
 refine⟨h.mem.after hMM (fun k hk=>(hf k hk).2.2),fun s hs=>?_,hMM.but.heap h.box (fun hj=>(hf o hj).2.1 rfl),h.off,h.size,h.old,h.base,hMM.but.grown h.grown (fun k hk=>.inr (Nat.le_trans h.size (hf k hk).1)),h.kept.trans (h.mem.keepMany hMM (fun k hk=>(hf k hk).2.2)),Nat.le_trans h.wk hMM.but.size⟩;rcases List.mem_or_eq_of_mem_set hs with hs|rfl
 ·exact h.typ s hs
 exact h.typ r (List.mem_of_getElem? hr)
theorem qJO {w:World}{b n:Nat}(h:w.ownsRow b e 1 (.slice (some ⟨g,0,none⟩) n cap) n xs)(hi:i<n)(u:Value):(w.setCell ⟨g,i,none⟩ u).ownsRow b e 1 (.slice (some ⟨g,0,none⟩) n cap) n (xs.set i u):=by
 refine⟨by rw[List.length_set];exact h.1,?_⟩;rcases h.2 with ⟨hv,_⟩|⟨g',cap',cur,hv,hb,hg,hnc,hcm,hcs,htake⟩
 ·simp at hv
 simp only[Value.slice.injEq,Option.some.injEq,Addr.mk.injEq]at hv;obtain⟨⟨rfl,_⟩,_,rfl⟩:=hv;have hs:=heap_setCell_same w g i _ _ u hg;refine .inr ⟨g,cap,_,rfl,hb,hs,hnc,hcm,by simpa using hcs,?_⟩;rw[<-htake];simp[List.take_set]
theorem BoxS.put (h:BoxS B X o ty w0 wk rs c w){n b:Nat}(hr:rs[j]?=some ⟨b,e,.slice (some ⟨g,0,none⟩) n cap,n,xs,1⟩)(hi:i<n)(u:Value):BoxS B X o ty w0 wk (rs.set j ⟨b,e,.slice (some ⟨g,0,none⟩) n cap,n,xs.set i u,1⟩) c (w.setCell ⟨g,i,none⟩ u):=by
 have h0:=List.mem_of_getElem? hr;have ho:=h.mem.own _ h0;have ht:=h.typ _ h0;simp only at ho ht;have hg:=zH w ⟨g,i,none⟩ u;have h7:g≠o:=fun e1=>by subst e1;exact zR ho h.box ht.2 rfl
 obtain⟨h4,h2⟩:=List.getElem?_eq_some_iff.1 hr;have h3:=List.pairwise_iff_getElem.1 h.mem.apart;refine⟨⟨fun r hr'=>?_,?_,fun r hr' k hk=>?_,fun k hk=>Nat.lt_of_lt_of_le (h.mem.lt k hk) hg.size⟩,fun r hr'=>?_,zD h.box hg (fun e1=>h7 (Oj e1)),h.off,h.size,h.old,h.base,zE h.grown hg (fun k e1=>?_),h.kept.trans (wG.of_grown h.mem.lt hg (fun k e1 hx=>?_)),Nat.le_trans h.wk hg.size⟩
 ·obtain⟨q,hq,rfl⟩:=List.getElem_of_mem hr'
  rw[List.getElem_set];have h1:q<rs.length:=by simpa using hq
  split
  ·exact qJO ho hi u
  rename_i hne
  refine(h.mem.own _ (List.getElem_mem h1)).kept hg (.inr (fun e1=>?_));rcases Nat.lt_or_gt_of_ne hne with hlt|hlt
  ·exact h3 j q h4 h1 hlt g (by rw[h2];rfl) e1
  exact h3 q j h1 h4 hlt g e1 (by rw[h2];rfl)
 ·rw[List.pairwise_iff_getElem]
  intro p q hp hq h5;have h6:p<rs.length:=by simpa using hp
  have h1:q<rs.length:=by simpa using hq
  have:=h3 p q h6 h1 h5;rw[List.getElem_set,List.getElem_set]
  split<;>split
  ·omega
  ·rename_i e1 e2;subst e1;rw[h2]at this;exact this
  ·rename_i e1 e2;subst e2;rw[h2]at this;exact this
  exact this
 ·rcases List.mem_or_eq_of_mem_set hr' with hr'|rfl
  ·exact h.mem.offX r hr' k hk
  exact h.mem.offX _ h0 k hk
 ·rcases List.mem_or_eq_of_mem_set hr' with hr'|rfl
  ·exact h.typ r hr'
  exact ht
 ·have e1:g=k:=Oj e1
  have:=(ho.lt g rfl).1;have:=h.size;omega
 have e1:g=k:=Oj e1;subst e1;exact h.mem.offX _ h0 g rfl hx
end
def tabI (ts:List (List Nat)):List (List Int):=ts.map fun r=>r.map fun(x:Nat)=>(x:Int)
theorem xS (ts:List (List Nat)):(tabI ts).length=ts.length:=by simp[tabI]
theorem qBK (l:List Nat):nats l=ints (l.map fun(x:Nat)=>(x:Int)):=by simp[nats,ints]
theorem lB (ts:List (List Nat))(x:Nat):(tabI ts).getD x []=(ts.getD x []).map fun(y:Nat)=>(y:Int):=by
 rcases Nat.lt_or_ge x ts.length with h|h
 ·rw[zQ (by rw[xS];exact h),zQ h];simp[tabI]
 rw[List.getD_eq_getElem?_getD,List.getD_eq_getElem?_getD,List.getElem?_eq_none (by rw[xS];exact h),List.getElem?_eq_none h];rfl
theorem kZ (ts:List (List Nat))(x y:Nat):ent (tabI ts) x y=((ts.getD x []).getD y 0:Nat):=by
 rw[ent,lB];obtain⟨r,hr⟩:=Nm (ts.getD x []);rw[<-hr];rcases Nat.lt_or_ge y r.length with h|h
 ·rw[zQ (by simpa using h),zQ h];simp
 rw[List.getD_eq_getElem?_getD,List.getD_eq_getElem?_getD,List.getElem?_eq_none (by simpa using h),List.getElem?_eq_none h];rfl
theorem qIN (ts:List (List Nat))(x y:Nat):entN (tabI ts) x y=(ts.getD x []).getD y 0:=by rw[entN,kZ];rfl
theorem TMat.mat {B:Nat}{w:World}{ts:List (List Nat)}(h:TMat B w v ts):Mat B w v (tabI ts):=by
 by_cases h0:0<ts.length
 ·obtain⟨b,off,cap,rfl,hc,hm,hb,h4,h3⟩:=h.head h0
  have h2:∀x,∃a c,x<ts.length->w.cell? ⟨b,off+x,none⟩=some (.slice a (ts.getD x []).length c)/\RowT B 3 w (.slice a (ts.getD x []).length c) (nats (ts.getD x [])):=by
   intro x;by_cases hx:x<ts.length
   ·obtain⟨a,c,h1⟩:=h3 x hx
    exact⟨a,c,fun _=>h1⟩
   exact⟨none,0,fun h=>absurd h hx⟩
  obtain⟨A,hA⟩:=Classical.axiomOfChoice h2;obtain⟨C,hC⟩:=Classical.axiomOfChoice hA;refine .inr ⟨b,off,cap,A,C,by rw[xS],by rw[xS];exact hc,hm,hb,h4,fun x hx=>?_,fun x hx=>?_⟩
  ·rw[xS]at hx
   rw[lB,List.length_map];exact(hC x hx).1
  rw[xS]at hx;have h1:=(hC x hx).2.row;rw[lB,List.length_map];rw[qBK]at h1;exact h1
 have:ts=[]:=List.eq_nil_of_length_eq_zero yo;subst this;obtain⟨a,c,rfl⟩:=h.shape;exact .inl ⟨a,c,rfl,rfl⟩
theorem mB {o:Oper}{w:World}(a4:o.guard=none)(s x:Operand)(t:TypeId)(ho:o.op=.call { callee:=.builtin .append,args:=#[s,x],argTypes:=#[t,t] }){e:TypeId}(E:ElemOk P t e z a9)(base:Nat)(v:Value)(n:Nat)(xs:List Value)(hs:a.eval s=v)(a6:w.ownsRow base e 1 v n xs)(u:Value)(blk:Nat)(m:Nat×Nat)(hx:a.eval x=.slice (some ⟨blk,0,none⟩) 1 1)(a5:w.heap[blk]?=some (.cells #[u] e m))(h1:u.oneCell'=true)(a3:n+1<=maxLen)(a8:(n+1)*a9<=140737488355328)(a7:base<=w.heap.size)(h:∀sa sc w',w'.ownsRow base e 1 (.slice sa (n+1) sc) (n+1) (xs++[u])->w.grownBy w' v.ownBlock->K (a.put o.dst (.slice sa (n+1) sc)) w'):
  if Region.wanted o (yielded ops a.tmps)=true then Oper.wp P o a w K Q else R:=by
 have hw:Region.wanted o (yielded ops a.tmps)=true:=by simp[Region.wanted,a4]
 rw[if_pos hw];obtain⟨i,hi,hz,h0,h3⟩:=info_parts E.hi;refine wp_append_own w s x t ho base e i z 1 a9 E.ht hi hz h0 h3 E.hz jd v n xs hs a6 ⟨blk,0,none⟩ 1 1 [u] hx rfl ?_ ?_ a3 a8 a7 ?_
 ·intro j u' hj
  match j,hj with
  | 0,hj=>simp at hj;subst hj;simpa [Addr.add] using zJ a5 0
 ·intro u' hu;simp at hu;subst hu;exact h1
 ·intro v' w' h1 h2 _
  obtain⟨sa,sc,rfl⟩:=rX h1;exact h sa sc w' h1 h2
theorem qIF {w:World}{o:Oper}(s x:Operand)(t:TypeId)(ho:o.op=.call { callee:=.builtin .append,args:=#[s,x],argTypes:=#[t,t] }){e:TypeId}(E:ElemN P t e sz z a9)(base:Nat)(v:Value)(n:Nat)(xs:List Value)(hs:a.eval s=v)(a6:w.ownsRow base e sz v n xs)(us:List Value)(g:Nat)(hx:a.eval x=.slice (some ⟨g,0,none⟩) 1 1)(m:Nat×Nat)(a4:us.length=sz)(hg:w.heap[g]?=some (.cells us.toArray e m))(h1:∀u∈us,u.oneCell'=true)(a5:n+1<=maxLen)(a8:(n+1)*a9<=140737488355328)(a7:base<=w.heap.size)(h:∀sa sc w',w'.ownsRow base e sz (.slice sa (n+1) sc) (n+1) (xs++us)->w.grownBy w' v.ownBlock->nW w w' v (.slice sa (n+1) sc)->K (a.put o.dst (.slice sa (n+1) sc)) w'):o.wp P a w K Q:=by
 have h5:∀j,(⟨g,0,none⟩:Addr).add j=⟨g,j,none⟩:=fun j=>by unfold Addr.add;split<;>simp_all
 have h0:tM w sz (.slice (some ⟨g,0,none⟩) 1 1) 1 us:=.inr ⟨g,0,1,rfl,yo,jm,fun i u hi=>by
  obtain⟨hl,e⟩:=List.getElem?_eq_some_iff.1 hi;have:=zJ hg i (by simpa using hl)
  rw[Nat.zero_add,this];simpa using e⟩
 obtain⟨v',w',hr,h2,h3,h4⟩:=rV (P:=P) base t o.type E v n xs a6 _ 1 us h0 h1 a5 a8 a7;obtain⟨sa,sc,rfl⟩:=gF h2;unfold Oper.wp execOp;simp only[ho,resolve,invoke,builtin,Sem.run_bind,Sem.run_pure,Result.andThen_ok,List.map_toArray,List.map_cons,List.map_nil,hs,hx,hr];exact h sa sc w' h2 h3 h4
theorem tP {w:World}{o:Oper}(a4:o.guard=none)(s x:Operand)(t:TypeId)(ho:o.op=.call { callee:=.builtin .append,args:=#[s,x],argTypes:=#[t,t] }){e:TypeId}(E:ElemN P t e sz z a9)(base:Nat)(v:Value)(n:Nat)(xs:List Value)(hs:a.eval s=v)(a6:w.ownsRow base e sz v n xs)(us:List Value)(g:Nat)(hx:a.eval x=.slice (some ⟨g,0,none⟩) 1 1)(m:Nat×Nat)(a5:us.length=sz)(hg:w.heap[g]?=some (.cells us.toArray e m))(h1:∀u∈us,u.oneCell'=true)(a3:n+1<=maxLen)(a8:(n+1)*a9<=140737488355328)(a7:base<=w.heap.size)(h:∀sa sc w',w'.ownsRow base e sz (.slice sa (n+1) sc) (n+1) (xs++us)->w.grownBy w' v.ownBlock->nW w w' v (.slice sa (n+1) sc)->K (a.put o.dst (.slice sa (n+1) sc)) w'):if Region.wanted o (yielded ops a.tmps)=true then Oper.wp P o a w K Q else R:=by
 have hw:Region.wanted o (yielded ops a.tmps)=true:=by simp[Region.wanted,a4]
 rw[if_pos hw];exact qIF s x t ho E base v n xs hs a6 us g hx m a5 hg h1 a3 a8 a7 h
theorem sM {w:World}{a7:List Oper}{o:Oper}(a3:o.guard=none)(s x:Operand)(t:TypeId)(ho:o.op=.call { callee:=.builtin .append,args:=#[s,x],argTypes:=#[t,t] }){e:TypeId}(E:ElemN P t e sz z a9)(base:Nat)(v:Value)(n:Nat)(xs:List Value)(hs:a.eval s=v)(a6:w.ownsRow base e sz v n xs)(us:List Value)(hx:a.eval x=.slice (some ⟨w.heap.size,0,none⟩) 1 1)(a4:us.length=sz)(h1:∀u∈us,u.oneCell'=true)(a2:n+1<=maxLen)(a8:(n+1)*a9<=140737488355328)(a5:base<=w.heap.size)(h:∀sa sc w',w'.ownsRow base e sz (.slice sa (n+1) sc) (n+1) (xs++us)->w.grownBy w' v.ownBlock->nW w w' v (.slice sa (n+1) sc)->wpList P ops Q a7 (a.put o.dst (.slice sa (n+1) sc)) w'):
  wpList P ops Q (o::a7) a (w.alloc (.cells us.toArray e)) :=
 wpList_plain a3 fun _ hK=>qIF s x t ho E base v n xs hs (a6.alloc _) us w.heap.size hx (0,0) a4 (heap_alloc_new w _) h1 a2 a8 (by simp;omega) fun sa sc w' h2 h3 h4=>hK _ _ (h sa sc w' h2 (zI (Ga w _ _) h3) (by
  rcases h4 with h4|⟨h4,h5⟩
  ·exact .inl h4
  ·exact .inr ⟨zI (Ga w _ none) h4,fun k hk=>by have:=h5 k hk;rw[zW]at this;omega⟩))
open Go.Maps
structure KeyK {α:Type}(mt kt:TypeId)(V:α->Prop)(kv:α->Value):Prop where
 key:Keyed Tryz.prog kt
 und:Tryz.prog.underlying mt=some (.map kt 3)
 of:∀a,V a->(keyOf Tryz.prog kt (kv a)).isSome=true
 inj:∀a b,V a->V b->kv a=kv b->a=b
section
variable {α:Type} {mt kt:TypeId} {V:α->Prop} {kv:α->Value}
def MapK (kt:TypeId)(V:α->Prop)(kv:α->Value)(w:World)(b n c:Nat)(f:α->Option Nat):Prop :=
 ∃D:DataW Unit,w.ownsMap Tryz.prog kt (plainElem Tryz.prog 3) b n D/\size D=c /\
  ∀a l,V a->keyOf Tryz.prog kt (kv a)=some l->has D l=(f a).isSome/\D.atKey l (.lit (.int .i64 0))=.lit (.int .i64 (((f a).getD 0:Nat):Int))
theorem MapK.made (kt:TypeId)(V:α->Prop)(kv:α->Value)(w:World):MapK kt V kv (w.alloc (.map #[] 0)) w.heap.size 0 0 (fun _=>none):=by
 refine⟨.map [],World.ownsMap_made _ _ _ _,rfl,fun x _ _ _=>⟨by simp[has_eq],?_⟩⟩;rw[WideAt.atKey_none _ yq];simp
variable {w w':World} {b n c:Nat} {f:α->Option Nat}
theorem MapK.kept {row:Option Nat}(h:MapK kt V kv w b n c f)(hg:w.grownBy w' row)(a9:row≠some b):MapK kt V kv w' b n c f:=by
 obtain⟨D,h1,h2,h3⟩:=h;exact⟨D,h1.kept hg (fun e=>a9 e.symm),h2,h3⟩
theorem MapK.mono (h:MapK kt V kv w b n c f)(hn:n<=n'):MapK kt V kv w b n' c f:=by
 obtain⟨D,h1,h2,h3⟩:=h;exact⟨D,h1.mono hn,h2,h3⟩
theorem MapK.lt (h:MapK kt V kv w b n c f):b<w.heap.size:=by
 obtain⟨D,h1,_⟩:=h;exact h1.lt
theorem MapK.obj (h:MapK kt V kv w b n c f):∃es clock,w.heap[b]?=some (.map es clock):=by
 obtain⟨D,⟨es,clock,hb,_⟩,_⟩:=h;exact⟨es,clock,hb⟩
theorem MapK.lookup (h:MapK kt V kv w b n c f)(K:KeyK mt kt V kv){x:α}(hx:V x):(Instr.lookup mt (.map (some b)) (kv x) true).run Tryz.prog w=.ok (.tuple #[.int .i64 (((f x).getD 0:Nat):Int),.bool (f x).isSome]) w:=by
 obtain⟨D,h1,h2,h3⟩:=h;obtain⟨kl,h4⟩:=Option.isSome_iff_exists.1 (K.of x hx);obtain⟨v,ps,h0,hv⟩:=h1.look_ok K.key K.und (gU w) (plainElem_int tT jd) h4;obtain⟨c,rfl,hc,_⟩:=plainElem_int_inv tT hv;obtain⟨e1,e2⟩:=h3 x kl hx h4;have e3:=congrArg Prod.fst hc;simp only[e2]at e3;rw[h0,e1]
 have e4:(((f x).getD 0:Nat):Int)=c:=by
  simp only[Lit.int.injEq,DataW.lit.injEq,true_and]at e3;exact e3
 rw[e4]
theorem MapK.len (h:MapK kt V kv w b n c f)(K:KeyK mt kt V kv):(Builtin.len_ #[mt] 3 #[.map (some b)]).run Tryz.prog w=.ok (.int .i64 (c:Nat)) w:=by
 obtain⟨D,h1,h2,h3⟩:=h;have h0:=h1.len K.und 3;rw[h2]at h0;exact h0
theorem qIQ [DecidableEq α]{a9:List Oper}{o:Oper}(K:KeyK mt kt V kv)(hg:o.guard=none)(m x v:Operand)(a8:o.op=Op.mapUpdate mt m x v)(b n c:Nat)(f:α->Option Nat)(z:α)(y:Nat)(hm:a.eval m=.map (some b))(hx:a.eval x=kv z)(hv:a.eval v=.int .i64 (y:Int))(h:MapK kt V kv w b n c f)(hn:n<maxLen)(hz:V z)(hy:y<4611686018427387904)(hK:∀w',MapK kt V kv w' b (n+1) (if (f z).isSome then c else c+1) (fun q=>if q=z then some y else f q)->w.grownBy w' (some b)->wpList Tryz.prog ops Q a9 (a.put o.dst undef) w'):wpList Tryz.prog ops Q (o::a9) a w:=by
 obtain⟨D,h1,h2,h3⟩:=h;obtain⟨kl,h0⟩:=Option.isSome_iff_exists.1 (K.of z hz);obtain⟨w',h4,h5,h7⟩:=h1.update K.key K.und hn h0 (plainElem_int tT (cK (x:=(y:Int)) ⟨yo,yo⟩));refine wpList_plain hg fun K' hK'=>?_;unfold Oper.wp;simp[execOp,a8,hm,hx,hv,h4,Result.andThen];refine hK' _ _ (hK w' ⟨_,h5,?_,fun q ql hq hql=>?_⟩ h7)
 ·rw[size_put (h1.tidy K.key),(h3 z kl hz h0).1,h2]
 by_cases e:q=z
 ·subst e
  rw[h0]at hql;cases hql;refine⟨by rw[has_put_same h1.isMap (K.key.key h0)];simp,?_⟩;simp only[if_pos];rw[atKey_put_same h1.isMap (K.key.key h0)];rfl
 have h6:ql≠kl:=fun h=>e (K.inj q z hq hz (K.key.inj (hql.trans (congrArg some h)) h0));obtain⟨e1,e2⟩:=h3 q ql hq hql;simp only[if_neg e];exact⟨by rw[has_put_other h6,e1],by rw[atKey_put_other h6,e2]⟩
end
section
variable {B:Nat} {X:Nat->Prop} {o ty:Nat} {w0 wk w w':World} {rs:List RowS} {c:Array Value}
theorem BoxS.rebase (h:BoxS B X o ty w0 wk rs c w):BoxS B X o ty w0 w rs c w :=
 ⟨h.mem,h.typ,h.box,h.off,h.size,h.old,Nat.le_trans h.base h.wk,h.grown,wG.refl _ _,Nat.le_refl _⟩
theorem BoxS.fresh (h:BoxS B X o ty w0 wk rs c w)(hg:w.grownBy w' none){Y:Nat->Prop}(hY:∀k,Y k->w.heap.size<=k/\k<w'.heap.size):BoxS B (fun k=>X k\/Y k) o ty w0 w' rs c w' :=
 ⟨h.mem.fresh hg hY,h.typ,zD h.box hg,fun e=>by
  rcases e with e|e
  ·exact h.off e
  ·have:=(hY o e).1
   have:=zS h.box
   omega,h.size,h.old,Nat.le_trans (Nat.le_trans h.base h.wk) hg.size,zE h.grown hg,wG.refl _ _,Nat.le_refl _⟩
theorem BoxS.far (h:BoxS B X o ty w0 wk rs c w)(hg:w.grownBy w' (some mb))(hr:∀r∈rs,r.v.ownBlock≠some mb)(hx:¬X mb)(ho:o≠mb)(hold:w0.heap.size<=mb):BoxS B X o ty w0 wk rs c w' :=
 ⟨h.mem.far hg hr,h.typ,zD h.box hg (fun e=>ho (Oj e).symm),h.off,h.size,h.old,h.base,yM h.grown hg (by show _<=mb;omega),h.kept.trans (wG.of_grown h.mem.lt hg (fun j e hxx=>by have e:mb=j:=Oj e;subst e;exact hx hxx)),Nat.le_trans h.wk hg.size⟩
theorem BoxS.appAt (h:BoxS B X o ty w0 wk rs c w)(hr:rs[j]?=some r){v':Value}{us:List Value}(ho:w'.ownsRow r.base r.e r.sz v' n' (r.xs++us))(hg:w.grownBy w' r.v.ownBlock)(hm:nW w w' r.v v'):BoxS B X o ty w0 wk (rs.set j ⟨r.base,r.e,v',n',r.xs++us,r.sz⟩) c w':=by
 have h0:=List.mem_of_getElem? hr;have h1:=h.mem.own _ h0;have ht:=h.typ _ h0;have h2:∀k,r.v.ownBlock=some k->B<=k/\k≠o/\¬X k:=fun k hk=>⟨by have:=(h1.lt k hk).1;rw[ht.1]at this;exact this,fun e=>by subst e;exact zR h1 h.box ht.2 hk,h.mem.offX r h0 k hk⟩;refine⟨h.mem.appAt hr ho hg hm,fun s hs=>?_,zD h.box hg (fun e=>(h2 o e).2.1 rfl),h.off,h.size,h.old,h.base,zE h.grown hg (fun k e=>Nat.le_trans h.size (h2 k e).1),h.kept.trans (wG.of_grown h.mem.lt hg (fun k e=>(h2 k e).2.2)),Nat.le_trans h.wk hg.size⟩;rcases List.mem_or_eq_of_mem_set hs with hs|rfl
 ·exact h.typ s hs
 exact ht
theorem BoxS.stand (h:BoxS B X o ty w0 wk rs c w)(hb:mb<w.heap.size)(hr:∀r∈rs,r.v.ownBlock≠some mb)(ho:o≠mb):BoxS B (fun q=>X q\/q=mb) o ty w0 w rs c w :=
  ⟨⟨h.mem.own,h.mem.apart,fun r hr' k hk hx=>by
    rcases hx with hx|hx
    · exact h.mem.offX r hr' k hk hx
    · subst hx;exact hr r hr' hk,fun k hk=>by
    rcases hk with hk|hk
    · exact h.mem.lt k hk
    · subst hk;exact hb⟩,h.typ,h.box,fun e=>by
    rcases e with e|e
    · exact h.off e
    · exact ho e,h.size,h.old,Nat.le_trans h.base h.wk,h.grown,wG.refl _ _,Nat.le_refl _⟩
theorem BoxS.less {X':Nat->Prop}(h:BoxS B X' o ty w0 wk rs c w)(hX:∀q,X q->X' q):BoxS B X o ty w0 wk rs c w :=
 ⟨⟨h.mem.own,h.mem.apart,fun r hr k hk hx=>h.mem.offX r hr k hk (hX k hx),fun k hk=>h.mem.lt k (hX k hk)⟩,h.typ,h.box,fun e=>h.off (hX o e),h.size,h.old,h.base,h.grown,fun k hk=>h.kept k (hX k hk),h.wk⟩
end
theorem MapK.of_block {α:Type}{kt:TypeId}{V:α->Prop}{kv:α->Value}{w w':World}{b n c:Nat}{f:α->Option Nat}(h:MapK kt V kv w b n c f)(hb:w'.heap[b]?=w.heap[b]?):MapK kt V kv w' b n c f:=by
 obtain⟨D,⟨es,clock,h1,h2⟩,h3⟩:=h;exact⟨D,⟨es,clock,hb.trans h1,h2⟩,h3⟩
theorem tF {w:World}{base n b:Nat}{es:Array (Value×Value)}{clock:Nat}(h:w.ownsRow base e sz v n xs)(hb:∃es clock,w.heap[b]?=some (.map es clock)):v.ownBlock≠some b:=by
 obtain⟨es,clock,hb⟩:=hb;rcases h.2 with ⟨h1,_⟩|⟨g,cap,cur,h1,_,hg,_⟩
 ·rw[h1];simp[Value.ownBlock]
 rw[h1];intro e;have e:g=b:=by simpa [Value.ownBlock] using e
 subst e;rw[hb]at hg;simp at hg
theorem RowX.of_new {X:Nat->Prop}{w:World}{n c:Nat}{f:List Nat}(h:Arr w g 3 (nats f))(hn:f.length=n)(hc:n<=c)(hm:c<=maxLen)(hX:X g):RowX X 3 w (.slice (some ⟨g,0,none⟩) n c) (nats f):=by
 subst hn;have:=h.rowT' (cap:=c) (by rw[zV];exact hc) hm;rw[zV]at this;exact⟨this,fun k hk=>by simp[Value.ownBlock]at hk;subst hk;exact hX⟩
def numE (els:List (List Nat))(f:List Nat):Option Nat:=if f∈els then some (els.idxOf f) else none
theorem qJY {a9:List (List Nat)}{f:List Nat}(h:f ∉ a9):(fun q=>if q=f then some a9.length else numE a9 q)=numE (a9++[f]):=by
 funext q;unfold numE;by_cases e:q=f
 ·subst e
  rw[if_pos rfl,if_pos yq,List.idxOf_append,if_neg h];simp
 rw[if_neg e];by_cases hq:q∈a9
 ·rw[if_pos hq,if_pos (by simp[hq]),List.idxOf_append,if_pos hq]
 rw[if_neg hq,if_neg (by simp[hq,e])]
theorem eD {w:World}{a8:List Oper}{o:Oper}(a7:o.guard=none)(l c:Operand)(t:TypeId)(ho:o.op=.makeSlice t l c){e:TypeId}(E:ElemOk P t e z a9)(hz:z.cells=#[z])(kl kc:IntKind)(L C:Int)(n:Nat)(hl:a.eval l=.int kl L)(hc:a.eval c=.int kc C)(hL:L=(n:Int))(hC:C=(n:Int))(hb:a9*n<=281474976710656)(a6:n<=maxLen)(h:∀w',w'.ownsRow w.heap.size e 1 (.slice (some ⟨w.heap.size,0,none⟩) n n) n (List.replicate n z)->w.grownBy w' none->w.heap.size<w'.heap.size->wpList P ops Q a8 (a.put o.dst (.slice (some ⟨w.heap.size,0,none⟩) n n)) w'):wpList P ops Q (o::a8) a w:=by
 obtain⟨i,hi,h1,h2,h3⟩:=info_parts E.hi;refine wpList_make_full w a7 l c t ho w.heap.size e i z 1 E.ht hi h1 h2 kl kc L C n hl hc hL hC (by rw[h3];exact hb) a6 (Nat.le_refl _) ?_;intro w' h0 hg;have ha:=Arr.of_owns h0;rw[mK hz]at h0;exact h w' h0 hg ha.lt
end Go.Proofs.YtiknckajkdlppaaGreat
namespace Go.Proofs.YtiknckajkdlppaaGreat
open Go.RowKit
variable{g i:Nat}{f:List Nat}
def zb (l:List Nat):List Int:=l.map fun(x:Nat)=>(x:Int)
def txtT (f:List Nat):ByteArray:=strOfNums (zb f)
theorem qIC (l:List Nat):(zb l).length=l.length:=by simp[zb]
def u8s (l:List Nat):List Value:=(zb l).map (Value.int .u8)
theorem dL (l:List Nat):(u8s l).length=l.length:=by simp[u8s,zb]
theorem qQL (l:List Nat)(i x:Nat):(u8s l).set i (.int .u8 (x:Int))=u8s (l.set i x):=by simp[u8s,zb,List.map_set]
theorem bK (n:Nat):u8s (List.replicate n 0)=List.replicate n (.int .u8 0):=by simp[u8s,zb]
theorem qMK {w:World}{l:List Nat}(h:Arr w g 5 (u8s l))(i:Nat)(hi:i<l.length):w.cell? ⟨g,i,none⟩=some (.int .u8 ((l.getD i 0:Nat):Int)):=by
 rw[h.cell i (by rw[dL];exact hi),zQ hi];simp[u8s,zb]
theorem qSI {g:List Nat}(hf:∀x∈f,x<256)(hg:∀x∈g,x<256)(h:txtT f=txtT g):f=g:=by
 have h1:(zb f).map (fun n=>UInt8.ofNat n.toNat)=(zb g).map (fun n=>UInt8.ofNat n.toNat):=by
  have:=congrArg (fun s:ByteArray=>s.data.toList) h;simpa [txtT,strOfNums] using this
 simp only[zb,List.map_map]at h1;refine List.ext_getElem (by have:=congrArg List.length h1;simpa using this) fun i h2 h3=>?_;have h4:=congrArg (fun l=>l[i]?) h1;simp only[List.getElem?_map,List.getElem?_eq_getElem h2,List.getElem?_eq_getElem h3,Option.map_some,Option.some.injEq,Function.comp,Int.toNat_natCast]at h4;have h5:=congrArg UInt8.toNat h4;have h6:=hf _ (List.getElem_mem h2);have h7:=hg _ (List.getElem_mem h3);simp only[UInt8.toNat_ofNat']at h5;omega
theorem qRP:ElemOk Tryz.prog 67 5 (.int .u8 0) 1:=⟨Tryz.underlying67,yk,rfl⟩
open Go.Maps
theorem kJ (B:Nat)(w:World)(v:Value)(f:List Nat)(n:Nat)(h:Row B w v (nats f))(hf:IsT n f)(h1:1<=n)(a9:n<=32):Calls Tryz.prog 104 #[v] w fun e w'=>e=.returned (.bool true)/\w=w':=by
 obtain⟨b,off,cap,rfl,_,h4,h3,h2⟩:=h.some_ (by rw[zV,hf.1];omega);have h7:cap<=9223372036854775807:=jl h3
 rw[zV,hf.1]at h4⊢;have h5:=Kh h2;have HF:=Kh hf;clear h hf h2 h3;go_enter Tryz.func104,Tryz.ntmps104;go_wp2
 go_loopg [4,15] n (fun gh a4 i wr=>∃k:Nat,gh+k=n/\i=.int .i64 k/\w=wr)
 case atStart=>exact⟨0,rfl,rfl,rfl⟩
 obtain⟨k,hg,rfl,rfl⟩:=hrel;have HG:=Kh hg;clear hg;by_cases hk:k<n
 ·have ck:=h5.out.nat k (by rw[HF.out.1];exact hk)
  have hx:=HF.out.get hk;obtain⟨x,h0⟩:=Nm (f.getD k 0);rw[<-h0]at ck hx;have h6:(x:Int)<n:=yo;clear h0;go_wp2;go_roundg (n-(k+1))
  case measure=>have:=HG.out;omega
  exact⟨k+1,yo,by go_num,rfl⟩
 go_wp2;go_ret;exact⟨rfl,rfl⟩
theorem qGQ (w:World)(n:Nat)(h1:1<=n)(a9:n<=32):Calls Tryz.prog 106 #[.int .i64 (n:Int)] w (qEM w (List.range n)):=by
 go_enter Tryz.func106,Tryz.ntmps106;go_wp2_with (first|(at_make;refine pL rfl _ _ _ rfl yJ rfl .i64 .i64 _ _ n rfl rfl rfl rfl ?b1 ?b2 ?_;(case b1=>omega);(case b2=>(unfold maxLen;omega));intro w2 h0 h5 H0)|fail);have h9:=Kh h0;have h8:=Kh h5;clear h0 h5
 go_loopg [4,15] n (fun gh a4 i wr=>∃k:Nat,gh+k=n/\i=.int .i64 k/\Arr wr w.heap.size 3 (nats (vO (List.range n) k))/\w.grownBy wr none)
 case atStart=>exact⟨0,rfl,rfl,by rw[tH,List.length_range,yW];exact h9.out,h8.out⟩
 clear h9 h8;obtain⟨k,hg,rfl,h0,h4⟩:=hrel;obtain⟨HG,HA,h6⟩:=Kc hg h0 h4;clear hg h4;by_cases hk:k<n
 ·have H1:(k:Int)<n:=yo
  have cgk:=h0.nat k (by rw[yZ (by simp;omega)];simpa using hk);have fgk:=h0.frozen k;have h2:=tW (l:=List.range n) (k:=k) (by simpa using hk);rw[show (List.range n).getD k 0=k from by rw[zQ (by simpa using hk)];simp]at h2;have HS:=Kh h2;clear h2 h0;go_wp2;go_roundg (n-(k+1))
  case measure=>have:=HG.out;omega
  refine⟨k+1,yo,by go_num,?_,zE h6.out (zH wr ⟨w.heap.size,k,none⟩ _) (fun q e=>by have h7:w.heap.size=q:=Oj e;omega)⟩;rw[<-HS.out];exact HA.out.nat_set k (by rw[yZ (by simp;omega)];simpa using hk) k
 have h3:k=n:=by have:=HG.out;omega
 have HE:Hid (vO (List.range n) k=List.range n):=Kh (by have:=tX (List.range n);rw[List.length_range]at this;rw[h3];exact this);clear h3 h0;go_wp2;go_ret;refine⟨w.heap.size,by rw[List.length_range];rfl,Nat.le_refl _,?_,h6.out⟩;rw[<-HE.out];exact HA.out
theorem qBC (B C:Nat)(w:World)(va vb:Value)(f g:List Nat)(n:Nat)(hB:B<=w.heap.size)(hC:C<=w.heap.size)(ha:Row B w va (nats f))(hb:Row C w vb (nats g))(hf:IsT n f)(hg:IsT n g)(h1:1<=n)(a9:n<=32):Calls Tryz.prog 108 #[va,vb] w (qEM w (vH f g)):=by
 have h6:=Kh (kJ B w va f n ha hf h1 a9);have h5:=Kh (kJ C w vb g n hb hg h1 a9);obtain⟨va',vc,rfl⟩:=ha.shape;obtain⟨vb',vd,rfl⟩:=hb.shape;rw[zV,hf.1]at ha h6⊢;rw[zV,hg.1]at hb h5⊢;obtain⟨HA,HB,HF,H4⟩:=Kd ha hb hf hg;have e1:((n:Int) != (n:Int))=false:=yq
 clear ha hb hf hg;go_enter Tryz.func108,Tryz.ntmps108;go_wp2_with fail;refine h6.out.mono ?_;rintro e w1 ⟨rfl,rfl⟩;go_wp2_with fail;refine h5.out.mono ?_;rintro e w1 ⟨rfl,rfl⟩;clear h6 h5;go_wp2_with (first|(at_make;refine pL rfl _ _ _ rfl yJ rfl .i64 .i64 _ _ n rfl rfl rfl rfl ?b1 ?b2 ?_;(case b1=>omega);(case b2=>(unfold maxLen;omega));intro w2 h0 H3 H9)|fail);have H8:=Kh h0;have H6:=Kh H3;clear h0 H3;have h4:(vH f g).length=n:=by rw[rI,HF.out.1]
 go_loopg [6,7,28] n (fun gh a6 a7 i wr=>∃k:Nat,gh+k=n/\i=.int .i64 k/\Arr wr w.heap.size 3 (nats (vO (vH f g) k))/\w.grownBy wr none)
 case atStart=>exact⟨0,rfl,rfl,by rw[tH,h4,yW];exact H8.out,H6.out⟩
 clear H8 H6;obtain⟨k,hg,rfl,h0,h3⟩:=hrel;obtain⟨HG,H7,H5⟩:=Kc hg h0 h3;clear hg;by_cases hk:k<n
 ·have a1:(k:Int)<n:=yo
  obtain⟨ib,io,ic,e,_,a5,a4,H1⟩:=(HA.out.kept h3 yq).some_ (by rw[zV,HF.out.1];omega);simp only[Value.slice.injEq]at e;obtain⟨rfl,-,rfl⟩:=e;obtain⟨jb,jo,jc,e,_,a3,a2,H0⟩:=(HB.out.kept h3 yq).some_ (by rw[zV,H4.out.1];omega);simp only[Value.slice.injEq]at e;obtain⟨rfl,-,rfl⟩:=e;have ca:=H1.nat k (by rw[HF.out.1];exact hk);have hx:=HF.out.get hk;have cb:=H0.nat (f.getD k 0) (by rw[H4.out.1];exact hx);have cgk:=h0.nat k (by rw[yZ yo];omega);have fgk:=h0.frozen k;have h2:=tW (l:=vH f g) (k:=k) yo;rw[qCA (by rw[HF.out.1];exact hk)]at h2;obtain⟨x,h9⟩:=Nm (f.getD k 0);rw[<-h9]at ca cb hx h2;obtain⟨y,h8⟩:=Nm (g.getD x 0);rw[<-h8]at cb h2;have a0:(x:Int)<n:=yo;have HS:=Kh h2;clear h2 h0 h3 H1 H0 h9 h8;go_wp2;go_roundg (n-(k+1))
  case measure=>have:=HG.out;omega
  refine⟨k+1,yo,by go_num,?_,zE H5.out (zH wr ⟨w.heap.size,k,none⟩ _) (fun q e=>by have h7:w.heap.size=q:=Oj e;omega)⟩;rw[<-HS.out];exact H7.out.nat_set k (by rw[yZ yo];omega) y
 have H2:k=n:=by have:=HG.out;omega
 have HE:Hid (vO (vH f g) k=vH f g):=Kh (by rw[H2,<-h4];exact tX _);clear H2 h0 h3;go_wp2;go_ret;refine⟨w.heap.size,by rw[h4];rfl,Nat.le_refl _,?_,H5.out⟩;rw[<-HE.out];exact H7.out
theorem fV (B:Nat)(w:World)(v:Value)(f:List Nat)(n:Nat)(hB:B<=w.heap.size)(h:Row B w v (nats f))(hf:IsT n f)(h1:1<=n)(a9:n<=32):Calls Tryz.prog 107 #[v] w fun e w'=>e=.returned (.string (txtT f))/\w.grownBy w' none:=by
 obtain⟨b,off,cap,rfl,hb,H8,H2,h8⟩:=h.some_ (by rw[zV,hf.1];omega);have a0:cap<=9223372036854775807:=jl H2
 rw[zV,hf.1]at H8⊢;have H9:=Kh h8;have HF:=Kh hf;have H1:f.length=n:=hf.1;have h2:=Kh H1;clear h hf h8 H2 H1;go_enter Tryz.func107,Tryz.ntmps107;go_wp2_with (first|(at_make;refine pL rfl _ _ _ rfl qRP rfl .i64 .i64 _ _ n rfl rfl rfl rfl ?b1 ?b2 ?_;(case b1=>omega);(case b2=>(unfold maxLen;omega));intro w2 h0 H0 H6)|fail);have H5:=Kh h0;have H4:=Kh H0;clear h0 H0
 go_loopg [4,5,11] n (fun gh a4 a5 i wr=>∃k:Nat,gh+k=n/\i=.int .i64 k/\Arr wr w.heap.size 5 (u8s (vO f k))/\w.grownBy wr none)
 case atStart=>exact⟨0,rfl,rfl,by rw[tH,h2.out,bK];exact H5.out,H4.out⟩
 clear H5 H4;obtain⟨k,hg,rfl,h0,h4⟩:=hrel;obtain⟨HG,h5,H3⟩:=Kc hg h0 h4;clear hg;by_cases hk:k<n
 ·have a1:(k:Int)<n:=yo
  have ca:=(H9.out.kept h4 yq).nat k (by rw[h2.out];exact hk);have hx:=HF.out.get hk;have cgk:=qMK h0 k (by rw[yZ (by have:=h2.out;omega)];have:=h2.out;omega);have fgk:=h0.frozen k;have h3:=tW (l:=f) (k:=k) (by have:=h2.out;omega);obtain⟨x,h6⟩:=Nm (f.getD k 0);rw[<-h6]at ca hx h3;have a2:IntKind.u8.wrap (x:Int)=x:=IntWalk.u8_in _ yo;have HS:=Kh h3;clear h3 h0 h4 h6;go_wp2;go_roundg (n-(k+1))
  case measure=>have:=HG.out;omega
  refine⟨k+1,yo,by go_num,?_,zE H3.out (zH wr ⟨w.heap.size,k,none⟩ _) (fun q e=>by have h7:w.heap.size=q:=Oj e;omega)⟩;rw[<-HS.out,<-qQL];exact h5.out.set k (by rw[dL,yZ (by have:=h2.out;omega)];have:=h2.out;omega) _
 have h9:k=n:=by have:=HG.out;omega
 have HE:Hid (vO f k=f):=Kh (by rw[h9,<-h2.out];exact tX _);rw[HE.out]at h5;have H7:=bU 67 5 Tryz.underlying67 Tryz.underlying5 9 Tryz.underlying9 n n (by rw[qIC];exact h2.out) h5.out;obtain⟨X,hX⟩:=Nm (txtT f);rw[show strOfNums (zb f)=X from hX.symm]at H7;have HX:=Kh hX;clear h9 h0 h4 hX;go_wp2;go_ret;exact⟨by rw[HX.out];rfl,H3.out⟩
theorem qQM {n:Nat}(h:IsT n f):(txtT f).size=n:=by
 have:(txtT f).size=(txtT f).data.toList.length:=by rw[Array.length_toList];rfl
 rw[this];unfold txtT;rw[strOfNums_data];simp[zb,h.1]
theorem bO {n:Nat}(a9:n<=32):KeyK 112 9 (IsT n) (fun f=>.string (txtT f)) where
 key:=iP
 und:=mI
 of:=fun a ha=>by rw[Go.WideMaps.keyOf_string_mk mA (by rw[qQM ha];unfold maxLen;omega)];rfl
 inj:=fun a b ha hb e=>qSI (fun x hx=>by have:=ha.2 x hx;omega) (fun x hx=>by have:=hb.2 x hx;omega) (by simpa using e)
inductive RunS (w0 : World)(B o n k m d s ub : Nat)(sG : Option Addr)(cG : Nat)(hsG : List Value)(gs els : List (List Nat))(pre las : List Int)(right : List (List Nat))(beh : List Int)(sgl : List Nat)(tl : List RowS)(w : World): Prop
 | mk (X : Nat → Prop) (mb u : Nat) (us hsE hsR : List Value) (ws : List ByteArray) (sE sP sL sR sU sW sB sS : Option Addr) (cE cP cL cR cU cW cB cS : Nat)
  (hB : BoxS B X o 124 w0 w (⟨B, 22, .slice sE m cE, m, hsE, 1⟩ :: ⟨B, 3, .slice sP m cP, m, ints pre, 1⟩ :: ⟨B, 3, .slice sL m cL, m, ints las, 1⟩ :: ⟨B, 22, .slice sR d cR, d, hsR, 1⟩ :: ⟨B, 111, .slice sU u cU, u, us, 2⟩ :: ⟨B, 9, .slice sW m cW, m, xG ws, 1⟩ :: ⟨B, 3, .slice sB m cB, m, ints beh, 1⟩ :: ⟨B, 3, .slice sS s cS, s, nats sgl, 1⟩ :: ⟨B, 22, .slice sG k cG, k, hsG, 1⟩ :: tl)
   #[.int .i64 (n : Int), .bool true, .slice sG k cG, .slice sE m cE, .slice sP m cP, .slice sL m cL, .slice sR d cR, .slice sU u cU, .int .i64 (d : Int), .map (some mb), .slice sW m cW, .slice sB m cB, .slice sS s cS] w)
  (hE : xX X 3 nats w hsE els) (hR : xX X 3 nats w hsR right) (hG : xX X 3 nats w hsG gs)
  (hM : ∃ c, MapK 9 (IsT n) (fun f => .string (txtT f)) w mb m c (numE els)) (hmx : ¬ X mb) (hmb : w0.heap.size ≤ mb)
  (hl : els.length = m ∧ pre.length = m ∧ las.length = m ∧ ws.length = m ∧ beh.length = m ∧ right.length = d ∧ sgl.length = s ∧ gs.length = k)
  (hit : ∀ f ∈ els, IsT n f) (hw : ∀ i, (ws.getD i ⟨#[]⟩).size ≤ i) (hu : u ≤ ub)
theorem dO {X:Nat->Prop}{w:World}{hs:List Value}{ts:List (List Nat)}(h:xX X 3 nats w hs ts){j:Nat}(hi:i<ts.length)(hj:j<(ts.getD i []).length):∃b off cap,hs[i]?=some (.slice (some ⟨b,off,none⟩) (ts.getD i []).length cap)/\(ts.getD i []).length<=cap/\cap<=maxLen/\w.cell? ⟨b,off+j,none⟩=some (.int .i64 (((ts.getD i []).getD j 0:Nat):Int)):=by
 have h0:i<hs.length:=by rw[h.1];exact hi
 have h1:=(h.2 i h0 hi).row;rw[show ts[i]=ts.getD i [] from (zQ hi).symm]at h1;obtain⟨b,off,cap,e,_,h2,h4,h3⟩:=h1.some_ (by rw[zV];omega);rw[zV]at e h2;exact⟨b,off,cap,by rw[List.getElem?_eq_getElem h0,e],h2,h4,h3.nat j hj⟩
theorem pI {w:World}{e:TypeId}{xs:List Value}{v:Value}(h:Arr w g e xs)(hv:xs[i]?=some v):w.cell? ⟨g,i,none⟩=some v:=by
 obtain⟨hi,e⟩:=List.getElem?_eq_some_iff.1 hv;rw[h.cell i hi,e]
theorem qDS {w:World}{e:TypeId}{l:List Int}(h:Arr w g e (ints l))(hi:i<l.length):w.cell? ⟨g,i,none⟩=some (.int .i64 (l.getD i 0)) :=
 pI h (by simp[ints,List.getElem?_eq_getElem hi,zQ hi])
def mU (sgl:List Nat)(right:List (List Nat))(i:Int)(x:Nat):Nat:=if i = -1 then sgl.getD x 0 else (right.getD i.toNat []).getD x 0
def qEO (s d:Nat)(right:List (List Nat))(i:Int)(x:Nat):Prop:=(i = -1/\x<s)\/(0<=i/\i<d/\x<(right.getD i.toNat []).length)
section
variable {w0 w:World} {B o n k m d s ub:Nat} {sG:Option Addr} {cG:Nat} {hsG:List Value} {gs els right:List (List Nat)} {pre las beh:List Int} {sgl:List Nat} {tl:List RowS}
theorem qNE (h:RunS w0 B o n k m d s ub sG cG hsG gs els pre las right beh sgl tl w)(hm:m<=4000):Calls Tryz.prog 96 #[.pointer (some ⟨o,0,none⟩)] w fun e w'=>e=.returned (.bool (decide (d=m)))/\∃q,w'=w.drewN q:=by
 obtain⟨X0,mb,u,us,h2,h1,ws,sE,sP,sL,sR,sU,sW,sB,sS,cE,cP,cL,cR,cU,cW,cB,cS,hB,hE,hR,hG,⟨c,hM⟩,h3,h4,hl,h0,hw,hu⟩:=h;have q3:=zJ hB.box 3;simp only[sPd,sPe,sPf]at q3;have q8:=zJ hB.box 8;simp only[sPd,sPe,sPf]at q8;obtain⟨b,hb⟩:=Nm (decide (d=m))
 have h5:((d:Int) == (m:Int))=b:=by
  rw[hb];by_cases e:d=m
  ·simp[e]
  rw[decide_eq_false e,beq_eq_false_iff_ne];omega
 rw[<-hb];clear hB hE hR hG hM hl h0 hw hb;go_enter Tryz.func96,Tryz.ntmps96;go_wp2_with fail
 go_quiet (fail)
 go_wp2;go_ret;exact⟨rfl,_,rfl⟩
theorem dY (h:RunS w0 B o n k m d s ub sG cG hsG gs els pre las right beh sgl tl w)(i:Int)(x:Nat)(hx:qEO s d right i x):Calls Tryz.prog 109 #[.pointer (some ⟨o,0,none⟩),.int .i64 i,.int .i64 (x:Int)] w fun e w'=>e=.returned (.int .i64 ((mU sgl right i x:Nat):Int))/\w'=w:=by
 obtain⟨X0,mb,u,us,H8,H2,ws,sE,sP,sL,sR,sU,sW,sB,sS,cE,cP,cL,cR,cU,cW,cB,cS,hB,hE,hR,hG,⟨c,hM⟩,H9,a0,hl,h9,hw,hu⟩:=h;have q6:=zJ hB.box 6;simp only[sPd,sPe,sPf]at q6;have q12:=zJ hB.box 12;simp only[sPd,sPe,sPf]at q12;have h6:=hB.own (r:=⟨B,3,.slice sS s cS,s,nats sgl,1⟩) yq;have h7:=hB.own (r:=⟨B,22,.slice sR d cR,d,H2,1⟩) yq;simp only at h6 h7;rcases hx with ⟨rfl,hx⟩|⟨h0,h1,h2⟩
 ·obtain⟨kb,rfl,H7,h5,h3⟩:=yV h6 yo
  have H4:sgl.length=s:=hl.2.2.2.2.2.2.1;have cx:=h3.nat x yo;obtain⟨y,hy⟩:=Nm (mU sgl right (-1) x);have h4:sgl.getD x 0=y:=by rw[hy,mU,if_pos rfl]
  rw[h4]at cx;rw[<-hy];have H1:(x:Int)<s:=yo
  have h8:cS<=9223372036854775807:=jl h5
  clear hB hE hR hG hM hl h9 hw hy h4 h6 h7 h3 h5 H4;go_enter Tryz.func109,Tryz.ntmps109;go_wp2;go_ret;exact⟨rfl,rfl⟩
 obtain⟨j,rfl⟩:∃j:Nat,i=(j:Int):=⟨i.toNat,yo⟩;rw[Int.toNat_natCast]at h2;have hj:j<d:=yo
 obtain⟨kb,rfl,H7,h5,h3⟩:=yV h7 yo;have H5:right.length=d:=hl.2.2.2.2.2.1;obtain⟨b,off,cap,hv,H6,H0,cy⟩:=dO hR (i:=j) (j:=x) yo h2;have cx:=pI h3 hv;obtain⟨y,hy⟩:=Nm (mU sgl right (j:Int) x);have h4:(right.getD j []).getD x 0=y:=by rw[hy,mU,if_neg yo,Int.toNat_natCast]
 rw[h4]at cy;rw[<-hy];obtain⟨L,hL⟩:=Nm ((right.getD j []).length);rw[<-hL]at cx h2 H6;have H1:(x:Int)<L:=yo
 have a1:(j:Int)<d:=yo
 have e1:((j:Int) == -1)=false:=by rw[beq_eq_false_iff_ne];omega
 have h8:cR<=9223372036854775807:=jl h5
 have H3:cap<=9223372036854775807:=jl H0
 clear hB hE hR hG hM hl h9 hw hy h4 h6 h7 h3 h5 H0 H5 hL hv;go_enter Tryz.func109,Tryz.ntmps109;go_wp2;go_ret;exact⟨rfl,rfl⟩
theorem aE (h:RunS w0 B o n k m d s ub sG cG hsG gs els pre las right beh sgl tl w)(i:Int)(x:Nat)(hx:qEO s d right i x)(hq:mU sgl right i x<m)(hm:m<=4000):Calls Tryz.prog 110 #[.pointer (some ⟨o,0,none⟩),.int .i64 i,.int .i64 (x:Int)] w fun e w'=>∃b,e=.returned (.bool b)/\w'=w:=by
 have h9:=Kh (dY h i x hx);obtain⟨X0,mb,u,us,H4,H3,ws,sE,sP,sL,sR,sU,sW,sB,sS,cE,cP,cL,cR,cU,cW,cB,cS,hB,hE,hR,hG,⟨c,hM⟩,H7,H8,hl,H2,hw,hu⟩:=h;obtain⟨q,h4⟩:=Nm (mU sgl right i x);rw[<-h4]at hq h9;have q4:=zJ hB.box 4;simp only[sPd,sPe,sPf]at q4;have q5:=zJ hB.box 5;simp only[sPd,sPe,sPf]at q5;have h0:=hB.own (r:=⟨B,3,.slice sP m cP,m,ints pre,1⟩) yq;have h1:=hB.own (r:=⟨B,3,.slice sL m cL,m,ints las,1⟩) yq;simp only at h0 h1;obtain⟨pb,rfl,H6,h5,h7⟩:=yV h0 yo;obtain⟨lb,rfl,H9,h6,h8⟩:=yV h1 yo;have cp:=qDS h7 (i:=q) (by rw[hl.2.1];exact hq);have cl:=qDS h8 (i:=q) (by rw[hl.2.2.1];exact hq);obtain⟨yp,h2⟩:=Nm (pre.getD q 0);obtain⟨yl,h3⟩:=Nm (las.getD q 0);rw[<-h2]at cp;rw[<-h3]at cl;have H5:(q:Int)<m:=yo
 have H1:cP<=9223372036854775807:=jl h5
 have H0:cL<=9223372036854775807:=jl h6
 clear hB hE hR hG hM hl H2 hw h2 h3 h0 h1 h7 h8 h4 h5 h6;go_enter Tryz.func110,Tryz.ntmps110;go_wp2_with fail;refine h9.out.mono ?_;rintro e w1 ⟨rfl,rfl⟩;go_wp2
 all_goals
  go_ret;exact⟨_,rfl,rfl⟩
end
end Go.Proofs.YtiknckajkdlppaaGreat
namespace Go.Proofs.YtiknckajkdlppaaGreat
variable{l:List Nat}{e q rb cap:Nat}{xs:List Value}
def qPO (beh:List Int)(m:Nat):Prop:=beh.length=m/\∀i,i<m->(i=0/\beh.getD i 0 = -1)\/(0<=beh.getD i 0/\beh.getD i 0<i)
structure PEn (gs:List (List Nat))(n k d m:Nat)(els:List (List Nat))(pre las:List Int)(right:List (List Nat))(beh:List Int)(sgl:List Nat):Prop where
 hk:gs.length=k
 proc:wO gs (yO gs n k) d=((els,pre,las),right)
 len:els.length=m
 dle:d<=m
 mle:m<=2000
 it:∀f∈els,IsT n f
 beh:qPO beh m
 rl:right.length=d
 row:∀j,j<d->(right.getD j []).length=k/\∀r∈right.getD j [],r<m
 sgl:sgl.length=k/\∀r∈sgl,r<m
structure PRow (gs:List (List Nat))(n k d m:Nat)(els:List (List Nat))(pre las:List Int)(x mx:Nat)(elx:List (List Nat))(prx lax:List Int)(rox:List Nat)(bex:List Int):Prop where
 row:rW gs d (els,pre,las) x=(elx,prx,lax,rox)
 len:elx.length=mx
 ge:m<=mx
 mle:mx<=2000
 it:∀f∈elx,IsT n f
 beh:qPO bex mx
 rx:rox.length=x/\∀r∈rox,r<mx
 pre:els <+: elx
section
variable {gs els:List (List Nat)} {n k d m x mx:Nat} {pre las:List Int} {right elx:List (List Nat)} {beh prx lax bex:List Int} {sgl rox:List Nat}
theorem PEn.start (h:PEn gs n k d m els pre las right beh sgl):PRow gs n k d m els pre las 0 m els pre las [] beh :=
 ⟨rfl,h.len,Nat.le_refl _,h.mle,h.it,h.beh,⟨rfl,fun r hr=>by simp at hr⟩,List.prefix_refl _⟩
theorem PRow.get (h:PRow gs n k d m els pre las x mx elx prx lax rox bex)(hd:d<els.length):elx.getD d []=els.getD d []:=jV h.pre hd _
theorem PRow.known (h:PRow gs n k d m els pre las x mx elx prx lax rox bex)(hd:d<els.length)(a9:vH (els.getD d []) (gs.getD x [])∈elx):PRow gs n k d m els pre las (x+1) mx elx prx lax (rox++[elx.idxOf (vH (els.getD d []) (gs.getD x []))]) bex:=by
 refine⟨?_,h.len,h.ge,h.mle,h.it,h.beh,⟨by simp[h.rx.1],fun r hr=>?_⟩,h.pre⟩
 ·rw[rW,h.row]
  simp only[eX];rw[h.get hd,if_pos a9]
 rcases List.mem_append.1 hr with hr|hr
 ·exact h.rx.2 r hr
 rw[List.mem_singleton]at hr;subst hr;rw[<-h.len];exact List.idxOf_lt_length_of_mem a9
theorem PRow.new (h:PRow gs n k d m els pre las x mx elx prx lax rox bex)(hd:d<els.length)(a9:vH (els.getD d []) (gs.getD x []) ∉ elx)(hm:mx<2000)(a8:IsT n (vH (els.getD d []) (gs.getD x []))){b:Nat}(hb:b<mx):PRow gs n k d m els pre las (x+1) (mx+1) (elx++[vH (els.getD d []) (gs.getD x [])]) (prx++[(d:Int)]) (lax++[(x:Int)]) (rox++[mx]) (bex++[(b:Int)]):=by
 refine⟨?_,by simp[h.len],by have:=h.ge;omega,yo,fun f hf=>?_,⟨by simp[h.beh.1],fun i hi=>?_⟩,⟨by simp[h.rx.1],fun r hr=>?_⟩,h.pre.trans (List.prefix_append _ _)⟩
 ·rw[rW,h.row]
  simp only[eX];rw[h.get hd,if_neg a9,h.len]
 ·rcases List.mem_append.1 hf with hf|hf
  ·exact h.it f hf
  rw[List.mem_singleton]at hf;subst hf;exact a8
 ·rcases Nat.lt_or_ge i mx with h3|h3
  ·rw[xW (by rw[h.beh.1];exact h3)];exact h.beh.2 i h3
  have:i=mx:=yo
  subst this;rw[wP h.beh.1.symm];exact .inr ⟨yo,yo⟩
 rcases List.mem_append.1 hr with hr|hr
 ·have:=h.rx.2 r hr;omega
 rw[List.mem_singleton]at hr;omega
theorem PRow.after (h:PRow gs n k d m els pre las x mx elx prx lax rox bex)(hp:PEn gs n k d m els pre las right beh sgl)(hd:d<m)(hx:x<k):qEO k d right (bex.getD d 0) x/\mU sgl right (bex.getD d 0) x<m:=by
 rcases h.beh.2 d (by have:=h.ge;omega) with ⟨h1,h2⟩|⟨h1,h2⟩
 ·refine⟨.inl ⟨h2,hx⟩,?_⟩
  rw[mU,if_pos h2];exact hp.sgl.2 _ (wT (by rw[hp.sgl.1];exact hx))
 have hj:(bex.getD d 0).toNat<d:=yo
 obtain⟨h3,h4⟩:=hp.row _ hj;refine⟨.inr ⟨h1,yo,by rw[h3];exact hx⟩,?_⟩;rw[mU,if_neg yo];exact h4 _ (wT (by rw[h3];exact hx))
theorem PRow.done (h:PRow gs n k d m els pre las k mx elx prx lax rox bex)(hp:PEn gs n k d m els pre las right beh sgl)(hd:d<m):PEn gs n k (d+1) mx elx prx lax (right++[rox]) bex sgl:=by
 have h0:=h.ge;refine⟨hp.hk,?_,h.len,yo,h.mle,h.it,h.beh,by simp[hp.rl],fun j hj=>?_,⟨hp.sgl.1,fun r hr=>by have:=hp.sgl.2 r hr;omega⟩⟩
 ·rw[wO,hp.proc,hp.hk]
  simp only[h.row]
 rcases Nat.lt_or_ge j d with h3|h3
 ·rw[xW (by rw[hp.rl];exact h3)]
  obtain⟨h4,h5⟩:=hp.row j h3;exact⟨h4,fun r hr=>by have:=h5 r hr;omega⟩
 have:j=d:=yo
 subst this;rw[wP hp.rl.symm];exact h.rx
theorem PRow.full (h:PRow gs n k d m els pre las x mx elx prx lax rox bex)(hp:PEn gs n k d m els pre las right beh sgl)(hd:d<m)(hx:x<=k)(hm:mx=2000):nM gs (yO gs n k) n:=by
 refine⟨d,x,by rw[hp.proc];show d<els.length;rw[hp.len];exact hd,by rw[hp.hk];exact hx,?_,?_⟩
 ·rw[hp.proc];simp only[h.row];rw[h.len,hm]
 rw[hp.proc];simp only[h.row];exact h.it
def rowN (k:Nat)(l:List Nat):List Nat:=l++List.replicate (k-l.length) 0
theorem oS (h:l.length<=k):(rowN k l).length=k:=by simp[rowN];omega
theorem qJC:rowN k []=List.replicate k 0:=by simp[rowN]
theorem qJD (h:l.length=k):rowN k l=l:=by simp[rowN,h]
theorem gW {x y:Nat}(h:l.length=x)(hx:x<k):(rowN k l).set x y=rowN k (l++[y]):=by
 unfold rowN;rw[List.set_append_right _ _ yo,h,Nat.sub_self,List.length_append,List.length_singleton,h,show k-x=(k-(x+1))+1 by omega,List.replicate_succ,List.set_cons_zero,List.append_assoc];rfl
end
open Go.Maps Go.RowKit
section
variable {α:Type} {mt kt:TypeId} {V:α->Prop} {kv:α->Value} {w:World}
theorem qGB [DecidableEq α]{ops:Array Oper}{o:Oper}{a:Act}{K':Act->World->Prop}{Q:Exit->Act->World->Prop}{R:Prop}(K:KeyK mt kt V kv)(hg:o.guard=none)(m x v:Operand)(a9:o.op=Op.mapUpdate mt m x v)(b n c:Nat)(f:α->Option Nat)(z:α)(y:Nat)(hm:a.eval m=.map (some b))(hx:a.eval x=kv z)(hv:a.eval v=.int .i64 (y:Int))(h:MapK kt V kv w b n c f)(hn:n<maxLen)(hz:V z)(hy:y<4611686018427387904)(hK:∀w',MapK kt V kv w' b (n+1) (if (f z).isSome then c else c+1) (fun q=>if q=z then some y else f q)->w.grownBy w' (some b)->K' (a.put o.dst undef) w'):
  if Region.wanted o (yielded ops a.tmps)=true then Oper.wp Tryz.prog o a w K' Q else R:=by
 have hw:Region.wanted o (yielded ops a.tmps)=true:=by simp[Region.wanted,hg]
 rw[if_pos hw];obtain⟨D,h1,h2,h3⟩:=h;obtain⟨kl,h0⟩:=Option.isSome_iff_exists.1 (K.of z hz);obtain⟨w',h4,h5,h7⟩:=h1.update K.key K.und hn h0 (plainElem_int tT (cK (x:=(y:Int)) ⟨yo,yo⟩));unfold Oper.wp;simp[execOp,a9,hm,hx,hv,h4,Result.andThen];refine hK w' ⟨_,h5,?_,fun q ql hq hql=>?_⟩ h7
 ·rw[size_put (h1.tidy K.key),(h3 z kl hz h0).1,h2]
 ·by_cases e:q=z
  ·subst e
   rw[h0]at hql;cases hql;refine⟨by rw[has_put_same h1.isMap (K.key.key h0)];simp,?_⟩;simp only[if_pos];rw[atKey_put_same h1.isMap (K.key.key h0)];rfl
  ·have h6:ql≠kl:=fun h=>e (K.inj q z hq hz (K.key.inj (hql.trans (congrArg some h)) h0))
   obtain⟨e1,e2⟩:=h3 q ql hq hql;simp only[if_neg e];exact⟨by rw[has_put_other h6,e1],by rw[atKey_put_other h6,e2]⟩
end
theorem aF {w0 wb w:World}{B o n k m d s ub:Nat}{sG:Option Addr}{cG:Nat}{a7:List Value}{gs a5 right:List (List Nat)}{pre a9 a8:List Int}{a6:List Nat}{tl:List RowS}(h:RunS w0 B o n k m d s ub sG cG a7 gs a5 pre a9 right a8 a6 tl wb)(hg:wb.grownBy w none){g cf:Nat}{f:List Nat}(b8:n<=cf)(b9:cf<=maxLen)(a4:Arr w g 3 (nats f))(a0:wb.heap.size<=g)(hf:IsT n f)(a3:f ∉ a5)(h1:1<=n)(a2:n<=32)(hm:m<=4000)(p x b:Int)(word:ByteArray)(a1:word.size<=m):Calls Tryz.prog 105 #[.pointer (some ⟨o,0,none⟩),.slice (some ⟨g,0,none⟩) n cf,.int .i64 p,.int .i64 x,.string word,.int .i64 b] w fun e w'=>e=.returned (.int .i64 (m:Int))/\RunS w0 B o n k (m+1) d s ub sG cG a7 gs (a5++[f]) (pre++[p]) (a9++[x]) right (a8++[b]) a6 tl w'/\w0.grownBy w' none:=by
 obtain⟨X0,mb,u,us,h2,h3,ws,sE,sP,sL,sR,sU,sW,sB,sS,cE,cP,cL,cR,cU,cW,cB,cS,hB,hE,hR,hG,⟨c,hM⟩,g2,e2,hl,e4,hw,hu⟩:=h;obtain⟨X,hX⟩:∃X:Nat->Prop,X=fun q=>X0 q\/q=g:=⟨_,rfl⟩;have i2:=a4.lt;have hS:=hB.fresh (Y:=fun q=>q=g) hg (fun q hq=>by subst hq;exact⟨a0,i2⟩);have h7:=hB.mem.keep hg;have f6:xX X 3 nats w h2 a5:=by rw[hX];exact(hE.kept h7 hg.size).mono (fun q hq=>.inl hq)
 have e9:xX X 3 nats w h3 right:=by rw[hX];exact(hR.kept h7 hg.size).mono (fun q hq=>.inl hq)
 have f0:xX X 3 nats w a7 gs:=by rw[hX];exact(hG.kept h7 hg.size).mono (fun q hq=>.inl hq)
 have c5:RowX X 3 w (.slice (some ⟨g,0,none⟩) n cf) (nats f):=RowX.of_new a4 hf.1 b8 b9 (by rw[hX];exact .inr rfl);have g3:=hM.lt;have c4:=hM.kept hg yq
 have H6:¬X mb:=by
  rw[hX];intro e;rcases e with e|e
  ·exact g2 e
  omega
 rw[<-hX]at hS
 have H5:o≠mb:=fun e=>by
  obtain⟨es,clock,hb⟩:=hM.obj;have:=hB.box;rw[e,hb]at this;simp at this
 have d5:∀r∈(⟨B,22,.slice sE m cE,m,h2,1⟩::⟨B,3,.slice sP m cP,m,ints pre,1⟩::⟨B,3,.slice sL m cL,m,ints a9,1⟩::⟨B,22,.slice sR d cR,d,h3,1⟩::⟨B,111,.slice sU u cU,u,us,2⟩::⟨B,9,.slice sW m cW,m,xG ws,1⟩::⟨B,3,.slice sB m cB,m,ints a8,1⟩::⟨B,3,.slice sS s cS,s,nats a6,1⟩::⟨B,22,.slice sG k cG,k,a7,1⟩::tl),r.v.ownBlock≠some mb:=fun r hr=>tF (es:=#[]) (clock:=0) (hS.mem.own r hr) c4.obj;obtain⟨HS,j0,i5,i8,i9,H4⟩:=Kf hS f6 e9 f0 c5 c4;obtain⟨g0,j1,HL,i7,HW,HX⟩:=Kf d5 a4 hl e4 hw hX;have g1:=Kh a3;have HF:=Kh hf;have g4:a5.length=m:=hl.1;have f9:Hid (∀W:World,w.grownBy W none->Calls Tryz.prog 107 #[.slice (some ⟨g,0,none⟩) n cf] W fun e w'=>e=.returned (.string (txtT f))/\W.grownBy w' none):=Kh (fun W hgW=>fV w.heap.size W _ f n hgW.size (c5.row.kept hgW yq) hf h1 a2);clear hB hE hR hG hM hl e4 hw hX hS f6 e9 f0 c5 c4 d5 a4 a3 g4 h7 hf;have q3:=zJ HS.out.box 3;simp only[sPd,sPe,sPf]at q3;go_enter Tryz.func105,Tryz.ntmps105;go_upto_region 2 with fail;clear q3
 have c8:Hid (∀W:World,w.grownBy W none->W.cell? ⟨o,9,none⟩=some (.map (some mb))):=Kh (fun W hgW=>by
  have q9:=zJ (HS.out.grow hgW).box 9 yq
  simpa only[sPd,sPe,sPf] using q9)
 obtain⟨w7,c1⟩:=Nm w.drew;have e7:w.grownBy w7 none:=by rw[c1];exact zY w none
 have f8:=Kh c1;have c0:=Kh e7;clear c1 e7;refine wp_region_noPanic ?_;refine yI (G:=xM 7 (fun _=>True) (fun W=>W.cell? ⟨o,9,none⟩=some (.map (some mb)))) yk ?_;rw[<-f8.out];have C:=Kh (c8.out w7 c0.out);refine zP 0 ?_;refine zP 1 ?_;refine zP 2 ?_;refine xD 3 ?_;refine zP 4 ?_;refine zP 6 ?_;refine jg 5 fun K hK=>?_;go_simp
 go_at_call 107
 refine(f9.out w7 c0.out).mono ?_;rintro e w8 ⟨rfl,e6⟩;have h8:=zE c0.out e6;have C8:=Kh (c8.out w8 h8);refine hK.out _ _ ⟨trivial,fun _=>C8.out⟩ ?_;clear hK K C e6
 try simp only[Act.put,sPa,sPb,sPc]
 refine jg 7 fun K hK=>?_;refine qGB (bO a2) rfl (.tmp 23) (.tmp 25) (.tmp 26) rfl mb m c (numE a5) f m rfl rfl rfl (H4.out.kept h8 yq) jm HF.out yo ?_;intro w9 b3 e5;have e1:numE a5 f=none:=if_neg g1.out;rw[e1]at b3;have e8:(fun q=>if q=f then some m else numE a5 q)=numE (a5++[f]):=by rw[<-HL.out.1];exact qJY g1.out
 rw[e8]at b3;have c7:=Kh b3;have h6:Hid (BoxS B X o 124 w0 w (⟨B,22,.slice sE m cE,m,h2,1⟩::⟨B,3,.slice sP m cP,m,ints pre,1⟩::⟨B,3,.slice sL m cL,m,ints a9,1⟩::⟨B,22,.slice sR d cR,d,h3,1⟩::⟨B,111,.slice sU u cU,u,us,2⟩::⟨B,9,.slice sW m cW,m,xG ws,1⟩::⟨B,3,.slice sB m cB,m,ints a8,1⟩::⟨B,3,.slice sS s cS,s,nats a6,1⟩::⟨B,22,.slice sG k cG,k,a7,1⟩::tl) #[.int .i64 (n:Int),.bool true,.slice sG k cG,.slice sE m cE,.slice sP m cP,.slice sL m cL,.slice sR d cR,.slice sU u cU,.int .i64 (d:Int),.map (some mb),.slice sW m cW,.slice sB m cB,.slice sS s cS] w9):=Kh ((HS.out.grow h8).far e5 g0.out H6 H5 e2);refine hK.out _ _ ⟨trivial,fun h=>by simp at h⟩ ?_;clear hK K C8 b3 e1 e8 e5 h8
 try simp only[Act.put,sPa,sPb,sPc]
 refine uY yk ?_ _;refine NoPanic.normal ?_;have c2:=c7.out.lt;have i6:=Kh h6.out.kept;have c6:=Kh h6.out.wk;have h6:=Kh (h6.out.stand c2 (fun r hr=>tF (es:=#[]) (clock:=0) (h6.out.mem.own r hr) c7.out.obj) H5);obtain⟨X1,c3⟩:∃X1:Nat->Prop,X1=fun q=>X q\/q=mb:=⟨_,rfl⟩;rw[<-c3]at h6;have f7:=Kh c3;clear c3 c8 f9 f8 c0 g0 H4;have q1:=zJ h6.out.box 3;simp only[sPd,sPe,sPf]at q1;have e0:=h6.out.own (r:=⟨B,22,.slice sE m cE,m,h2,1⟩) yq;have d3:=Nat.le_trans h6.out.base h6.out.wk;go_upto_region 4 with (first|(at_builtin;refine sM rfl _ _ _ rfl xT.toN B (.slice sE m cE) (m) (h2) rfl e0 [.slice (some ⟨g,0,none⟩) n cf] rfl rfl ?z1 ?z2 ?z3 ?z4 ?_;(case z1=>(intro v hv;simp only[List.mem_cons,List.not_mem_nil,or_false]at hv;(first|(subst hv;rfl)|(rcases hv with rfl|rfl<;>rfl))));(case z2=>(unfold maxLen;omega));(case z3=>(show (m+1)*24<=140737488355328;omega));(case z4=>exact d3);intro sN1 cN1 wM1 h0 h5 h4;(have H4:Hid (BoxS B X1 o 124 w0 w9 (⟨B,22,.slice sN1 (m+1) cN1,m+1,h2++[.slice (some ⟨g,0,none⟩) n cf],1⟩::⟨B,3,.slice sP m cP,m,ints pre,1⟩::⟨B,3,.slice sL m cL,m,ints a9,1⟩::⟨B,22,.slice sR d cR,d,h3,1⟩::⟨B,111,.slice sU u cU,u,us,2⟩::⟨B,9,.slice sW m cW,m,xG ws,1⟩::⟨B,3,.slice sB m cB,m,ints a8,1⟩::⟨B,3,.slice sS s cS,s,nats a6,1⟩::⟨B,22,.slice sG k cG,k,a7,1⟩::tl) #[.int .i64 (n:Int),.bool true,.slice sG k cG,.slice sE m cE,.slice sP m cP,.slice sL m cL,.slice sR d cR,.slice sU u cU,.int .i64 (d:Int),.map (some mb),.slice sW m cW,.slice sB m cB,.slice sS s cS] wM1):=Kh (h6.out.appAt (j:=0) rfl h0 h5 h4));(have p1:=zJ H4.out.box 3);simp only[sPd,sPe,sPf]at p1;(have f1:=zB H4.out.box 3);clear h0 h5 h4)|fail);obtain⟨wZ1,H3⟩:=Nm (wM1.setCell ⟨o,3,none⟩ (.slice sN1 (m+1) cN1));have b1:Hid (BoxS B X1 o 124 w0 w9 (⟨B,22,.slice sN1 (m+1) cN1,m+1,h2++[.slice (some ⟨g,0,none⟩) n cf],1⟩::⟨B,3,.slice sP m cP,m,ints pre,1⟩::⟨B,3,.slice sL m cL,m,ints a9,1⟩::⟨B,22,.slice sR d cR,d,h3,1⟩::⟨B,111,.slice sU u cU,u,us,2⟩::⟨B,9,.slice sW m cW,m,xG ws,1⟩::⟨B,3,.slice sB m cB,m,ints a8,1⟩::⟨B,3,.slice sS s cS,s,nats a6,1⟩::⟨B,22,.slice sG k cG,k,a7,1⟩::tl) #[.int .i64 (n:Int),.bool true,.slice sG k cG,.slice sN1 (m+1) cN1,.slice sP m cP,.slice sL m cL,.slice sR d cR,.slice sU u cU,.int .i64 (d:Int),.map (some mb),.slice sW m cW,.slice sB m cB,.slice sS s cS] wZ1):=Kh (by rw[H3];exact H4.out.set 3 (.slice sN1 (m+1) cN1));rw[<-H3];clear H3 q1 e0 d3 H4 p1 f1;have q2:=zJ b1.out.box 4;simp only[sPd,sPe,sPf]at q2;have d9:=b1.out.own (r:=⟨B,3,.slice sP m cP,m,ints pre,1⟩) yq;have d2:=Nat.le_trans b1.out.base b1.out.wk;go_upto_region 5 with (first|(at_builtin;refine sM rfl _ _ _ rfl yJ.toN B (.slice sP m cP) (m) (ints pre) rfl d9 [.int .i64 p] rfl rfl ?z1 ?z2 ?z3 ?z4 ?_;(case z1=>(intro v hv;simp only[List.mem_cons,List.not_mem_nil,or_false]at hv;(first|(subst hv;rfl)|(rcases hv with rfl|rfl<;>rfl))));(case z2=>(unfold maxLen;omega));(case z3=>(show (m+1)*8<=140737488355328;omega));(case z4=>exact d2);intro sN2 cN2 wM2 h0 h5 h4;(have b7:Hid (BoxS B X1 o 124 w0 w9 (⟨B,22,.slice sN1 (m+1) cN1,m+1,h2++[.slice (some ⟨g,0,none⟩) n cf],1⟩::⟨B,3,.slice sN2 (m+1) cN2,m+1,ints pre++[.int .i64 p],1⟩::⟨B,3,.slice sL m cL,m,ints a9,1⟩::⟨B,22,.slice sR d cR,d,h3,1⟩::⟨B,111,.slice sU u cU,u,us,2⟩::⟨B,9,.slice sW m cW,m,xG ws,1⟩::⟨B,3,.slice sB m cB,m,ints a8,1⟩::⟨B,3,.slice sS s cS,s,nats a6,1⟩::⟨B,22,.slice sG k cG,k,a7,1⟩::tl) #[.int .i64 (n:Int),.bool true,.slice sG k cG,.slice sN1 (m+1) cN1,.slice sP m cP,.slice sL m cL,.slice sR d cR,.slice sU u cU,.int .i64 (d:Int),.map (some mb),.slice sW m cW,.slice sB m cB,.slice sS s cS] wM2):=Kh (b1.out.appAt (j:=1) rfl h0 h5 h4));(have p2:=zJ b7.out.box 4);simp only[sPd,sPe,sPf]at p2;(have f2:=zB b7.out.box 4);clear h0 h5 h4)|fail);obtain⟨wZ2,H2⟩:=Nm (wM2.setCell ⟨o,4,none⟩ (.slice sN2 (m+1) cN2));have b0:Hid (BoxS B X1 o 124 w0 w9 (⟨B,22,.slice sN1 (m+1) cN1,m+1,h2++[.slice (some ⟨g,0,none⟩) n cf],1⟩::⟨B,3,.slice sN2 (m+1) cN2,m+1,ints pre++[.int .i64 p],1⟩::⟨B,3,.slice sL m cL,m,ints a9,1⟩::⟨B,22,.slice sR d cR,d,h3,1⟩::⟨B,111,.slice sU u cU,u,us,2⟩::⟨B,9,.slice sW m cW,m,xG ws,1⟩::⟨B,3,.slice sB m cB,m,ints a8,1⟩::⟨B,3,.slice sS s cS,s,nats a6,1⟩::⟨B,22,.slice sG k cG,k,a7,1⟩::tl) #[.int .i64 (n:Int),.bool true,.slice sG k cG,.slice sN1 (m+1) cN1,.slice sN2 (m+1) cN2,.slice sL m cL,.slice sR d cR,.slice sU u cU,.int .i64 (d:Int),.map (some mb),.slice sW m cW,.slice sB m cB,.slice sS s cS] wZ2):=Kh (by rw[H2];exact b7.out.set 4 (.slice sN2 (m+1) cN2));rw[<-H2];clear H2 q2 d9 d2 b7 p2 f2;have q3:=zJ b0.out.box 5;simp only[sPd,sPe,sPf]at q3;have d8:=b0.out.own (r:=⟨B,3,.slice sL m cL,m,ints a9,1⟩) yq;have d1:=Nat.le_trans b0.out.base b0.out.wk;go_upto_region 6 with (first|(at_builtin;refine sM rfl _ _ _ rfl yJ.toN B (.slice sL m cL) (m) (ints a9) rfl d8 [.int .i64 x] rfl rfl ?z1 ?z2 ?z3 ?z4 ?_;(case z1=>(intro v hv;simp only[List.mem_cons,List.not_mem_nil,or_false]at hv;(first|(subst hv;rfl)|(rcases hv with rfl|rfl<;>rfl))));(case z2=>(unfold maxLen;omega));(case z3=>(show (m+1)*8<=140737488355328;omega));(case z4=>exact d1);intro sN3 cN3 wM3 h0 h5 h4;(have b6:Hid (BoxS B X1 o 124 w0 w9 (⟨B,22,.slice sN1 (m+1) cN1,m+1,h2++[.slice (some ⟨g,0,none⟩) n cf],1⟩::⟨B,3,.slice sN2 (m+1) cN2,m+1,ints pre++[.int .i64 p],1⟩::⟨B,3,.slice sN3 (m+1) cN3,m+1,ints a9++[.int .i64 x],1⟩::⟨B,22,.slice sR d cR,d,h3,1⟩::⟨B,111,.slice sU u cU,u,us,2⟩::⟨B,9,.slice sW m cW,m,xG ws,1⟩::⟨B,3,.slice sB m cB,m,ints a8,1⟩::⟨B,3,.slice sS s cS,s,nats a6,1⟩::⟨B,22,.slice sG k cG,k,a7,1⟩::tl) #[.int .i64 (n:Int),.bool true,.slice sG k cG,.slice sN1 (m+1) cN1,.slice sN2 (m+1) cN2,.slice sL m cL,.slice sR d cR,.slice sU u cU,.int .i64 (d:Int),.map (some mb),.slice sW m cW,.slice sB m cB,.slice sS s cS] wM3):=Kh (b0.out.appAt (j:=2) rfl h0 h5 h4));(have p3:=zJ b6.out.box 5);simp only[sPd,sPe,sPf]at p3;(have f3:=zB b6.out.box 5);clear h0 h5 h4)|fail);obtain⟨wZ3,H1⟩:=Nm (wM3.setCell ⟨o,5,none⟩ (.slice sN3 (m+1) cN3));have H9:Hid (BoxS B X1 o 124 w0 w9 (⟨B,22,.slice sN1 (m+1) cN1,m+1,h2++[.slice (some ⟨g,0,none⟩) n cf],1⟩::⟨B,3,.slice sN2 (m+1) cN2,m+1,ints pre++[.int .i64 p],1⟩::⟨B,3,.slice sN3 (m+1) cN3,m+1,ints a9++[.int .i64 x],1⟩::⟨B,22,.slice sR d cR,d,h3,1⟩::⟨B,111,.slice sU u cU,u,us,2⟩::⟨B,9,.slice sW m cW,m,xG ws,1⟩::⟨B,3,.slice sB m cB,m,ints a8,1⟩::⟨B,3,.slice sS s cS,s,nats a6,1⟩::⟨B,22,.slice sG k cG,k,a7,1⟩::tl) #[.int .i64 (n:Int),.bool true,.slice sG k cG,.slice sN1 (m+1) cN1,.slice sN2 (m+1) cN2,.slice sN3 (m+1) cN3,.slice sR d cR,.slice sU u cU,.int .i64 (d:Int),.map (some mb),.slice sW m cW,.slice sB m cB,.slice sS s cS] wZ3):=Kh (by rw[H1];exact b6.out.set 5 (.slice sN3 (m+1) cN3));rw[<-H1];clear H1 q3 d8 d1 b6 p3 f3;have q4:=zJ H9.out.box 10;simp only[sPd,sPe,sPf]at q4;have d7:=H9.out.own (r:=⟨B,9,.slice sW m cW,m,xG ws,1⟩) yq;have d0:=Nat.le_trans H9.out.base H9.out.wk;go_upto_region 7 with (first|(at_builtin;refine sM rfl _ _ _ rfl rZ.toN B (.slice sW m cW) (m) (xG ws) rfl d7 [.string word] rfl rfl ?z1 ?z2 ?z3 ?z4 ?_;(case z1=>(intro v hv;simp only[List.mem_cons,List.not_mem_nil,or_false]at hv;(first|(subst hv;rfl)|(rcases hv with rfl|rfl<;>rfl))));(case z2=>(unfold maxLen;omega));(case z3=>(show (m+1)*16<=140737488355328;omega));(case z4=>exact d0);intro sN4 cN4 wM4 h0 h5 h4;(have b5:Hid (BoxS B X1 o 124 w0 w9 (⟨B,22,.slice sN1 (m+1) cN1,m+1,h2++[.slice (some ⟨g,0,none⟩) n cf],1⟩::⟨B,3,.slice sN2 (m+1) cN2,m+1,ints pre++[.int .i64 p],1⟩::⟨B,3,.slice sN3 (m+1) cN3,m+1,ints a9++[.int .i64 x],1⟩::⟨B,22,.slice sR d cR,d,h3,1⟩::⟨B,111,.slice sU u cU,u,us,2⟩::⟨B,9,.slice sN4 (m+1) cN4,m+1,xG ws++[.string word],1⟩::⟨B,3,.slice sB m cB,m,ints a8,1⟩::⟨B,3,.slice sS s cS,s,nats a6,1⟩::⟨B,22,.slice sG k cG,k,a7,1⟩::tl) #[.int .i64 (n:Int),.bool true,.slice sG k cG,.slice sN1 (m+1) cN1,.slice sN2 (m+1) cN2,.slice sN3 (m+1) cN3,.slice sR d cR,.slice sU u cU,.int .i64 (d:Int),.map (some mb),.slice sW m cW,.slice sB m cB,.slice sS s cS] wM4):=Kh (H9.out.appAt (j:=5) rfl h0 h5 h4));(have p4:=zJ b5.out.box 10);simp only[sPd,sPe,sPf]at p4;(have f4:=zB b5.out.box 10);clear h0 h5 h4)|fail);obtain⟨wZ4,H0⟩:=Nm (wM4.setCell ⟨o,10,none⟩ (.slice sN4 (m+1) cN4));have H8:Hid (BoxS B X1 o 124 w0 w9 (⟨B,22,.slice sN1 (m+1) cN1,m+1,h2++[.slice (some ⟨g,0,none⟩) n cf],1⟩::⟨B,3,.slice sN2 (m+1) cN2,m+1,ints pre++[.int .i64 p],1⟩::⟨B,3,.slice sN3 (m+1) cN3,m+1,ints a9++[.int .i64 x],1⟩::⟨B,22,.slice sR d cR,d,h3,1⟩::⟨B,111,.slice sU u cU,u,us,2⟩::⟨B,9,.slice sN4 (m+1) cN4,m+1,xG ws++[.string word],1⟩::⟨B,3,.slice sB m cB,m,ints a8,1⟩::⟨B,3,.slice sS s cS,s,nats a6,1⟩::⟨B,22,.slice sG k cG,k,a7,1⟩::tl) #[.int .i64 (n:Int),.bool true,.slice sG k cG,.slice sN1 (m+1) cN1,.slice sN2 (m+1) cN2,.slice sN3 (m+1) cN3,.slice sR d cR,.slice sU u cU,.int .i64 (d:Int),.map (some mb),.slice sN4 (m+1) cN4,.slice sB m cB,.slice sS s cS] wZ4):=Kh (by rw[H0];exact b5.out.set 10 (.slice sN4 (m+1) cN4));rw[<-H0];clear H0 q4 d7 d0 b5 p4 f4;have q5:=zJ H8.out.box 11;simp only[sPd,sPe,sPf]at q5;have d6:=H8.out.own (r:=⟨B,3,.slice sB m cB,m,ints a8,1⟩) yq;have c9:=Nat.le_trans H8.out.base H8.out.wk;go_upto_region 8 with (first|(at_builtin;refine sM rfl _ _ _ rfl yJ.toN B (.slice sB m cB) (m) (ints a8) rfl d6 [.int .i64 b] rfl rfl ?z1 ?z2 ?z3 ?z4 ?_;(case z1=>(intro v hv;simp only[List.mem_cons,List.not_mem_nil,or_false]at hv;(first|(subst hv;rfl)|(rcases hv with rfl|rfl<;>rfl))));(case z2=>(unfold maxLen;omega));(case z3=>(show (m+1)*8<=140737488355328;omega));(case z4=>exact c9);intro sN5 cN5 wM5 h0 h5 h4;(have b4:Hid (BoxS B X1 o 124 w0 w9 (⟨B,22,.slice sN1 (m+1) cN1,m+1,h2++[.slice (some ⟨g,0,none⟩) n cf],1⟩::⟨B,3,.slice sN2 (m+1) cN2,m+1,ints pre++[.int .i64 p],1⟩::⟨B,3,.slice sN3 (m+1) cN3,m+1,ints a9++[.int .i64 x],1⟩::⟨B,22,.slice sR d cR,d,h3,1⟩::⟨B,111,.slice sU u cU,u,us,2⟩::⟨B,9,.slice sN4 (m+1) cN4,m+1,xG ws++[.string word],1⟩::⟨B,3,.slice sN5 (m+1) cN5,m+1,ints a8++[.int .i64 b],1⟩::⟨B,3,.slice sS s cS,s,nats a6,1⟩::⟨B,22,.slice sG k cG,k,a7,1⟩::tl) #[.int .i64 (n:Int),.bool true,.slice sG k cG,.slice sN1 (m+1) cN1,.slice sN2 (m+1) cN2,.slice sN3 (m+1) cN3,.slice sR d cR,.slice sU u cU,.int .i64 (d:Int),.map (some mb),.slice sN4 (m+1) cN4,.slice sB m cB,.slice sS s cS] wM5):=Kh (H8.out.appAt (j:=6) rfl h0 h5 h4));(have p5:=zJ b4.out.box 11);simp only[sPd,sPe,sPf]at p5;(have f5:=zB b4.out.box 11);clear h0 h5 h4)|fail);obtain⟨wZ5,h9⟩:=Nm (wM5.setCell ⟨o,11,none⟩ (.slice sN5 (m+1) cN5));have i4:Hid (BoxS B X1 o 124 w0 w9 (⟨B,22,.slice sN1 (m+1) cN1,m+1,h2++[.slice (some ⟨g,0,none⟩) n cf],1⟩::⟨B,3,.slice sN2 (m+1) cN2,m+1,ints pre++[.int .i64 p],1⟩::⟨B,3,.slice sN3 (m+1) cN3,m+1,ints a9++[.int .i64 x],1⟩::⟨B,22,.slice sR d cR,d,h3,1⟩::⟨B,111,.slice sU u cU,u,us,2⟩::⟨B,9,.slice sN4 (m+1) cN4,m+1,xG ws++[.string word],1⟩::⟨B,3,.slice sN5 (m+1) cN5,m+1,ints a8++[.int .i64 b],1⟩::⟨B,3,.slice sS s cS,s,nats a6,1⟩::⟨B,22,.slice sG k cG,k,a7,1⟩::tl) #[.int .i64 (n:Int),.bool true,.slice sG k cG,.slice sN1 (m+1) cN1,.slice sN2 (m+1) cN2,.slice sN3 (m+1) cN3,.slice sR d cR,.slice sU u cU,.int .i64 (d:Int),.map (some mb),.slice sN4 (m+1) cN4,.slice sN5 (m+1) cN5,.slice sS s cS] wZ5):=Kh (by rw[h9];exact b4.out.set 11 (.slice sN5 (m+1) cN5));rw[<-h9];clear h9 q5 d6 c9 b4 p5 f5;go_wp2;go_ret;obtain⟨i1,i0,g9,e3,g8,g7,g6,g5⟩:=HL.out;have H7:=i4.out;have d4:∀q,X q->X1 q:=fun q hq=>by rw[f7.out];exact .inl hq
 have h7:=i6.out.trans (H7.less d4).kept;have b2:=Nat.le_trans c6.out H7.wk;have i3:xX X 3 nats wZ5 (h2++[.slice (some ⟨g,0,none⟩) n cf]) (a5++[f]):=(j0.out.kept h7 b2).snoc (i9.out.kept h7 b2);refine⟨rfl,⟨X,mb,u,us,h2++[.slice (some ⟨g,0,none⟩) n cf],h3,ws++[word],sN1,sN2,sN3,sR,sU,sN4,sN5,sS,cN1,cN2,cN3,cR,cU,cN4,cN5,cS,?_,i3,i5.out.kept h7 b2,i8.out.kept h7 b2,?_,H6,e2,?_,?_,?_,hu⟩,H7.grown⟩
 ·have:=(H7.less d4).rebase
  rw[show ints pre++[.int .i64 p]=ints (pre++[p]) by simp[ints],show ints a9++[.int .i64 x]=ints (a9++[x]) by simp[ints],show ints a8++[.int .i64 b]=ints (a8++[b]) by simp[ints],show xG ws++[.string word]=xG (ws++[word]) from (bD ws word).symm]at this;exact this
 ·exact⟨_,c7.out.of_block (H7.kept mb (by rw[f7.out];exact .inr rfl))⟩
 ·exact⟨by simp[i1],by simp[i0],by simp[g9],by simp[e3],by simp[g8],g7,g6,g5⟩
 ·intro q hq
  rcases List.mem_append.1 hq with hq|hq
  ·exact i7.out q hq
  rw[List.mem_singleton]at hq;subst hq;exact HF.out
 exact dG e3 HW.out a1
section
variable {X:Nat->Prop} {B o ty:Nat} {w0 wk w w':World} {rs:List RowS} {c:Array Value}
theorem BoxS.retire {r:RowS}(h:BoxS B X o ty w0 wk (rs++[r]) c w):BoxS B (fun k=>X k\/r.v.ownBlock=some k) o ty w0 w rs c w :=
 ⟨h.mem.retire,fun s hs=>h.typ s (List.mem_append_left _ hs),h.box,fun e=>by
  rcases e with e|e
  ·exact h.off e
  ·exact absurd e (zR (h.mem.own r yq) h.box (h.typ r yq).2),h.size,h.old,Nat.le_trans h.base h.wk,h.grown,wG.refl _ _,Nat.le_refl _⟩
end
section
variable {w0 w w':World} {B o n k m d s ub:Nat} {sG:Option Addr} {cG:Nat} {hsG:List Value} {gs els right:List (List Nat)} {pre las beh:List Int} {sgl:List Nat} {tl:List RowS}
theorem RunS.grow (h:RunS w0 B o n k m d s ub sG cG hsG gs els pre las right beh sgl tl w)(hg:w.grownBy w' none):RunS w0 B o n k m d s ub sG cG hsG gs els pre las right beh sgl tl w':=by
 obtain⟨X,mb,u,us,h2,h1,ws,sE,sP,sL,sR,sU,sW,sB,sS,cE,cP,cL,cR,cU,cW,cB,cS,hB,hE,hR,hG,⟨c,hM⟩,h3,h4,hl,h5,hw,hu⟩:=h;have h0:=hB.mem.keep hg;exact⟨X,mb,u,us,h2,h1,ws,sE,sP,sL,sR,sU,sW,sB,sS,cE,cP,cL,cR,cU,cW,cB,cS,(hB.grow hg).rebase,hE.kept h0 hg.size,hR.kept h0 hg.size,hG.kept h0 hg.size,⟨c,hM.kept hg yq⟩,h3,h4,hl,h5,hw,hu⟩
theorem RunS.ubm (h:RunS w0 B o n k m d s ub sG cG hsG gs els pre las right beh sgl tl w){a9:Nat}(a8:ub<=a9):RunS w0 B o n k m d s a9 sG cG hsG gs els pre las right beh sgl tl w:=by
 obtain⟨X,mb,u,us,h1,h0,ws,sE,sP,sL,sR,sU,sW,sB,sS,cE,cP,cL,cR,cU,cW,cB,cS,hB,hE,hR,hG,⟨c,hM⟩,h2,h3,hl,h4,hw,hu⟩:=h;exact⟨X,mb,u,us,h1,h0,ws,sE,sP,sL,sR,sU,sW,sB,sS,cE,cP,cL,cR,cU,cW,cB,cS,hB,hE,hR,hG,⟨c,hM⟩,h2,h3,hl,h4,hw,Nat.le_trans hu a8⟩
theorem RunS.facts (h:RunS w0 B o n k m d s ub sG cG hsG gs els pre las right beh sgl tl w):w0.grownBy w none/\B<=w.heap.size/\w0.heap.size<=B/\w0.heap.size<=o/\o<w.heap.size:=by
 obtain⟨X,mb,u,us,h1,h0,ws,sE,sP,sL,sR,sU,sW,sB,sS,cE,cP,cL,cR,cU,cW,cB,cS,hB,hE,hR,hG,⟨c,hM⟩,h2,h3,hl,h4,hw,hu⟩:=h;exact⟨hB.grown,Nat.le_trans hB.base hB.wk,hB.size,hB.old,zS hB.box⟩
theorem RunS.addRow (h:RunS w0 B o n k m d s ub sG cG hsG gs els pre las right beh sgl [] w)(hg:w.grownBy w' none){sz:Nat}{v:Value}(ho:w'.ownsRow w.heap.size e sz v q xs)(he:e≠124):RunS w0 B o n k m d s ub sG cG hsG gs els pre las right beh sgl (⟨B,e,v,q,xs,sz⟩::[]) w':=by
 obtain⟨X,mb,u,us,h2,h1,ws,sE,sP,sL,sR,sU,sW,sB,sS,cE,cP,cL,cR,cU,cW,cB,cS,hB,hE,hR,hG,⟨c,hM⟩,h3,h4,hl,h5,hw,hu⟩:=h;have h0:=hB.mem.keep hg;exact⟨X,mb,u,us,h2,h1,ws,sE,sP,sL,sR,sU,sW,sB,sS,cE,cP,cL,cR,cU,cW,cB,cS,(hB.add hg ho he).rebase,hE.kept h0 hg.size,hR.kept h0 hg.size,hG.kept h0 hg.size,⟨c,hM.kept hg yq⟩,h3,h4,hl,h5,hw,hu⟩
theorem RunS.arr (h:RunS w0 B o n k m d s ub sG cG hsG gs els pre las right beh sgl (⟨B,e,.slice (some ⟨rb,0,none⟩) q cap,q,xs,1⟩::[]) w):Arr w rb e xs:=by
 obtain⟨X,mb,u,us,h1,h0,ws,sE,sP,sL,sR,sU,sW,sB,sS,cE,cP,cL,cR,cU,cW,cB,cS,hB,hE,hR,hG,⟨c,hM⟩,h2,h3,hl,h4,hw,hu⟩:=h;exact Arr.of_owns (hB.own (r:=⟨B,e,.slice (some ⟨rb,0,none⟩) q cap,q,xs,1⟩) yq)
theorem lJ (l:List Nat)(i c:Nat):(nats l).set i (.int .i64 (c:Int))=nats (l.set i c):=by simp[nats,List.map_set]
theorem RunS.put {i:Nat}(h:RunS w0 B o n k m d s ub sG cG hsG gs els pre las right beh sgl (⟨B,e,.slice (some ⟨rb,0,none⟩) q cap,q,xs,1⟩::[]) w)(hi:i<q)(y:Value):RunS w0 B o n k m d s ub sG cG hsG gs els pre las right beh sgl (⟨B,e,.slice (some ⟨rb,0,none⟩) q cap,q,xs.set i y,1⟩::[]) (w.setCell ⟨rb,i,none⟩ y):=by
 obtain⟨X,mb,u,us,h3,h2,ws,sE,sP,sL,sR,sU,sW,sB,sS,cE,cP,cL,cR,cU,cW,cB,cS,hB,hE,hR,hG,⟨c,hM⟩,h5,h6,hl,h7,hw,hu⟩:=h;have hP:=hB.put (j:=9) rfl hi y;have h1:=hP.kept;have h0:=hP.wk
 have h4:rb≠mb:=fun e1=>by
  subst e1;exact tF (es:=#[]) (clock:=0) (hB.own (r:=⟨B,e,.slice (some ⟨rb,0,none⟩) q cap,q,xs,1⟩) yq) hM.obj rfl
 exact⟨X,mb,u,us,h3,h2,ws,sE,sP,sL,sR,sU,sW,sB,sS,cE,cP,cL,cR,cU,cW,cB,cS,hP.rebase,hE.kept h1 h0,hR.kept h1 h0,hG.kept h1 h0,⟨c,hM.kept (zH w ⟨rb,i,none⟩ y) (fun e=>h4 (Oj e))⟩,h5,h6,hl,h7,hw,hu⟩
end
theorem qSQ (l:List Nat):(l.map fun(x:Nat)=>(x:Int)).map (Value.int .i64)=nats l:=by simp[nats]
theorem iL (B:Nat)(w:World)(v:Value)(f:List Nat)(h:Row B w v (nats f))(h1:1<=f.length)(hb:f.length<=1000000):Calls Tryz.prog 83 #[v] w fun e w'=>∃g c,e=.returned (.slice (some ⟨g,0,none⟩) f.length c)/\w.heap.size<=g/\f.length<=c/\c<=maxLen/\w'.ownsRow w.heap.size 3 1 (.slice (some ⟨g,0,none⟩) f.length c) f.length (nats f)/\w.grownBy w' none:=by
 obtain⟨b,off,cap,rfl,_,h9,h8,h6⟩:=h.some_ (by rw[zV];omega);rw[zV];refine(Tryz.slices_Clone_int b off f.length cap (f.map fun(x:Nat)=>(x:Int)) w yq yo (fun j hj=>?_)).mono ?_
 ·have h5:j<f.length:=by simpa using hj
  rw[h6.nat j h5];simp[List.getD,h5]
 rintro e w' ⟨v',rfl,h0,h7,h4⟩;rw[show ((f.map fun(x:Nat)=>(x:Int)).take f.length).map (Value.int .i64)=nats f by rw[List.take_of_length_le yq,qSQ]]at h0;obtain⟨sa,sc,rfl⟩:=rX h0;obtain⟨g,rfl,h2,h3,_⟩:=yV h0 yo;exact⟨g,sc,rfl,(h0.lt g rfl).1,h2,h3,h0,kG h4⟩
end Go.Proofs.YtiknckajkdlppaaGreat
namespace Go.Proofs.YtiknckajkdlppaaGreat
def qBP (n:Nat):Code->Option Code
 | .block i c=>if i=n then some c else qBP n c
 | .seq a b=>match qBP n a with
  | some c=>some c
  | none=>qBP n b
 | .cond _ a b=>match qBP n a with
  | some c=>some c
  | none=>qBP n b
 | .loop c=>qBP n c
 | .scope c=>qBP n c
 | _=>none
noncomputable def blk (f:Func)(n:Nat):Code:=(f.body.bind (qBP n)).getD .skip
def qBO (n:Nat):Code->Option Code
 | .region i o d=>if i=n then some (.region i o d) else none
 | .block _ c=>qBO n c
 | .seq a b=>match qBO n a with
  | some c=>some c
  | none=>qBO n b
 | .cond _ a b=>match qBO n a with
  | some c=>some c
  | none=>qBO n b
 | .loop c=>qBO n c
 | .scope c=>qBO n c
 | _=>none
noncomputable def reg (f:Func)(n:Nat):Code:=(f.body.bind (qBO n)).getD .skip
end Go.Proofs.YtiknckajkdlppaaGreat
