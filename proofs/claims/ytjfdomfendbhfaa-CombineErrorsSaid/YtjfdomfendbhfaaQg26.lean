/- Part 26 of the proof. -/
import Derived.Test.YtjfdomfendbhfaaQg25
import Derived.Deep.Matrix
import Derived.Shelf.Vars
set_option linter.unusedVariables false
set_option linter.unusedSimpArgs false
set_option maxRecDepth 100000
set_option maxHeartbeats 16000000
namespace Go.Proofs.Ytjfdomfendbhfaa
open Go.ChangeShapes Go.Deep Go.RowKit Go.WideShapes
section
variable {H:Type} {enc:TypeId×Value->H} {w:World} {fuel:Nat} {cs:List Value} {x:DataW H×List MemPlace}
theorem open_mat34 {t e q:TypeId}{base:Nat}{held:Bool}{P:Program}(ht:P.underlying t=some (.slice e))(he:P.underlying e=some (.slice q))(hq:P.underlying q=some (.int .i64))(ce:P.cellsOf e=1)(cq:P.cellsOf q=1)(h:DataW.trod enc P w base (fun _=>true) held fuel t cs=some x):∃ (v:Value) (m:List (List Int)),cs=[v]/\Mat w.heap.size w v m:=by
 rcases open_int_rows ht he hq ce cq h with ⟨hcs,_⟩|⟨a,len,cap,A,L,C,Z,hcs,_,hl,hm,_,hall⟩
 ·exact⟨_,[],hcs,.inl ⟨_,_,rfl,rfl⟩⟩
 ·by_cases h0:len=0
  ·subst h0
   exact⟨_,[],hcs,.inl ⟨_,_,rfl,rfl⟩⟩
  obtain⟨b,off,spot⟩:=a;have H1:=(hall 0 (by omega)).1;have h7:spot=none:=by simpa [Addr.add] using World.cell?_spot H1
  subst h7;have H0:∀ i,(⟨b,off,none⟩:Addr).add i=⟨b,off+i,none⟩:=fun i=>by unfold Addr.add;split<;>simp_all
  have h8:∀ r,r<len->((List.range len).map fun r=>(Z r).take (L r)).getD r []=(Z r).take (L r):=fun r hr=>by
   rw[List.getD_eq_getElem?_getD,List.getElem?_map,List.getElem?_range hr];rfl
  have h9:((List.range len).map fun r=>(Z r).take (L r)).length=len:=by simp
  have hL:∀ r,r<len->((Z r).take (L r)).length=L r:=fun r hr=>by
   obtain⟨_,h1,_,h2,_⟩:=hall r (by omega);rw[List.length_take];omega
  have hb:b<w.heap.size:=World.block_lt_of_cell? w _ H1;refine⟨_,(List.range len).map fun r=>(Z r).take (L r),hcs,.inr ⟨b,off,cap,A,C,by rw[h9],by rw[h9];exact hl,hm,hb,hb,fun r hr=>?_,fun r hr=>?_⟩⟩
  ·rw[h9]at hr
   rw[h8 r hr,hL r hr,<- H0];exact(hall r (by omega)).1
  ·rw[h9]at hr
   obtain⟨_,h1,h2,h3,h4,h5,h6⟩:=hall r (by omega);rw[h8 r hr,hL r hr];cases hA:A r with
   | none =>
    have hC:=h5 hA;have:L r=0:=by omega
    rw[this];exact .inl ⟨_,_,rfl,rfl⟩
   | some a' =>
    exact Row.of_arg (.inr ⟨a',rfl,h1,h2,h3,fun i hi=>(h6 a' hA).2 i (by omega),h4⟩)
theorem open_bls {held:Bool}(h:DataW.trod enc Try.prog w 0 (fun _=>true) held fuel 39 cs=some x):∃ (v:Value) (bs:List Bool),cs=[v]/\Row w.heap.size w v (bls bs):=by
 rcases open_slice Try.underlying39 h with ⟨hcs,_⟩|⟨a,len,cap,m,n,D,Pl,hcs,_,hl,hm,hmm,_,hall⟩
 ·exact⟨_,[],hcs,.inl ⟨_,_,rfl,rfl⟩⟩
 ·by_cases h0:len=0
  ·subst h0
   exact⟨_,[],hcs,.inl ⟨_,_,rfl,rfl⟩⟩
  simp only[if_true]at hmm;subst hmm;have c5:Try.prog.cellsOf 4=1:=by kernel_rfl
  rw[c5]at hall
  have each:∀ i,i<m->∃ st:Bool,w.cells? 0 (a.add (i * 1)) 1=some [.bool st]:=fun i hi=>by
   obtain⟨cs',h1,h2⟩:=hall i hi;obtain⟨b,rfl,_⟩:=DataW.trod_bool Try.underlying4 h2;exact⟨b,h1⟩
  obtain⟨S,hS⟩:=choose_lt each;obtain⟨b,off,spot⟩:=a
  have h3:∀ i,i<m->w.cell? (((⟨b,off,spot⟩:Addr).add (i * 1)).add 0)=some (.bool (S i)):=fun i hi=>by
   have:=(World.cells?_some (hS i hi)).2.2 0 (by omega);simpa using this
  have h6:w.cell? ((⟨b,off,spot⟩:Addr).add 0)=some (.bool (S 0)):=by simpa [Addr.add] using h3 0 (by omega)
  have h4:spot=none:=by simpa [Addr.add] using World.cell?_spot h6
  subst h4;have h5:∀ o i,(⟨b,o,none⟩:Addr).add i=⟨b,o+i,none⟩:=fun o i=>by unfold Addr.add;split<;>simp_all
  simp only[h5]at h3;have hb:b<w.heap.size:=World.block_lt_of_cell? w _ (by rw[h5]at h6;exact h6);refine⟨_,(List.range len).map S,hcs,.inr ⟨b,off,m,by simp[bls],hb,by simpa [bls] using hl,hm,hb,fun i hi=>?_⟩⟩;have h7:i<len:=by simpa [bls] using hi
  have:=h3 i (by omega);simp only[Nat.mul_one,Nat.add_zero]at this;rw[this];simp[bls]
theorem trod_dfa {held:Bool}(h:DataW.trod enc Try.prog w 0 (fun _=>true) held fuel 42 cs=some x):∃ (fv nv:Value) (d:DfaV),cs=[.int .i64 d.letters,.int .i64 d.start,fv,nv]/\(Row w.heap.size w fv (bls d.final)/\Mat w.heap.size w nv d.next):=by
 obtain⟨xs,n,_,_,hl,h0,hf⟩:=DataW.trod_struct Try.underlying42 h;have c0:Try.prog.cellsOf 39=1:=by kernel_rfl
 have c1:Try.prog.cellsOf 40=1:=by kernel_rfl
 have c2:Try.prog.cellsOf 3=1:=by kernel_rfl
 have h1:cs.length=4:=hl.trans (by kernel_rfl);have key:∀ i,i<4->∃ y,xs[i]?=some y:=fun i hi=>⟨xs[i]'(by simp at h0;omega),List.getElem?_eq_getElem _⟩
 match cs,h1 with
 | [a,b,c,e],_ =>
  obtain⟨y0,e0⟩:=key 0 (by omega);obtain⟨y1,e1⟩:=key 1 (by omega);obtain⟨y2,e2⟩:=key 2 (by omega);obtain⟨y3,e3⟩:=key 3 (by omega);have f0:=(hf 0 _ rfl).trans e0;have f1:=(hf 1 _ rfl).trans e1;have f2:=(hf 2 _ rfl).trans e2;have f3:=(hf 3 _ rfl).trans e3;simp[c0,c1,c2]at f0 f1 f2 f3;obtain⟨z0,g0,_⟩:=DataW.trod_int Try.underlying3 f0;obtain⟨z1,g1,_⟩:=DataW.trod_int Try.underlying3 f1;obtain⟨v2,bs,g2,h2⟩:=open_bls f2;obtain⟨v3,m,g3,hm⟩:=open_mat34 Try.underlying40 Try.underlying34 Try.underlying3 (by kernel_rfl) (by kernel_rfl) f3;simp at g0 g1 g2 g3;subst g0 g1 g2 g3;exact⟨_,_,⟨z0,z1,bs,m⟩,rfl,h2,hm⟩
end
end Go.Proofs.Ytjfdomfendbhfaa
namespace Go.Proofs.Ytjfdomfendbhfaa
open Go.RowKit
theorem someLen_of_shaped {w:World}(h:w.ShapedOpen Try.prog):pF w:=by
 obtain⟨m,hm⟩:=Go.Proofs.cell_of_shapedOpen_int (P:=Try.prog) (w:=w) (g:=0) (t:=3) (zero:=#[.int .i64 0]) (k:=.i64) h (of_decide_eq_true (by kernel_rfl)) (by kernel_rfl) rfl (by kernel_rfl) (by kernel_rfl) Try.underlying3;exact⟨World.block_lt_of_cell? w _ hm,m,hm⟩
end Go.Proofs.Ytjfdomfendbhfaa
