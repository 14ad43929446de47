/- Part 1 of the proof: Base, BitSet, TabPlain. -/
import Derived.Test.YtdjhoadoiknaoaaDoorRows
import Derived.WalkKit
import Derived.WalkSpells
import Derived.WalkLawsBesides
import Derived.Lib.Hide
import Derived.BigQuiet
import Derived.Deep.QuietTactic
set_option linter.unusedVariables false
set_option linter.unusedSimpArgs false
namespace Go.Proofs.YtdjhoadoiknaoaaDoor
open Go.RowKit
theorem Oj {α:Type _} {a b:α} (h:some a=some b):a=b:=Option.some.inj h
theorem Ga (w:World) (o:Obj) (r:Option Nat):w.grownBy (w.alloc o) r:=World.grownBy_alloc w o r
theorem Kh {p:Prop} (h:p):Hid p:=Lib.hid h
theorem sPa (xs:List Value) (i:Nat) (x:Value):xs.toArray.setIfInBounds i x=(xs.set i x).toArray:=List.setIfInBounds_toArray ..
theorem sPb (a b:Value) (l:List Value):(a :: l).set 0 b=b :: l:=rfl
theorem sPc (a b:Value) (n:Nat) (l:List Value):(a :: l).set (n+1) b=a :: l.set n b:=rfl
theorem zT {a b:Bool} (h:a=b):Ending.returned (.bool a)=.returned (.bool b):=by rw [h]
theorem yD {k:IntKind} {a b:Int} (h:a=b):Ending.returned (.int k a)=.returned (.int k b):=by rw [h]
def RowAt (w:World) (b off:Nat) (xs:List Value):Prop:=b < w.heap.size∧∀ i (h:i < xs.length),w.cell? ⟨b,off+i,none⟩=some xs[i]
def Row (B:Nat) (w:World) (v:Value) (xs:List Value):Prop :=
 (∃ a cap,v=.slice a 0 cap∧xs=[])∨∃ b off cap,v=.slice (some ⟨b,off,none⟩) xs.length cap∧b < B∧xs.length≤cap∧cap≤maxLen∧RowAt w b off xs
theorem RowAt.kept {w w':World} {b off:Nat} {xs:List Value} {row:Option Nat} (h:RowAt w b off xs) (hg:w.grownBy w' row) (hr:row≠some b):RowAt w' b off xs :=
 ⟨Nat.lt_of_lt_of_le h.1 hg.size,fun i hi=>(World.cell?_of_block (hg.block b h.1 (fun e=>hr e.symm))).trans (h.2 i hi)⟩
theorem Row.kept {B:Nat} {w w':World} {v:Value} {xs:List Value} {row:Option Nat} (h:Row B w v xs) (hg:w.grownBy w' row) (hr:∀ k,row=some k→B≤k):Row B w' v xs:=by
 rcases h with h|⟨b,off,cap,h1,h2,h3,h4,h5⟩
 ·exact .inl h
 ·exact .inr ⟨b,off,cap,h1,h2,h3,h4,h5.kept hg (fun e=>by have:=hr b e;omega)⟩
theorem Row.mono {B B':Nat} {w:World} {v:Value} {xs:List Value} (h:Row B w v xs) (hB:B≤B'):Row B' w v xs:=by
 rcases h with h|⟨b,off,cap,h1,h2,h3⟩
 ·exact .inl h
 ·exact .inr ⟨b,off,cap,h1,by omega,h3⟩
theorem RowAt.of_heap {w w':World} {b off:Nat} {xs:List Value} (h:RowAt w b off xs) (e:w'.heap=w.heap):RowAt w' b off xs :=
 ⟨by rw [e];exact h.1,fun i hi=>(World.cell?_of_block (by rw [e])).trans (h.2 i hi)⟩
theorem Row.of_heap {B:Nat} {w w':World} {v:Value} {xs:List Value} (h:Row B w v xs) (e:w'.heap=w.heap):Row B w' v xs:=by
 rcases h with h|⟨b,off,cap,h1,h2,h3,h4,h5⟩
 ·exact .inl h
 ·exact .inr ⟨b,off,cap,h1,h2,h3,h4,h5.of_heap e⟩
theorem xJ {w a b:World} {row:Option Nat} (h:w.grownBy a row) (h1:b.os=a.os) (h2:b.tape=a.tape) (h3:b.output=a.output) (h4:b.heap=a.heap):w.grownBy b row :=
 ⟨h1.trans h.os,h2.trans h.tape,h3.trans h.output,by rw [h4];exact h.size,fun k hk hne=>by rw [h4];exact h.block k hk hne⟩
theorem zX (w:World) (row:Option Nat):w.grownBy w row:=⟨rfl,rfl,rfl,Nat.le_refl _,fun _ _ _=>rfl⟩
theorem zJ (w:World) (n:Nat) (row:Option Nat):w.grownBy (w.drewN n) row:=⟨rfl,rfl,rfl,Nat.le_refl _,fun _ _ _=>rfl⟩
theorem zU (w:World) (row:Option Nat):w.grownBy w.drew row:=⟨rfl,rfl,rfl,Nat.le_refl _,fun _ _ _=>rfl⟩
theorem grownBy_trans {a b c:World} {r s row:Option Nat} (h:a.grownBy b r) (k:b.grownBy c s) (hr:r=none∨r=row∨∃ x,r=some x∧a.heap.size≤x) (hs:s=none∨s=row∨∃ x,s=some x∧a.heap.size≤x):a.grownBy c row:=by
 refine ⟨k.os.trans h.os,k.tape.trans h.tape,k.output.trans h.output,Nat.le_trans h.size k.size,fun i hi hne=>?_⟩
 refine (k.block i (Nat.lt_of_lt_of_le hi h.size) ?_).trans (h.block i hi ?_)
 ·rcases hs with rfl|rfl|⟨x,rfl,hx⟩
  ·simp
  ·exact hne
  ·simp;omega
 ·rcases hr with rfl|rfl|⟨x,rfl,hx⟩
  ·simp
  ·exact hne
  ·simp;omega
theorem zG {a b c:World} {row:Option Nat} (h:a.grownBy b row) (k:b.grownBy c row):a.grownBy c row:=grownBy_trans h k (.inr (.inl rfl)) (.inr (.inl rfl))
theorem zH (w:World) (p:Addr) (u:Value):w.grownBy (w.setCell p u) (some p.block) :=
 ⟨rfl,rfl,rfl,by simp [World.setCell],fun k _ hk=>Below.heap_setCell _ _ _ _ (fun e=>hk (by rw [e]))⟩
theorem xZ {a b:World} {row:Option Nat} (h:a.grownBy b none):a.grownBy b row :=
 ⟨h.os,h.tape,h.output,h.size,fun k hk _=>h.block k hk (by simp)⟩
theorem below_of_grown {a b:World} (h:a.grownBy b none):Below a.heap.size a b:=⟨h.os,h.tape,h.output,h.size,fun k hk=>h.block k hk (by simp)⟩
theorem grown_of_below {a b:World} {row:Option Nat} (h:Below a.heap.size a b):a.grownBy b row:=⟨h.os,h.tape,h.output,h.size,fun k hk _=>h.block k hk⟩
section
variable {P:Program} {f:FuncId} {args:Array Value} {w:World} {a n:Nat} {v:Value}
theorem wF (h:Calls P f args (w.drewN n) fun e w'=>e=.returned v∧w.drewN n=w'):Calls P f args (w.drewN n) fun e w''=>e=.returned v∧∃ m,w''=w.drewN m :=
 h.mono fun _ _ ⟨he,hm⟩=>⟨he,n,hm.symm⟩
theorem quiet_add_left (h:Calls P f args (w.drewN (a+n)) fun e w'=>e=.returned v∧w.drewN (a+n)=w') :
  Calls P f args (w.drewN (a+n)) fun e w''=>e=.returned v∧∃ m,w''=w.drewN (a+m) :=
 h.mono fun _ _ ⟨he,hm⟩=>⟨he,n,hm.symm⟩
end
structure ElemOk (P:Program) (t e:TypeId) (z:Value) (bytes:Nat):Prop where
 ht:P.underlying t=some (.slice e)
 hi:(P.info? e).map (fun i=>(i.zero,i.size,i.bytes))=some (some z,1,bytes)
 hz:z.cells.size=1
theorem tX {w:World} {base e size:Nat} {v:Value} {n:Nat} {xs:List Value} (h:w.ownsRow base e size v n xs):∃ sa sc,v=.slice sa n sc:=by
 rcases h.2 with ⟨rfl,rfl⟩|⟨g,cap,cur,rfl,_⟩
 ·exact ⟨none,0,rfl⟩
 ·exact ⟨_,_,rfl⟩
theorem zQ {w:World} {b:Nat} {o:Obj} (h:w.heap[b]?=some o):b < w.heap.size:=(Array.getElem?_eq_some_iff.1 h).1
theorem app1 {P:Program} {w:World} {ops:Array Oper} {rest:List Oper} {o:Oper} {a:Act} {Q:Exit→Act→World→Prop} (hgd:o.guard=none) (s x:Operand) (t:TypeId)
  (ho:o.op=.call { callee:=.builtin .append,args:=#[s,x],argTypes:=#[t,t] })
  {e:TypeId} {z:Value} {bytes:Nat} (E:ElemOk P t e z bytes) (base:Nat) (v:Value) (n:Nat) (xs:List Value) (hs:a.eval s=v) (hown:w.ownsRow base e 1 v n xs)
  (u:Value) (hx:a.eval x=.slice (some ⟨w.heap.size,0,none⟩) 1 1) (h1:u.oneCell'=true) (h63:n+1≤maxLen) (hbytes:(n+1) * bytes≤140737488355328) (hbase:base≤w.heap.size)
  (h:∀ sa sc w',w'.ownsRow base e 1 (.slice sa (n+1) sc) (n+1) (xs ++ [u])→w.grownBy w' v.ownBlock→w.heap.size < w'.heap.size→wpList P ops Q rest (a.put o.dst (.slice sa (n+1) sc)) w') :
  wpList P ops Q (o :: rest) a (w.alloc (.cells #[u] e)):=by
 obtain ⟨i,hi,hz,hsz,hby⟩:=info_parts E.hi
 refine wpList_append_own _ hgd s x t ho base e i z 1 bytes E.ht hi hz hsz hby E.hz (by decide) v n xs hs (hown.alloc _) ⟨w.heap.size,0,none⟩ 1 1 [u] hx rfl ?_ ?_ h63 hbytes (by simp;omega) ?_
 ·intro j u' hj
  match j,hj with
  | 0,hj=>simp at hj;subst hj;simp [Addr.add]
 ·intro u' hu;simp at hu;subst hu;exact h1
 ·intro v' w' h1 h2 _
  obtain ⟨sa,sc,rfl⟩:=tX h1
  refine h sa sc w' h1 ?_ (by have:=h2.size;simp at this;omega)
  refine ⟨h2.os,h2.tape,h2.output,by have:=h2.size;simp at this;omega,fun k hk hne=>(h2.block k (by simp;omega) hne).trans ?_⟩
  exact Below.heap_alloc w _ k hk
theorem Row.of_owns {w:World} {base e:Nat} {v:Value} {n:Nat} {xs:List Value} (h:w.ownsRow base e 1 v n xs):Row w.heap.size w v xs:=by
 have hl:xs.length=n:=by have:=h.1;omega
 rcases h.2 with ⟨rfl,rfl⟩|⟨g,cap,cur,rfl,hb,hg,hnc,hcm,hcs,htake⟩
 ·exact .inl ⟨_,_,rfl,List.eq_nil_of_length_eq_zero hl⟩
 ·have hlt:=(Array.getElem?_eq_some_iff.1 hg).1
  refine .inr ⟨g,0,cap,by rw [hl],hlt,by omega,hcm,hlt,fun i hi=>?_⟩
  rw [Nat.zero_add,h.cellAt i (by omega),List.getElem?_eq_getElem hi]
theorem yB {w w':World} {base e:Nat} {v:Value} {n:Nat} {xs:List Value} {row:Option Nat} (h:w.ownsRow base e 1 v n xs) (hg:w.grownBy w' row) (hr:∀ k,row=some k→k < base):w'.ownsRow base e 1 v n xs:=by
 refine h.kept hg ?_
 rcases hv:v.ownBlock with _|k
 ·exact .inl rfl
 ·refine .inr fun e=>?_
  have:=hr k e.symm
  have:=(h.lt k hv).1
  omega
theorem zS {w:World} {base e size:Nat} {v:Value} {n:Nat} {xs:List Value} {pb e':Nat} {c:Array Value} {m:Nat × Nat} (h:w.ownsRow base e size v n xs) (hp:w.heap[pb]?=some (.cells c e' m)) (hne:e≠e'):v.ownBlock≠some pb:=by
 rcases h.2 with ⟨rfl,_⟩|⟨g,cap,cur,rfl,_,hg,_⟩
 ·simp [Value.ownBlock]
 ·intro hv
  simp [Value.ownBlock] at hv
  subst hv
  rw [hg] at hp
  simp at hp
  exact hne hp.2.1
theorem zE {w w':World} {row:Option Nat} {pb:Nat} {o:Obj} (h:w.heap[pb]?=some o) (hg:w.grownBy w' row) (hr:row≠some pb):w'.heap[pb]?=some o :=
 (hg.block pb (Array.getElem?_eq_some_iff.1 h).1 (fun e=>hr e.symm)).trans h
theorem zI {w:World} {pb e:Nat} {c:Array Value} {m:Nat × Nat} (h:w.heap[pb]?=some (.cells c e m)) (i:Nat) (hi:i < c.size):w.cell? ⟨pb,i,none⟩=some c[i]:=by
 rw [cell_of_row w pb i _ _ _ h];simp [hi]
theorem zD {w:World} {pb e:Nat} {c:Array Value} (h:w.heap[pb]?=some (.cells c e (0,0))) (i:Nat):w.frozen? ⟨pb,i,none⟩=false:=frozen_of_row w pb i _ _ h
theorem zO (w:World) (o:Obj):(w.alloc o).heap.size=w.heap.size+1:=by simp
theorem xG {w a:World} {row:Option Nat} (h:w.grownBy a row) (o:Obj):w.grownBy (a.alloc o) row:=zG h (Ga a o row)
theorem zF {w a b:World} {row s:Option Nat} (h:w.grownBy a row) (k:a.grownBy b s) (hs:∀ x,s=some x→w.heap.size≤x):w.grownBy b row :=
 grownBy_trans h k (.inr (.inl rfl)) (by
  rcases s with _|x
  ·exact .inl rfl
  ·exact .inr (.inr ⟨x,rfl,hs x rfl⟩))
theorem RowAt.map {α:Type} {f:α→Value} {w:World} {b off:Nat} {xs:List α} (h:RowAt w b off (xs.map f)) (i:Nat) (hi:i < xs.length):w.cell? ⟨b,off+i,none⟩=some (f xs[i]):=by
 rw [h.2 i (by simpa using hi),List.getElem_map]
def Arr (w:World) (g:Nat) (e:TypeId) (xs:List Value):Prop:=∃ cur rest,w.heap[g]?=some (.cells cur e (0,0))∧cur.toList=xs ++ rest
theorem Arr.lt {w:World} {g:Nat} {e:TypeId} {xs:List Value} (h:Arr w g e xs):g < w.heap.size:=by
 obtain ⟨_,_,h,_⟩:=h
 exact zQ h
theorem Arr.cell {w:World} {g:Nat} {e:TypeId} {xs:List Value} (h:Arr w g e xs) (i:Nat) (hi:i < xs.length):w.cell? ⟨g,i,none⟩=some xs[i]:=by
 obtain ⟨cur,rest,h,hc⟩:=h
 rw [cell_of_row w g i _ _ _ h,← Array.getElem?_toList,hc,List.getElem?_append_left hi,List.getElem?_eq_getElem hi]
theorem Arr.frozen {w:World} {g:Nat} {e:TypeId} {xs:List Value} (h:Arr w g e xs) (i:Nat):w.frozen? ⟨g,i,none⟩=false:=by
 obtain ⟨cur,rest,h,hc⟩:=h
 exact frozen_of_row w g i _ _ h
theorem Arr.set {w:World} {g:Nat} {e:TypeId} {xs:List Value} (h:Arr w g e xs) (i:Nat) (hi:i < xs.length) (u:Value):Arr (w.setCell ⟨g,i,none⟩ u) g e (xs.set i u):=by
 obtain ⟨cur,rest,h,hc⟩:=h
 refine ⟨cur.setIfInBounds i u,rest,heap_setCell_same w g i _ _ _ h,?_⟩
 rw [Array.toList_setIfInBounds,hc,List.set_append_left _ _ hi]
theorem Arr.kept {w w':World} {g:Nat} {e:TypeId} {xs:List Value} {row:Option Nat} (h:Arr w g e xs) (hg:w.grownBy w' row) (hr:row≠some g):Arr w' g e xs:=by
 obtain ⟨cur,rest,h,hc⟩:=h
 exact ⟨cur,rest,zE h hg hr,hc⟩
theorem Arr.of_heap {w w':World} {g:Nat} {e:TypeId} {xs:List Value} (h:Arr w g e xs) (he:w'.heap=w.heap):Arr w' g e xs:=by
 obtain ⟨cur,rest,h,hc⟩:=h
 exact ⟨cur,rest,by rw [he];exact h,hc⟩
theorem Arr.of_owns {w:World} {base g n cap:Nat} {e:TypeId} {xs:List Value} (h:w.ownsRow base e 1 (.slice (some ⟨g,0,none⟩) n cap) n xs):Arr w g e xs:=by
 rcases h.2 with ⟨h',_⟩|⟨g',cap',cur,h',hb,hg,hnc,hcm,hcs,htake⟩
 ·simp at h'
 ·simp only [Value.slice.injEq,Option.some.injEq,Addr.mk.injEq,and_true,true_and] at h'
  obtain ⟨rfl,rfl⟩:=h'
  refine ⟨cur,cur.toList.drop n,hg,?_⟩
  rw [Nat.mul_one] at htake
  rw [← htake,List.take_append_drop]
theorem Arr.row {w:World} {g:Nat} {e:TypeId} {xs:List Value} (h:Arr w g e xs):RowAt w g 0 xs:=⟨h.lt,fun i hi=>by rw [Nat.zero_add];exact h.cell i hi⟩
theorem Arr.new (w:World) (e:TypeId) (cs:Array Value):Arr (w.alloc (.cells cs e)) w.heap.size e cs.toList:=⟨cs,[],heap_alloc_new w _,by simp⟩
theorem Arr.front {w:World} {g:Nat} {e:TypeId} {xs ys:List Value} (h:Arr w g e (xs ++ ys)):Arr w g e xs:=by
 obtain ⟨cur,rest,h,hc⟩:=h
 exact ⟨cur,ys ++ rest,h,by rw [hc,List.append_assoc]⟩
theorem Arr.type_ne {w:World} {g g':Nat} {e e':TypeId} {xs:List Value} {c:Array Value} {m:Nat × Nat} (h:Arr w g e xs) (hp:w.heap[g']?=some (.cells c e' m)) (hne:e≠e'):g≠g':=by
 obtain ⟨cur,rest,h,hc⟩:=h
 rintro rfl
 rw [h] at hp
 simp at hp
 exact hne hp.2.1
theorem Row.of_arg {k:IntKind} {w:World} {a:Option Addr} {len cap:Nat} {zs:List Int}
  (h:(a=none∧len=0∧cap=0∧zs=[])∨∃ x,a=some x∧len≤cap∧cap≤maxLen∧zs.length=cap∧(∀ i,i < zs.length→w.cell? (x.add i)=some (.int k (zs.getD i 0)))∧∀ n∈zs,(Lit.int k n).wf=true) :
  Row w.heap.size w (.slice a len cap) ((zs.take len).map (Value.int k)):=by
 rcases h with ⟨rfl,rfl,rfl,rfl⟩|⟨x,rfl,h1,h2,h3,h4,_⟩
 ·exact .inl ⟨_,_,rfl,rfl⟩
 ·by_cases hl:len=0
  ·subst hl
   exact .inl ⟨_,_,rfl,by simp⟩
  ·obtain ⟨b,off,spot⟩:=x
   have hc:=h4 0 (by omega)
   have hspot:spot=none:=by simpa [Addr.add] using World.cell?_spot hc
   subst hspot
   have hadd:∀ i,(⟨b,off,none⟩:Addr).add i=⟨b,off+i,none⟩:=fun i=>by unfold Addr.add;split <;> simp_all
   have hb:b < w.heap.size:=by rw [hadd] at hc;exact World.block_lt_of_cell? w _ hc
   have hlen:((zs.take len).map (Value.int k)).length=len:=by simp;omega
   refine .inr ⟨b,off,cap,by rw [hlen],hb,by rw [hlen];exact h1,h2,hb,fun i hi=>?_⟩
   rw [hlen] at hi
   have:=h4 i (by omega)
   rw [hadd] at this
   rw [this]
   simp [List.getD,List.getElem?_eq_getElem (show i < zs.length by omega)]
end Go.Proofs.YtdjhoadoiknaoaaDoor
namespace Go.Proofs.YtdjhoadoiknaoaaDoor
theorem xY (x z:Nat):(1 <<< x).testBit z=decide (x=z):=by
 rw [Nat.one_shiftLeft,Nat.testBit_two_pow]
theorem lt_of_bits {a n:Nat} (h:∀ z,n≤z→a.testBit z=false):a < 2 ^ n:=by
 rcases Nat.lt_or_ge a (2 ^ n) with h1|h1
 ·exact h1
 ·obtain ⟨z,hz,ht⟩:=Nat.exists_ge_and_testBit_of_ge_two_pow h1
  rw [h z hz] at ht;cases ht
theorem lG {a n z:Nat} (h:a < 2 ^ n) (hz:n≤z):a.testBit z=false :=
 Nat.testBit_lt_two_pow (Nat.lt_of_lt_of_le h (Nat.pow_le_pow_right (by omega) hz))
def jT:List Nat→Nat
 | []=>0
 | x :: l=>1 <<< x ||| jT l
theorem ofList_bit (l:List Nat) (z:Nat):(jT l).testBit z=decide (z∈l):=by
 induction l with
 | nil=>simp [jT]
 | cons x l ih =>
  rw [jT,Nat.testBit_or,xY,ih]
  by_cases h:x=z
  ·simp [h]
  ·have h':¬ z=x:=fun e=>h e.symm
   simp [h,h']
def elems (n a:Nat):List Nat:=(List.range n).filter fun x=>a.testBit x
theorem mJ {n a x:Nat}:x∈elems n a ↔ x < n∧a.testBit x=true:=by simp [elems]
def zP (n:Nat) (tb:Nat→Nat→Nat) (a b:Nat):Nat:=jT ((elems n a).flatMap fun x=>(elems n b).map fun y=>tb x y)
theorem xD (n:Nat) (tb:Nat→Nat→Nat) (a b z:Nat):(zP n tb a b).testBit z=true ↔ ∃ x y,x < n∧y < n∧a.testBit x=true∧b.testBit y=true∧tb x y=z:=by
 rw [zP,ofList_bit,decide_eq_true_iff,List.mem_flatMap]
 constructor
 ·rintro ⟨x,hx,h⟩
  obtain ⟨y,hy,rfl⟩:=List.mem_map.1 h
  obtain ⟨h1,h2⟩:=mJ.1 hx
  obtain ⟨h3,h4⟩:=mJ.1 hy
  exact ⟨x,y,h1,h3,h2,h4,rfl⟩
 ·rintro ⟨x,y,h1,h3,h2,h4,rfl⟩
  exact ⟨x,mJ.2 ⟨h1,h2⟩,List.mem_map.2 ⟨y,mJ.2 ⟨h3,h4⟩,rfl⟩⟩
theorem lB {n:Nat} {tb:Nat→Nat→Nat} {a b c:Nat} (h:∀ z,c.testBit z=true ↔ ∃ x y,x < n∧y < n∧a.testBit x=true∧b.testBit y=true∧tb x y=z):c=zP n tb a b:=by
 apply Nat.eq_of_testBit_eq
 intro z
 rw [Bool.eq_iff_iff,h z,xD]
structure Tb (n:Nat) (tb:Nat→Nat→Nat):Prop where
 lt:∀ x y,x < n→y < n→tb x y < n
 assoc:∀ x y z,x < n→y < n→z < n→tb (tb x y) z=tb x (tb y z)
section
variable {n:Nat} {tb:Nat→Nat→Nat}
theorem xU (h:∀ x y,x < n→y < n→tb x y < n) (a b:Nat):zP n tb a b < 2 ^ n:=by
 refine lt_of_bits fun z hz=>?_
 rw [← Bool.not_eq_true]
 intro hb
 obtain ⟨x,y,hx,hy,_,_,e⟩:=(xD n tb a b z).1 hb
 have:=h x y hx hy
 omega
theorem prodSet_assoc (h:Tb n tb) (a b c:Nat):zP n tb (zP n tb a b) c=zP n tb a (zP n tb b c):=by
 apply Nat.eq_of_testBit_eq
 intro z
 rw [Bool.eq_iff_iff,xD,xD]
 constructor
 ·rintro ⟨x,y,hx,hy,h1,h2,rfl⟩
  obtain ⟨u,v,hu,hv,h3,h4,rfl⟩:=(xD _ _ _ _ _).1 h1
  exact ⟨u,tb v y,hu,h.lt _ _ hv hy,h3,(xD _ _ _ _ _).2 ⟨v,y,hv,hy,h4,h2,rfl⟩,(h.assoc u v y hu hv hy).symm⟩
 ·rintro ⟨x,y,hx,hy,h1,h2,rfl⟩
  obtain ⟨u,v,hu,hv,h3,h4,rfl⟩:=(xD _ _ _ _ _).1 h2
  exact ⟨tb x u,v,h.lt _ _ hx hu,hv,(xD _ _ _ _ _).2 ⟨x,u,hx,hu,h1,h3,rfl⟩,h4,h.assoc x u v hx hu hv⟩
def yY (n:Nat) (tb:Nat→Nat→Nat) (a:Nat):Nat→Nat
 | 0=>a
 | k+1=>zP n tb (yY n tb a k) a
theorem powSet_lt (h:Tb n tb) {a:Nat} (ha:a < 2 ^ n) (k:Nat):yY n tb a k < 2 ^ n:=by
 cases k with
 | zero=>exact ha
 | succ k=>exact xU h.lt _ _
theorem powSet_add (h:Tb n tb) (a i j:Nat):zP n tb (yY n tb a i) (yY n tb a j)=yY n tb a (i+j+1):=by
 induction j with
 | zero=>rfl
 | succ j ih =>
  show zP n tb (yY n tb a i) (zP n tb (yY n tb a j) a)=_
  rw [← prodSet_assoc h,ih];rfl
end
theorem iV:∀ (N:Nat) (f:Nat→Nat),(∀ i,i≤N→f i < N)→∃ i j,i < j∧j≤N∧f i=f j
 | 0,f,h=>by have:=h 0 (Nat.le_refl _);omega
 | N+1,f,h=>by
  -- the value of the last one is taken out; where it stands, N stands in its place
  by_cases hex:∃ i,i≤N∧f i=f (N+1)
  ·obtain ⟨i,hi,e⟩:=hex
   exact ⟨i,N+1,by omega,Nat.le_refl _,e⟩
  ·have hne:∀ i,i≤N→f i≠f (N+1):=fun i hi e=>hex ⟨i,hi,e⟩
   obtain ⟨i,j,hij,hj,e⟩:=iV N (fun i=>if f i=N then f (N+1) else f i) (fun i hi=>by
    have h1:=h i (by omega)
    have h2:=h (N+1) (Nat.le_refl _)
    have h3:=hne i hi
    split <;> omega)
   refine ⟨i,j,hij,by omega,?_⟩
   have h1:=hne i (by omega)
   have h2:=hne j hj
   split at e <;> split at e <;> omega
section
variable {n:Nat} {tb:Nat→Nat→Nat}
theorem powSet_shift (a i j:Nat) (e:yY n tb a i=yY n tb a j) (m:Nat):yY n tb a (i+m)=yY n tb a (j+m):=by
 induction m with
 | zero=>exact e
 | succ m ih=>show zP n tb (yY n tb a (i+m)) a=zP n tb (yY n tb a (j+m)) a;rw [ih]
theorem powSet_period (a i d:Nat) (e:yY n tb a i=yY n tb a (i+d)) (m k:Nat):yY n tb a (i+m)=yY n tb a (i+m+k * d):=by
 induction k with
 | zero=>simp
 | succ k ih =>
  rw [ih]
  have:=powSet_shift a i (i+d) e (m+k * d)
  rw [show i+m+k * d=i+(m+k * d) by omega,this,Nat.succ_mul]
  congr 1;omega
theorem powSet_idem (h:Tb n tb) {a:Nat} (ha:a < 2 ^ n):∃ m,m < 2 ^ n * 2 ^ n+2 ^ n∧zP n tb (yY n tb a m) (yY n tb a m)=yY n tb a m:=by
 obtain ⟨i,j,hij,hj,e⟩:=iV (2 ^ n) (yY n tb a) (fun k _=>powSet_lt h ha k)
 obtain ⟨d,rfl⟩:∃ d,j=i+d:=⟨j - i,by omega⟩
 have hd:0 < d:=by omega
 -- exponent (m + 1) a multiple of d, m not below i
 refine ⟨(i+1) * d - 1,?_,?_⟩
 ·have h1:(i+1) * d≤2 ^ n * 2 ^ n:=Nat.mul_le_mul (by omega) (by omega)
  have:0 < 2 ^ n:=Nat.two_pow_pos n
  omega
 ·have h2:i+1≤(i+1) * d:=Nat.le_mul_of_pos_right _ hd
  rw [powSet_add h]
  have e1:(i+1) * d - 1=i+((i+1) * d - 1 - i):=by omega
  have:=powSet_period a i d e ((i+1) * d - 1 - i) (i+1)
  rw [← e1] at this
  rw [this]
  congr 1
  omega
end
def rD (n:Nat) (tb:Nat→Nat→Nat) (a:Nat):Nat→Nat→Nat
 | 0,x=>x ||| zP n tb x a
 | k+1,x=>if zP n tb x x=x then x ||| zP n tb x a else rD n tb a k (zP n tb x a)
def yC (n:Nat) (tb:Nat→Nat→Nat) (a:Nat):Nat:=rD n tb a (2 ^ n * 2 ^ n+2 ^ n) a
section
variable {n:Nat} {tb:Nat→Nat→Nat}
theorem oF {a k x:Nat} (h:zP n tb x x≠x):rD n tb a (k+1) x=rD n tb a k (zP n tb x a):=by rw [rD,if_neg h]
theorem oE {a k x:Nat} (h:zP n tb x x=x):rD n tb a k x=x ||| zP n tb x a:=by
 cases k with
 | zero=>rfl
 | succ k=>rw [rD,if_pos h]
def Ends (n:Nat) (tb:Nat→Nat→Nat) (a k x:Nat):Prop:=∃ i m,x=yY n tb a i∧m≤k∧zP n tb (yY n tb a (i+m)) (yY n tb a (i+m))=yY n tb a (i+m)
theorem lD (h:Tb n tb) {a:Nat} (ha:a < 2 ^ n):Ends n tb a (2 ^ n * 2 ^ n+2 ^ n) a:=by
 obtain ⟨m,hm,e⟩:=powSet_idem h ha
 exact ⟨0,m,rfl,by omega,by rw [Nat.zero_add];exact e⟩
theorem kO {a k x:Nat} (h:Ends n tb a k x) (hne:zP n tb x x≠x):∃ j,k=j+1∧Ends n tb a j (zP n tb x a):=by
 obtain ⟨i,m,rfl,hm,e⟩:=h
 obtain ⟨m',rfl⟩:∃ m',m=m'+1:=⟨m - 1,by
  rcases Nat.eq_zero_or_pos m with h0|h0
  ·subst h0;exact absurd e hne
  ·omega⟩
 exact ⟨k - 1,by omega,i+1,m',rfl,by omega,by rw [show i+1+m'=i+(m'+1) by omega];exact e⟩
theorem or_lt {a b n:Nat} (ha:a < 2 ^ n) (hb:b < 2 ^ n):a ||| b < 2 ^ n:=Nat.or_lt_two_pow ha hb
theorem omegaGo_lt (h:Tb n tb) {a:Nat} (ha:a < 2 ^ n):∀ (k x:Nat),x < 2 ^ n→rD n tb a k x < 2 ^ n
 | 0,x,hx=>or_lt hx (xU h.lt _ _)
 | k+1,x,hx=>by
  rw [rD]
  split
  ·exact or_lt hx (xU h.lt _ _)
  ·exact omegaGo_lt h ha k _ (xU h.lt _ _)
theorem vO (h:Tb n tb) {a:Nat} (ha:a < 2 ^ n):yC n tb a < 2 ^ n:=omegaGo_lt h ha _ _ ha
end
end Go.Proofs.YtdjhoadoiknaoaaDoor
namespace Go.Proofs.YtdjhoadoiknaoaaDoor
def ent (t:List (List Int)) (x y:Nat):Int:=(t.getD x []).getD y 0
def entN (t:List (List Int)) (x y:Nat):Nat:=(ent t x y).toNat
def rowOk (n:Nat) (r:List Int):Bool:=decide (r.length=n) && r.all fun x=>decide (0≤x∧x < n)
def uF (t:List (List Int)):Int:=if 400 < t.length then 3 else if t.length=0 then 4 else if t.all (rowOk t.length) then 0 else 4
structure Shape (t:List (List Int)):Prop where
 pos:0 < t.length
 le:t.length≤400
 row:∀ x,x < t.length→(t.getD x []).length=t.length
 lo:∀ x y,x < t.length→y < t.length→0≤ent t x y
 hi:∀ x y,x < t.length→y < t.length→ent t x y < t.length
theorem rX {n:Nat} {r:List Int}:rowOk n r=true ↔ r.length=n∧∀ y,y < r.length→0≤r.getD y 0∧r.getD y 0 < n:=by
 simp only [rowOk,Bool.and_eq_true,decide_eq_true_eq,List.all_eq_true]
 refine and_congr_right fun _=>⟨fun h y hy=>?_,fun h x hx=>?_⟩
 ·have:=h (r[y]) (List.getElem_mem hy)
  simpa [List.getD,List.getElem?_eq_getElem hy] using this
 ·obtain ⟨y,hy,rfl⟩:=List.getElem_of_mem hx
  have:=h y hy
  simpa [List.getD,List.getElem?_eq_getElem hy] using this
theorem jB {t:List (List Int)} (h:uF t=0):Shape t:=by
 unfold uF at h
 split at h
 ·omega
 split at h
 ·omega
 split at h
 ·rename_i h1 h2 h3
  rw [List.all_eq_true] at h3
  have hr:∀ x,x < t.length→rowOk t.length (t.getD x [])=true:=fun x hx=>by
   have:=h3 t[x] (List.getElem_mem hx)
   simpa [List.getD,List.getElem?_eq_getElem hx] using this
  refine ⟨by omega,by omega,fun x hx=>(rX.1 (hr x hx)).1,fun x y hx hy=>?_,fun x y hx hy=>?_⟩
  ·obtain ⟨e,h⟩:=rX.1 (hr x hx)
   exact (h y (by omega)).1
  ·obtain ⟨e,h⟩:=rX.1 (hr x hx)
   exact (h y (by omega)).2
 ·omega
theorem entN_cast {t:List (List Int)} (h:Shape t) {x y:Nat} (hx:x < t.length) (hy:y < t.length):(entN t x y:Int)=ent t x y:=Int.toNat_of_nonneg (h.lo x y hx hy)
theorem uD {t:List (List Int)} (h:Shape t) {x y:Nat} (hx:x < t.length) (hy:y < t.length):entN t x y < t.length:=by
 have h1:=entN_cast h hx hy
 have h2:=h.hi x y hx hy
 omega
def pO (t:List (List Int)) (g:Nat):Prop:=∀ x y,x < t.length→y < t.length→entN t (entN t x g) y=entN t x (entN t g y)
def Assoc (t:List (List Int)):Prop:=∀ g,g < t.length→pO t g
open Classical in
noncomputable def xK (t:List (List Int)):Int:=if uF t≠0 then uF t else if Assoc t then 0 else 5
theorem pW {t:List (List Int)} (h:uF t≠0):xK t=uF t:=by rw [xK,if_pos h]
theorem sO {t:List (List Int)} (h:uF t=0) (ha:Assoc t):xK t=0:=by rw [xK,if_neg (by omega),if_pos ha]
theorem mP {t:List (List Int)} (h:uF t=0) (ha:¬ Assoc t):xK t=5:=by rw [xK,if_neg (by omega),if_neg ha]
theorem uE {t:List (List Int)} (h:xK t=0):Shape t∧Assoc t:=by
 by_cases hs:uF t=0
 ·by_cases ha:Assoc t
  ·exact ⟨jB hs,ha⟩
  ·rw [mP hs ha] at h;omega
 ·rw [pW hs] at h;exact absurd h hs
theorem tb_of {t:List (List Int)} (h:xK t=0):Tb t.length (entN t):=by
 obtain ⟨hs,ha⟩:=uE h
 exact ⟨fun x y hx hy=>uD hs hx hy,fun x y z hx hy hz=>ha y hy x z hx hz⟩
inductive Gen (t:List (List Int)) (gs:List Nat):Nat→Prop where
 | base (g:Nat):g∈gs→Gen t gs g
 | mul (x y:Nat):Gen t gs x→Gen t gs y→Gen t gs (entN t x y)
theorem Gen.mono {t:List (List Int)} {gs hs:List Nat} (h:∀ g∈gs,g∈hs) {x:Nat} (hx:Gen t gs x):Gen t hs x:=by
 induction hx with
 | base g hg=>exact .base g (h g hg)
 | mul x y _ _ h1 h2=>exact .mul x y h1 h2
theorem light_gen {t:List (List Int)} (hs:Shape t) {gs:List Nat} (hg:∀ g∈gs,g < t.length∧pO t g) {x:Nat} (hx:Gen t gs x):x < t.length∧pO t x:=by
 induction hx with
 | base g h=>exact hg g h
 | mul g h _ _ h1 h2 =>
  obtain ⟨hg,lg⟩:=h1
  obtain ⟨hh,lh⟩:=h2
  refine ⟨uD hs hg hh,fun x y hx hy=>?_⟩
  have e1:=lg x h hx hh
  have e2:=lh (entN t x g) y (uD hs hx hg) hy
  have e3:=lg x (entN t h y) hx (uD hs hh hy)
  have e4:=lh g y hg hy
  rw [← e1,e2,e3,e4]
theorem assoc_of_light {t:List (List Int)} (hs:Shape t) {gs:List Nat} (hall:∀ x,x < t.length→Gen t gs x) (hg:∀ g∈gs,g < t.length∧pO t g):Assoc t :=
 fun x hx=>(light_gen hs hg (hall x hx)).2
end Go.Proofs.YtdjhoadoiknaoaaDoor
