/- Part 1 of the proof: Base, BitSet, TabPlain, Mat, Make, AppR, TRows, Byte1, Guard. -/
import Derived.Test.YtdjhoadoiknaoaaDoorRows
import Derived.WalkKit
import Derived.WalkSpells
import Derived.WalkLawsBesides
import Derived.Lib.Hide
import Derived.BigQuiet
import Derived.Deep.QuietTactic
import Derived.Deep.LoopGhost
import Derived.OwnWalk
import Derived.ArgAppend
import Derived.Deep.RegionHeld3
import Derived.Deep.DrawnRows
import Derived.OrdersHeld
set_option linter.unusedVariables false
set_option linter.unusedSimpArgs false
namespace Go.Proofs.YtdjhoadoiknaoaaDoor
open Go.RowKit
theorem Oj {α:Type _} {a b:α} (h:some a=some b):a=b:=Option.some.inj h
theorem Ga (w:World) (o:Obj) (r:Option Nat):w.grownBy (w.alloc o) r:=World.grownBy_alloc w o r
theorem Kh {p:Prop} (h:p):Hid p:=Lib.hid h
theorem sPa (xs:List Value) (i:Nat) (x:Value):xs.toArray.setIfInBounds i x=(xs.set i x).toArray:=List.setIfInBounds_toArray ..
theorem sPb (a b:Value) (l:List Value):(a :: l).set 0 b=b :: l:=rfl
theorem sPc (a b:Value) (n:Nat) (l:List Value):(a :: l).set (n+1) b=a :: l.set n b:=rfl
theorem zZ {a b:Bool} (h:a=b):Ending.returned (.bool a)=.returned (.bool b):=by rw [h]
theorem yH {k:IntKind} {a b:Int} (h:a=b):Ending.returned (.int k a)=.returned (.int k b):=by rw [h]
def uD (w:World) (b off:Nat) (xs:List Value):Prop:=b < w.heap.size∧∀ i (h:i < xs.length),w.cell? ⟨b,off+i,none⟩=some xs[i]
def Row (B:Nat) (w:World) (v:Value) (xs:List Value):Prop :=
 (∃ a cap,v=.slice a 0 cap∧xs=[])∨∃ b off cap,v=.slice (some ⟨b,off,none⟩) xs.length cap∧b < B∧xs.length≤cap∧cap≤maxLen∧uD w b off xs
theorem uD.kept {w w':World} {b off:Nat} {xs:List Value} {row:Option Nat} (h:uD w b off xs) (hg:w.grownBy w' row) (hr:row≠some b):uD w' b off xs :=
 ⟨Nat.lt_of_lt_of_le h.1 hg.size,fun i hi=>(World.cell?_of_block (hg.block b h.1 (fun e=>hr e.symm))).trans (h.2 i hi)⟩
theorem Row.kept {B:Nat} {w w':World} {v:Value} {xs:List Value} {row:Option Nat} (h:Row B w v xs) (hg:w.grownBy w' row) (hr:∀ k,row=some k→B≤k):Row B w' v xs:=by
 rcases h with h|⟨b,off,cap,h1,h2,h3,h4,h5⟩
 ·exact .inl h
 ·exact .inr ⟨b,off,cap,h1,h2,h3,h4,h5.kept hg (fun e=>by have:=hr b e;omega)⟩
theorem Row.mono {B B':Nat} {w:World} {v:Value} {xs:List Value} (h:Row B w v xs) (hB:B≤B'):Row B' w v xs:=by
 rcases h with h|⟨b,off,cap,h1,h2,h3⟩
 ·exact .inl h
 ·exact .inr ⟨b,off,cap,h1,by omega,h3⟩
theorem uD.of_heap {w w':World} {b off:Nat} {xs:List Value} (h:uD w b off xs) (e:w'.heap=w.heap):uD w' b off xs :=
 ⟨by rw [e];exact h.1,fun i hi=>(World.cell?_of_block (by rw [e])).trans (h.2 i hi)⟩
theorem Row.of_heap {B:Nat} {w w':World} {v:Value} {xs:List Value} (h:Row B w v xs) (e:w'.heap=w.heap):Row B w' v xs:=by
 rcases h with h|⟨b,off,cap,h1,h2,h3,h4,h5⟩
 ·exact .inl h
 ·exact .inr ⟨b,off,cap,h1,h2,h3,h4,h5.of_heap e⟩
theorem zP {w a b:World} {row:Option Nat} (h:w.grownBy a row) (h1:b.os=a.os) (h2:b.tape=a.tape) (h3:b.output=a.output) (h4:b.heap=a.heap):w.grownBy b row :=
 ⟨h1.trans h.os,h2.trans h.tape,h3.trans h.output,by rw [h4];exact h.size,fun k hk hne=>by rw [h4];exact h.block k hk hne⟩
theorem zW (w:World) (row:Option Nat):w.grownBy w row:=⟨rfl,rfl,rfl,Nat.le_refl _,fun _ _ _=>rfl⟩
theorem zJ (w:World) (n:Nat) (row:Option Nat):w.grownBy (w.drewN n) row:=⟨rfl,rfl,rfl,Nat.le_refl _,fun _ _ _=>rfl⟩
theorem zT (w:World) (row:Option Nat):w.grownBy w.drew row:=⟨rfl,rfl,rfl,Nat.le_refl _,fun _ _ _=>rfl⟩
theorem jR {a b c:World} {r s row:Option Nat} (h:a.grownBy b r) (k:b.grownBy c s) (hr:r=none∨r=row∨∃ x,r=some x∧a.heap.size≤x) (hs:s=none∨s=row∨∃ x,s=some x∧a.heap.size≤x):a.grownBy c row:=by
 refine ⟨k.os.trans h.os,k.tape.trans h.tape,k.output.trans h.output,Nat.le_trans h.size k.size,fun i hi hne=>?_⟩
 refine (k.block i (Nat.lt_of_lt_of_le hi h.size) ?_).trans (h.block i hi ?_)
 ·rcases hs with rfl|rfl|⟨x,rfl,hx⟩
  ·simp
  ·exact hne
  ·simp;omega
 ·rcases hr with rfl|rfl|⟨x,rfl,hx⟩
  ·simp
  ·exact hne
  ·simp;omega
theorem zF {a b c:World} {row:Option Nat} (h:a.grownBy b row) (k:b.grownBy c row):a.grownBy c row:=jR h k (.inr (.inl rfl)) (.inr (.inl rfl))
theorem zH (w:World) (p:Addr) (u:Value):w.grownBy (w.setCell p u) (some p.block) :=
 ⟨rfl,rfl,rfl,by simp [World.setCell],fun k _ hk=>Below.heap_setCell _ _ _ _ (fun e=>hk (by rw [e]))⟩
theorem wI {a b:World} {row:Option Nat} (h:a.grownBy b none):a.grownBy b row :=
 ⟨h.os,h.tape,h.output,h.size,fun k hk _=>h.block k hk (by simp)⟩
theorem below_of_grown {a b:World} (h:a.grownBy b none):Below a.heap.size a b:=⟨h.os,h.tape,h.output,h.size,fun k hk=>h.block k hk (by simp)⟩
theorem grown_of_below {a b:World} {row:Option Nat} (h:Below a.heap.size a b):a.grownBy b row:=⟨h.os,h.tape,h.output,h.size,fun k hk _=>h.block k hk⟩
section
variable {P:Program} {f:FuncId} {args:Array Value} {w:World} {a n:Nat} {v:Value}
theorem wO (h:Calls P f args (w.drewN n) fun e w'=>e=.returned v∧w.drewN n=w'):Calls P f args (w.drewN n) fun e w''=>e=.returned v∧∃ m,w''=w.drewN m :=
 h.mono fun _ _ ⟨he,hm⟩=>⟨he,n,hm.symm⟩
theorem kF (h:Calls P f args (w.drewN (a+n)) fun e w'=>e=.returned v∧w.drewN (a+n)=w') :
  Calls P f args (w.drewN (a+n)) fun e w''=>e=.returned v∧∃ m,w''=w.drewN (a+m) :=
 h.mono fun _ _ ⟨he,hm⟩=>⟨he,n,hm.symm⟩
end
structure ElemOk (P:Program) (t e:TypeId) (z:Value) (bytes:Nat):Prop where
 ht:P.underlying t=some (.slice e)
 hi:(P.info? e).map (fun i=>(i.zero,i.size,i.bytes))=some (some z,1,bytes)
 hz:z.cells.size=1
theorem rB {w:World} {base e size:Nat} {v:Value} {n:Nat} {xs:List Value} (h:w.ownsRow base e size v n xs):∃ sa sc,v=.slice sa n sc:=by
 rcases h.2 with ⟨rfl,rfl⟩|⟨g,cap,cur,rfl,_⟩
 ·exact ⟨none,0,rfl⟩
 ·exact ⟨_,_,rfl⟩
theorem zQ {w:World} {b:Nat} {o:Obj} (h:w.heap[b]?=some o):b < w.heap.size:=(Array.getElem?_eq_some_iff.1 h).1
theorem app1 {P:Program} {w:World} {ops:Array Oper} {rest:List Oper} {o:Oper} {a:Act} {Q:Exit→Act→World→Prop} (hgd:o.guard=none) (s x:Operand) (t:TypeId)
  (ho:o.op=.call { callee:=.builtin .append,args:=#[s,x],argTypes:=#[t,t] })
  {e:TypeId} {z:Value} {bytes:Nat} (E:ElemOk P t e z bytes) (base:Nat) (v:Value) (n:Nat) (xs:List Value) (hs:a.eval s=v) (hown:w.ownsRow base e 1 v n xs)
  (u:Value) (hx:a.eval x=.slice (some ⟨w.heap.size,0,none⟩) 1 1) (h1:u.oneCell'=true) (h63:n+1≤maxLen) (hbytes:(n+1) * bytes≤140737488355328) (hbase:base≤w.heap.size)
  (h:∀ sa sc w',w'.ownsRow base e 1 (.slice sa (n+1) sc) (n+1) (xs ++ [u])→w.grownBy w' v.ownBlock→w.heap.size < w'.heap.size→wpList P ops Q rest (a.put o.dst (.slice sa (n+1) sc)) w') :
  wpList P ops Q (o :: rest) a (w.alloc (.cells #[u] e)):=by
 obtain ⟨i,hi,hz,hsz,hby⟩:=info_parts E.hi
 refine wpList_append_own _ hgd s x t ho base e i z 1 bytes E.ht hi hz hsz hby E.hz (by decide) v n xs hs (hown.alloc _) ⟨w.heap.size,0,none⟩ 1 1 [u] hx rfl ?_ ?_ h63 hbytes (by simp;omega) ?_
 ·intro j u' hj
  match j,hj with
  | 0,hj=>simp at hj;subst hj;simp [Addr.add]
 ·intro u' hu;simp at hu;subst hu;exact h1
 ·intro v' w' h1 h2 _
  obtain ⟨sa,sc,rfl⟩:=rB h1
  refine h sa sc w' h1 ?_ (by have:=h2.size;simp at this;omega)
  refine ⟨h2.os,h2.tape,h2.output,by have:=h2.size;simp at this;omega,fun k hk hne=>(h2.block k (by simp;omega) hne).trans ?_⟩
  exact Below.heap_alloc w _ k hk
theorem Row.of_owns {w:World} {base e:Nat} {v:Value} {n:Nat} {xs:List Value} (h:w.ownsRow base e 1 v n xs):Row w.heap.size w v xs:=by
 have hl:xs.length=n:=by have:=h.1;omega
 rcases h.2 with ⟨rfl,rfl⟩|⟨g,cap,cur,rfl,hb,hg,hnc,hcm,hcs,htake⟩
 ·exact .inl ⟨_,_,rfl,List.eq_nil_of_length_eq_zero hl⟩
 ·have hlt:=(Array.getElem?_eq_some_iff.1 hg).1
  refine .inr ⟨g,0,cap,by rw [hl],hlt,by omega,hcm,hlt,fun i hi=>?_⟩
  rw [Nat.zero_add,h.cellAt i (by omega),List.getElem?_eq_getElem hi]
theorem yF {w w':World} {base e:Nat} {v:Value} {n:Nat} {xs:List Value} {row:Option Nat} (h:w.ownsRow base e 1 v n xs) (hg:w.grownBy w' row) (hr:∀ k,row=some k→k < base):w'.ownsRow base e 1 v n xs:=by
 refine h.kept hg ?_
 rcases hv:v.ownBlock with _|k
 ·exact .inl rfl
 ·refine .inr fun e=>?_
  have:=hr k e.symm
  have:=(h.lt k hv).1
  omega
theorem zS {w:World} {base e size:Nat} {v:Value} {n:Nat} {xs:List Value} {pb e':Nat} {c:Array Value} {m:Nat × Nat} (h:w.ownsRow base e size v n xs) (hp:w.heap[pb]?=some (.cells c e' m)) (hne:e≠e'):v.ownBlock≠some pb:=by
 rcases h.2 with ⟨rfl,_⟩|⟨g,cap,cur,rfl,_,hg,_⟩
 ·simp [Value.ownBlock]
 ·intro hv
  simp [Value.ownBlock] at hv
  subst hv
  rw [hg] at hp
  simp at hp
  exact hne hp.2.1
theorem zE {w w':World} {row:Option Nat} {pb:Nat} {o:Obj} (h:w.heap[pb]?=some o) (hg:w.grownBy w' row) (hr:row≠some pb):w'.heap[pb]?=some o :=
 (hg.block pb (Array.getElem?_eq_some_iff.1 h).1 (fun e=>hr e.symm)).trans h
theorem zI {w:World} {pb e:Nat} {c:Array Value} {m:Nat × Nat} (h:w.heap[pb]?=some (.cells c e m)) (i:Nat) (hi:i < c.size):w.cell? ⟨pb,i,none⟩=some c[i]:=by
 rw [cell_of_row w pb i _ _ _ h];simp [hi]
theorem zD {w:World} {pb e:Nat} {c:Array Value} (h:w.heap[pb]?=some (.cells c e (0,0))) (i:Nat):w.frozen? ⟨pb,i,none⟩=false:=frozen_of_row w pb i _ _ h
theorem zO (w:World) (o:Obj):(w.alloc o).heap.size=w.heap.size+1:=by simp
theorem yA {w a:World} {row:Option Nat} (h:w.grownBy a row) (o:Obj):w.grownBy (a.alloc o) row:=zF h (Ga a o row)
theorem zG {w a b:World} {row s:Option Nat} (h:w.grownBy a row) (k:a.grownBy b s) (hs:∀ x,s=some x→w.heap.size≤x):w.grownBy b row :=
 jR h k (.inr (.inl rfl)) (by
  rcases s with _|x
  ·exact .inl rfl
  ·exact .inr (.inr ⟨x,rfl,hs x rfl⟩))
theorem uD.map {α:Type} {f:α→Value} {w:World} {b off:Nat} {xs:List α} (h:uD w b off (xs.map f)) (i:Nat) (hi:i < xs.length):w.cell? ⟨b,off+i,none⟩=some (f xs[i]):=by
 rw [h.2 i (by simpa using hi),List.getElem_map]
def Arr (w:World) (g:Nat) (e:TypeId) (xs:List Value):Prop:=∃ cur rest,w.heap[g]?=some (.cells cur e (0,0))∧cur.toList=xs ++ rest
theorem Arr.lt {w:World} {g:Nat} {e:TypeId} {xs:List Value} (h:Arr w g e xs):g < w.heap.size:=by
 obtain ⟨_,_,h,_⟩:=h
 exact zQ h
theorem Arr.cell {w:World} {g:Nat} {e:TypeId} {xs:List Value} (h:Arr w g e xs) (i:Nat) (hi:i < xs.length):w.cell? ⟨g,i,none⟩=some xs[i]:=by
 obtain ⟨cur,rest,h,hc⟩:=h
 rw [cell_of_row w g i _ _ _ h,← Array.getElem?_toList,hc,List.getElem?_append_left hi,List.getElem?_eq_getElem hi]
theorem Arr.frozen {w:World} {g:Nat} {e:TypeId} {xs:List Value} (h:Arr w g e xs) (i:Nat):w.frozen? ⟨g,i,none⟩=false:=by
 obtain ⟨cur,rest,h,hc⟩:=h
 exact frozen_of_row w g i _ _ h
theorem Arr.set {w:World} {g:Nat} {e:TypeId} {xs:List Value} (h:Arr w g e xs) (i:Nat) (hi:i < xs.length) (u:Value):Arr (w.setCell ⟨g,i,none⟩ u) g e (xs.set i u):=by
 obtain ⟨cur,rest,h,hc⟩:=h
 refine ⟨cur.setIfInBounds i u,rest,heap_setCell_same w g i _ _ _ h,?_⟩
 rw [Array.toList_setIfInBounds,hc,List.set_append_left _ _ hi]
theorem Arr.kept {w w':World} {g:Nat} {e:TypeId} {xs:List Value} {row:Option Nat} (h:Arr w g e xs) (hg:w.grownBy w' row) (hr:row≠some g):Arr w' g e xs:=by
 obtain ⟨cur,rest,h,hc⟩:=h
 exact ⟨cur,rest,zE h hg hr,hc⟩
theorem Arr.of_heap {w w':World} {g:Nat} {e:TypeId} {xs:List Value} (h:Arr w g e xs) (he:w'.heap=w.heap):Arr w' g e xs:=by
 obtain ⟨cur,rest,h,hc⟩:=h
 exact ⟨cur,rest,by rw [he];exact h,hc⟩
theorem Arr.of_owns {w:World} {base g n cap:Nat} {e:TypeId} {xs:List Value} (h:w.ownsRow base e 1 (.slice (some ⟨g,0,none⟩) n cap) n xs):Arr w g e xs:=by
 rcases h.2 with ⟨h',_⟩|⟨g',cap',cur,h',hb,hg,hnc,hcm,hcs,htake⟩
 ·simp at h'
 ·simp only [Value.slice.injEq,Option.some.injEq,Addr.mk.injEq,and_true,true_and] at h'
  obtain ⟨rfl,rfl⟩:=h'
  refine ⟨cur,cur.toList.drop n,hg,?_⟩
  rw [Nat.mul_one] at htake
  rw [← htake,List.take_append_drop]
theorem Arr.row {w:World} {g:Nat} {e:TypeId} {xs:List Value} (h:Arr w g e xs):uD w g 0 xs:=⟨h.lt,fun i hi=>by rw [Nat.zero_add];exact h.cell i hi⟩
theorem Arr.new (w:World) (e:TypeId) (cs:Array Value):Arr (w.alloc (.cells cs e)) w.heap.size e cs.toList:=⟨cs,[],heap_alloc_new w _,by simp⟩
theorem Arr.front {w:World} {g:Nat} {e:TypeId} {xs ys:List Value} (h:Arr w g e (xs ++ ys)):Arr w g e xs:=by
 obtain ⟨cur,rest,h,hc⟩:=h
 exact ⟨cur,ys ++ rest,h,by rw [hc,List.append_assoc]⟩
theorem Arr.type_ne {w:World} {g g':Nat} {e e':TypeId} {xs:List Value} {c:Array Value} {m:Nat × Nat} (h:Arr w g e xs) (hp:w.heap[g']?=some (.cells c e' m)) (hne:e≠e'):g≠g':=by
 obtain ⟨cur,rest,h,hc⟩:=h
 rintro rfl
 rw [h] at hp
 simp at hp
 exact hne hp.2.1
theorem Row.of_arg {k:IntKind} {w:World} {a:Option Addr} {len cap:Nat} {zs:List Int}
  (h:(a=none∧len=0∧cap=0∧zs=[])∨∃ x,a=some x∧len≤cap∧cap≤maxLen∧zs.length=cap∧(∀ i,i < zs.length→w.cell? (x.add i)=some (.int k (zs.getD i 0)))∧∀ n∈zs,(Lit.int k n).wf=true) :
  Row w.heap.size w (.slice a len cap) ((zs.take len).map (Value.int k)):=by
 rcases h with ⟨rfl,rfl,rfl,rfl⟩|⟨x,rfl,h1,h2,h3,h4,_⟩
 ·exact .inl ⟨_,_,rfl,rfl⟩
 ·by_cases hl:len=0
  ·subst hl
   exact .inl ⟨_,_,rfl,by simp⟩
  ·obtain ⟨b,off,spot⟩:=x
   have hc:=h4 0 (by omega)
   have hspot:spot=none:=by simpa [Addr.add] using World.cell?_spot hc
   subst hspot
   have hadd:∀ i,(⟨b,off,none⟩:Addr).add i=⟨b,off+i,none⟩:=fun i=>by unfold Addr.add;split <;> simp_all
   have hb:b < w.heap.size:=by rw [hadd] at hc;exact World.block_lt_of_cell? w _ hc
   have hlen:((zs.take len).map (Value.int k)).length=len:=by simp;omega
   refine .inr ⟨b,off,cap,by rw [hlen],hb,by rw [hlen];exact h1,h2,hb,fun i hi=>?_⟩
   rw [hlen] at hi
   have:=h4 i (by omega)
   rw [hadd] at this
   rw [this]
   simp [List.getD,List.getElem?_eq_getElem (show i < zs.length by omega)]
end Go.Proofs.YtdjhoadoiknaoaaDoor
namespace Go.Proofs.YtdjhoadoiknaoaaDoor
theorem wH (x z:Nat):(1 <<< x).testBit z=decide (x=z):=by
 rw [Nat.one_shiftLeft,Nat.testBit_two_pow]
theorem lt_of_bits {a n:Nat} (h:∀ z,n≤z→a.testBit z=false):a < 2 ^ n:=by
 rcases Nat.lt_or_ge a (2 ^ n) with h1|h1
 ·exact h1
 ·obtain ⟨z,hz,ht⟩:=Nat.exists_ge_and_testBit_of_ge_two_pow h1
  rw [h z hz] at ht;cases ht
theorem iU {a n z:Nat} (h:a < 2 ^ n) (hz:n≤z):a.testBit z=false :=
 Nat.testBit_lt_two_pow (Nat.lt_of_lt_of_le h (Nat.pow_le_pow_right (by omega) hz))
def aG:List Nat→Nat
 | []=>0
 | x :: l=>1 <<< x ||| aG l
theorem ofList_bit (l:List Nat) (z:Nat):(aG l).testBit z=decide (z∈l):=by
 induction l with
 | nil=>simp [aG]
 | cons x l ih =>
  rw [aG,Nat.testBit_or,wH,ih]
  by_cases h:x=z
  ·simp [h]
  ·have h':¬ z=x:=fun e=>h e.symm
   simp [h,h']
def elems (n a:Nat):List Nat:=(List.range n).filter fun x=>a.testBit x
theorem jL {n a x:Nat}:x∈elems n a ↔ x < n∧a.testBit x=true:=by simp [elems]
def zU (n:Nat) (tb:Nat→Nat→Nat) (a b:Nat):Nat:=aG ((elems n a).flatMap fun x=>(elems n b).map fun y=>tb x y)
theorem xJ (n:Nat) (tb:Nat→Nat→Nat) (a b z:Nat):(zU n tb a b).testBit z=true ↔ ∃ x y,x < n∧y < n∧a.testBit x=true∧b.testBit y=true∧tb x y=z:=by
 rw [zU,ofList_bit,decide_eq_true_iff,List.mem_flatMap]
 constructor
 ·rintro ⟨x,hx,h⟩
  obtain ⟨y,hy,rfl⟩:=List.mem_map.1 h
  obtain ⟨h1,h2⟩:=jL.1 hx
  obtain ⟨h3,h4⟩:=jL.1 hy
  exact ⟨x,y,h1,h3,h2,h4,rfl⟩
 ·rintro ⟨x,y,h1,h3,h2,h4,rfl⟩
  exact ⟨x,jL.2 ⟨h1,h2⟩,List.mem_map.2 ⟨y,jL.2 ⟨h3,h4⟩,rfl⟩⟩
theorem iP {n:Nat} {tb:Nat→Nat→Nat} {a b c:Nat} (h:∀ z,c.testBit z=true ↔ ∃ x y,x < n∧y < n∧a.testBit x=true∧b.testBit y=true∧tb x y=z):c=zU n tb a b:=by
 apply Nat.eq_of_testBit_eq
 intro z
 rw [Bool.eq_iff_iff,h z,xJ]
structure Tb (n:Nat) (tb:Nat→Nat→Nat):Prop where
 lt:∀ x y,x < n→y < n→tb x y < n
 assoc:∀ x y z,x < n→y < n→z < n→tb (tb x y) z=tb x (tb y z)
section
variable {n:Nat} {tb:Nat→Nat→Nat}
theorem wP (h:∀ x y,x < n→y < n→tb x y < n) (a b:Nat):zU n tb a b < 2 ^ n:=by
 refine lt_of_bits fun z hz=>?_
 rw [← Bool.not_eq_true]
 intro hb
 obtain ⟨x,y,hx,hy,_,_,e⟩:=(xJ n tb a b z).1 hb
 have:=h x y hx hy
 omega
theorem prodSet_assoc (h:Tb n tb) (a b c:Nat):zU n tb (zU n tb a b) c=zU n tb a (zU n tb b c):=by
 apply Nat.eq_of_testBit_eq
 intro z
 rw [Bool.eq_iff_iff,xJ,xJ]
 constructor
 ·rintro ⟨x,y,hx,hy,h1,h2,rfl⟩
  obtain ⟨u,v,hu,hv,h3,h4,rfl⟩:=(xJ _ _ _ _ _).1 h1
  exact ⟨u,tb v y,hu,h.lt _ _ hv hy,h3,(xJ _ _ _ _ _).2 ⟨v,y,hv,hy,h4,h2,rfl⟩,(h.assoc u v y hu hv hy).symm⟩
 ·rintro ⟨x,y,hx,hy,h1,h2,rfl⟩
  obtain ⟨u,v,hu,hv,h3,h4,rfl⟩:=(xJ _ _ _ _ _).1 h2
  exact ⟨tb x u,v,h.lt _ _ hx hu,hv,(xJ _ _ _ _ _).2 ⟨x,u,hx,hu,h1,h3,rfl⟩,h4,h.assoc x u v hx hu hv⟩
def xG (n:Nat) (tb:Nat→Nat→Nat) (a:Nat):Nat→Nat
 | 0=>a
 | k+1=>zU n tb (xG n tb a k) a
theorem powSet_lt (h:Tb n tb) {a:Nat} (ha:a < 2 ^ n) (k:Nat):xG n tb a k < 2 ^ n:=by
 cases k with
 | zero=>exact ha
 | succ k=>exact wP h.lt _ _
theorem dP (h:Tb n tb) (a i j:Nat):zU n tb (xG n tb a i) (xG n tb a j)=xG n tb a (i+j+1):=by
 induction j with
 | zero=>rfl
 | succ j ih =>
  show zU n tb (xG n tb a i) (zU n tb (xG n tb a j) a)=_
  rw [← prodSet_assoc h,ih];rfl
end
theorem qCU:∀ (N:Nat) (f:Nat→Nat),(∀ i,i≤N→f i < N)→∃ i j,i < j∧j≤N∧f i=f j
 | 0,f,h=>by have:=h 0 (Nat.le_refl _);omega
 | N+1,f,h=>by
  -- the value of the last one is taken out; where it stands, N stands in its place
  by_cases hex:∃ i,i≤N∧f i=f (N+1)
  ·obtain ⟨i,hi,e⟩:=hex
   exact ⟨i,N+1,by omega,Nat.le_refl _,e⟩
  ·have hne:∀ i,i≤N→f i≠f (N+1):=fun i hi e=>hex ⟨i,hi,e⟩
   obtain ⟨i,j,hij,hj,e⟩:=qCU N (fun i=>if f i=N then f (N+1) else f i) (fun i hi=>by
    have h1:=h i (by omega)
    have h2:=h (N+1) (Nat.le_refl _)
    have h3:=hne i hi
    split <;> omega)
   refine ⟨i,j,hij,by omega,?_⟩
   have h1:=hne i (by omega)
   have h2:=hne j hj
   split at e <;> split at e <;> omega
section
variable {n:Nat} {tb:Nat→Nat→Nat}
theorem powSet_shift (a i j:Nat) (e:xG n tb a i=xG n tb a j) (m:Nat):xG n tb a (i+m)=xG n tb a (j+m):=by
 induction m with
 | zero=>exact e
 | succ m ih=>show zU n tb (xG n tb a (i+m)) a=zU n tb (xG n tb a (j+m)) a;rw [ih]
theorem powSet_period (a i d:Nat) (e:xG n tb a i=xG n tb a (i+d)) (m k:Nat):xG n tb a (i+m)=xG n tb a (i+m+k * d):=by
 induction k with
 | zero=>simp
 | succ k ih =>
  rw [ih]
  have:=powSet_shift a i (i+d) e (m+k * d)
  rw [show i+m+k * d=i+(m+k * d) by omega,this,Nat.succ_mul]
  congr 1;omega
theorem powSet_idem (h:Tb n tb) {a:Nat} (ha:a < 2 ^ n):∃ m,m < 2 ^ n * 2 ^ n+2 ^ n∧zU n tb (xG n tb a m) (xG n tb a m)=xG n tb a m:=by
 obtain ⟨i,j,hij,hj,e⟩:=qCU (2 ^ n) (xG n tb a) (fun k _=>powSet_lt h ha k)
 obtain ⟨d,rfl⟩:∃ d,j=i+d:=⟨j - i,by omega⟩
 have hd:0 < d:=by omega
 -- exponent (m + 1) a multiple of d, m not below i
 refine ⟨(i+1) * d - 1,?_,?_⟩
 ·have h1:(i+1) * d≤2 ^ n * 2 ^ n:=Nat.mul_le_mul (by omega) (by omega)
  have:0 < 2 ^ n:=Nat.two_pow_pos n
  omega
 ·have h2:i+1≤(i+1) * d:=Nat.le_mul_of_pos_right _ hd
  rw [dP h]
  have e1:(i+1) * d - 1=i+((i+1) * d - 1 - i):=by omega
  have:=powSet_period a i d e ((i+1) * d - 1 - i) (i+1)
  rw [← e1] at this
  rw [this]
  congr 1
  omega
end
def rZ (n:Nat) (tb:Nat→Nat→Nat) (a:Nat):Nat→Nat→Nat
 | 0,x=>x ||| zU n tb x a
 | k+1,x=>if zU n tb x x=x then x ||| zU n tb x a else rZ n tb a k (zU n tb x a)
def yM (n:Nat) (tb:Nat→Nat→Nat) (a:Nat):Nat:=rZ n tb a (2 ^ n * 2 ^ n+2 ^ n) a
section
variable {n:Nat} {tb:Nat→Nat→Nat}
theorem mR {a k x:Nat} (h:zU n tb x x≠x):rZ n tb a (k+1) x=rZ n tb a k (zU n tb x a):=by rw [rZ,if_neg h]
theorem mQ {a k x:Nat} (h:zU n tb x x=x):rZ n tb a k x=x ||| zU n tb x a:=by
 cases k with
 | zero=>rfl
 | succ k=>rw [rZ,if_pos h]
def Ends (n:Nat) (tb:Nat→Nat→Nat) (a k x:Nat):Prop:=∃ i m,x=xG n tb a i∧m≤k∧zU n tb (xG n tb a (i+m)) (xG n tb a (i+m))=xG n tb a (i+m)
theorem iQ (h:Tb n tb) {a:Nat} (ha:a < 2 ^ n):Ends n tb a (2 ^ n * 2 ^ n+2 ^ n) a:=by
 obtain ⟨m,hm,e⟩:=powSet_idem h ha
 exact ⟨0,m,rfl,by omega,by rw [Nat.zero_add];exact e⟩
theorem eL {a k x:Nat} (h:Ends n tb a k x) (hne:zU n tb x x≠x):∃ j,k=j+1∧Ends n tb a j (zU n tb x a):=by
 obtain ⟨i,m,rfl,hm,e⟩:=h
 obtain ⟨m',rfl⟩:∃ m',m=m'+1:=⟨m - 1,by
  rcases Nat.eq_zero_or_pos m with h0|h0
  ·subst h0;exact absurd e hne
  ·omega⟩
 exact ⟨k - 1,by omega,i+1,m',rfl,by omega,by rw [show i+1+m'=i+(m'+1) by omega];exact e⟩
theorem or_lt {a b n:Nat} (ha:a < 2 ^ n) (hb:b < 2 ^ n):a ||| b < 2 ^ n:=Nat.or_lt_two_pow ha hb
theorem dR (h:Tb n tb) {a:Nat} (ha:a < 2 ^ n):∀ (k x:Nat),x < 2 ^ n→rZ n tb a k x < 2 ^ n
 | 0,x,hx=>or_lt hx (wP h.lt _ _)
 | k+1,x,hx=>by
  rw [rZ]
  split
  ·exact or_lt hx (wP h.lt _ _)
  ·exact dR h ha k _ (wP h.lt _ _)
theorem tR (h:Tb n tb) {a:Nat} (ha:a < 2 ^ n):yM n tb a < 2 ^ n:=dR h ha _ _ ha
end
end Go.Proofs.YtdjhoadoiknaoaaDoor
namespace Go.Proofs.YtdjhoadoiknaoaaDoor
def ent (t:List (List Int)) (x y:Nat):Int:=(t.getD x []).getD y 0
def entN (t:List (List Int)) (x y:Nat):Nat:=(ent t x y).toNat
def dA (n:Nat) (r:List Int):Bool:=decide (r.length=n) && r.all fun x=>decide (0≤x∧x < n)
def uZ (t:List (List Int)):Int:=if 400 < t.length then 3 else if t.length=0 then 4 else if t.all (dA t.length) then 0 else 4
structure Shape (t:List (List Int)):Prop where
 pos:0 < t.length
 le:t.length≤400
 row:∀ x,x < t.length→(t.getD x []).length=t.length
 lo:∀ x y,x < t.length→y < t.length→0≤ent t x y
 hi:∀ x y,x < t.length→y < t.length→ent t x y < t.length
theorem qS {n:Nat} {r:List Int}:dA n r=true ↔ r.length=n∧∀ y,y < r.length→0≤r.getD y 0∧r.getD y 0 < n:=by
 simp only [dA,Bool.and_eq_true,decide_eq_true_eq,List.all_eq_true]
 refine and_congr_right fun _=>⟨fun h y hy=>?_,fun h x hx=>?_⟩
 ·have:=h (r[y]) (List.getElem_mem hy)
  simpa [List.getD,List.getElem?_eq_getElem hy] using this
 ·obtain ⟨y,hy,rfl⟩:=List.getElem_of_mem hx
  have:=h y hy
  simpa [List.getD,List.getElem?_eq_getElem hy] using this
theorem cN {t:List (List Int)} (h:uZ t=0):Shape t:=by
 unfold uZ at h
 split at h
 ·omega
 split at h
 ·omega
 split at h
 ·rename_i h1 h2 h3
  rw [List.all_eq_true] at h3
  have hr:∀ x,x < t.length→dA t.length (t.getD x [])=true:=fun x hx=>by
   have:=h3 t[x] (List.getElem_mem hx)
   simpa [List.getD,List.getElem?_eq_getElem hx] using this
  refine ⟨by omega,by omega,fun x hx=>(qS.1 (hr x hx)).1,fun x y hx hy=>?_,fun x y hx hy=>?_⟩
  ·obtain ⟨e,h⟩:=qS.1 (hr x hx)
   exact (h y (by omega)).1
  ·obtain ⟨e,h⟩:=qS.1 (hr x hx)
   exact (h y (by omega)).2
 ·omega
theorem aX {t:List (List Int)} (h:Shape t) {x y:Nat} (hx:x < t.length) (hy:y < t.length):(entN t x y:Int)=ent t x y:=Int.toNat_of_nonneg (h.lo x y hx hy)
theorem uX {t:List (List Int)} (h:Shape t) {x y:Nat} (hx:x < t.length) (hy:y < t.length):entN t x y < t.length:=by
 have h1:=aX h hx hy
 have h2:=h.hi x y hx hy
 omega
def nO (t:List (List Int)) (g:Nat):Prop:=∀ x y,x < t.length→y < t.length→entN t (entN t x g) y=entN t x (entN t g y)
def bQ (t:List (List Int)):Prop:=∀ g,g < t.length→nO t g
open Classical in
noncomputable def xM (t:List (List Int)):Int:=if uZ t≠0 then uZ t else if bQ t then 0 else 5
theorem mI {t:List (List Int)} (h:uZ t≠0):xM t=uZ t:=by rw [xM,if_pos h]
theorem rR {t:List (List Int)} (h:uZ t=0) (ha:bQ t):xM t=0:=by rw [xM,if_neg (by omega),if_pos ha]
theorem jY {t:List (List Int)} (h:uZ t=0) (ha:¬ bQ t):xM t=5:=by rw [xM,if_neg (by omega),if_neg ha]
theorem uY {t:List (List Int)} (h:xM t=0):Shape t∧bQ t:=by
 by_cases hs:uZ t=0
 ·by_cases ha:bQ t
  ·exact ⟨cN hs,ha⟩
  ·rw [jY hs ha] at h;omega
 ·rw [mI hs] at h;exact absurd h hs
theorem oK {t:List (List Int)} (h:xM t=0):Tb t.length (entN t):=by
 obtain ⟨hs,ha⟩:=uY h
 exact ⟨fun x y hx hy=>uX hs hx hy,fun x y z hx hy hz=>ha y hy x z hx hz⟩
inductive Gen (t:List (List Int)) (gs:List Nat):Nat→Prop where
 | base (g:Nat):g∈gs→Gen t gs g
 | mul (x y:Nat):Gen t gs x→Gen t gs y→Gen t gs (entN t x y)
theorem Gen.mono {t:List (List Int)} {gs hs:List Nat} (h:∀ g∈gs,g∈hs) {x:Nat} (hx:Gen t gs x):Gen t hs x:=by
 induction hx with
 | base g hg=>exact .base g (h g hg)
 | mul x y _ _ h1 h2=>exact .mul x y h1 h2
theorem light_gen {t:List (List Int)} (hs:Shape t) {gs:List Nat} (hg:∀ g∈gs,g < t.length∧nO t g) {x:Nat} (hx:Gen t gs x):x < t.length∧nO t x:=by
 induction hx with
 | base g h=>exact hg g h
 | mul g h _ _ h1 h2 =>
  obtain ⟨hg,lg⟩:=h1
  obtain ⟨hh,lh⟩:=h2
  refine ⟨uX hs hg hh,fun x y hx hy=>?_⟩
  have e1:=lg x h hx hh
  have e2:=lh (entN t x g) y (uX hs hx hg) hy
  have e3:=lg x (entN t h y) hx (uX hs hh hy)
  have e4:=lh g y hg hy
  rw [← e1,e2,e3,e4]
theorem assoc_of_light {t:List (List Int)} (hs:Shape t) {gs:List Nat} (hall:∀ x,x < t.length→Gen t gs x) (hg:∀ g∈gs,g < t.length∧nO t g):bQ t :=
 fun x hx=>(light_gen hs hg (hall x hx)).2
end Go.Proofs.YtdjhoadoiknaoaaDoor
namespace Go.Proofs.YtdjhoadoiknaoaaDoor
open Go.RowKit
def ints (zs:List Int):List Value:=zs.map (Value.int .i64)
theorem zM (zs:List Int):(ints zs).length=zs.length:=by simp [ints]
theorem Row.some_ {B:Nat} {w:World} {v:Value} {xs:List Value} (h:Row B w v xs) (hx:0 < xs.length) :
  ∃ b off cap,v=.slice (some ⟨b,off,none⟩) xs.length cap∧b < B∧xs.length≤cap∧cap≤maxLen∧uD w b off xs:=by
 rcases h with ⟨a,c,rfl,rfl⟩|⟨b,off,cap,rfl,h0,h1,h2,h3⟩
 ·simp at hx
 ·exact ⟨b,off,cap,rfl,h0,h1,h2,h3⟩
theorem Row.nil_ {B:Nat} {w:World} {v:Value} {xs:List Value} (h:Row B w v xs) (hx:xs.length=0):∃ a cap,v=.slice a 0 cap:=by
 rcases h with ⟨a,c,rfl,rfl⟩|⟨b,off,cap,rfl,h0,h1,h2,h3⟩
 ·exact ⟨a,c,rfl⟩
 ·exact ⟨_,_,by rw [hx]⟩
theorem Row.shape {B:Nat} {w:World} {v:Value} {xs:List Value} (h:Row B w v xs):∃ a cap,v=.slice a xs.length cap:=by
 rcases h with ⟨a,c,rfl,rfl⟩|⟨b,off,cap,rfl,h0,h1,h2,h3⟩
 ·exact ⟨a,c,rfl⟩
 ·exact ⟨_,_,rfl⟩
theorem Row.len_le {B:Nat} {w:World} {v:Value} {xs:List Value} (h:Row B w v xs):xs.length≤maxLen:=by
 rcases h with ⟨a,c,rfl,rfl⟩|⟨b,off,cap,rfl,h0,h1,h2,h3⟩
 ·simp
 ·omega
theorem uD.int {w:World} {b off:Nat} {zs:List Int} (h:uD w b off (ints zs)) (i:Nat) (hi:i < zs.length):w.cell? ⟨b,off+i,none⟩=some (.int .i64 (zs.getD i 0)):=by
 rw [uD.map h i hi]
 simp [List.getD,List.getElem?_eq_getElem hi]
structure MatAt (B:Nat) (w:World) (t:List (List Int)) (b off:Nat) (A:Nat→Option Addr) (C:Nat→Nat):Prop where
 lt:b < B
 ltw:b < w.heap.size
 hd:∀ x,x < t.length→w.cell? ⟨b,off+x,none⟩=some (.slice (A x) (t.getD x []).length (C x))
 row:∀ x,x < t.length→Row B w (.slice (A x) (t.getD x []).length (C x)) (ints (t.getD x []))
def Mat (B:Nat) (w:World) (v:Value) (t:List (List Int)):Prop :=
 (∃ a cap,v=.slice a 0 cap∧t=[])∨∃ b off cap A C,v=.slice (some ⟨b,off,none⟩) t.length cap∧t.length≤cap∧cap≤maxLen∧MatAt B w t b off A C
theorem MatAt.kept {B:Nat} {w w':World} {t:List (List Int)} {b off:Nat} {A:Nat→Option Addr} {C:Nat→Nat} {row:Option Nat} (h:MatAt B w t b off A C) (hg:w.grownBy w' row) (hr:∀ k,row=some k→B≤k):MatAt B w' t b off A C :=
 ⟨h.lt,Nat.lt_of_lt_of_le h.ltw hg.size,fun x hx=>(World.cell?_of_block (hg.block b h.ltw (fun e=>by have:=hr b e.symm;have:=h.lt;omega))).trans (h.hd x hx),fun x hx=>(h.row x hx).kept hg hr⟩
theorem MatAt.mono {B B':Nat} {w:World} {t:List (List Int)} {b off:Nat} {A:Nat→Option Addr} {C:Nat→Nat} (h:MatAt B w t b off A C) (hB:B≤B'):MatAt B' w t b off A C :=
 ⟨Nat.lt_of_lt_of_le h.lt hB,h.ltw,h.hd,fun x hx=>(h.row x hx).mono hB⟩
theorem MatAt.of_heap {B:Nat} {w w':World} {t:List (List Int)} {b off:Nat} {A:Nat→Option Addr} {C:Nat→Nat} (h:MatAt B w t b off A C) (e:w'.heap=w.heap):MatAt B w' t b off A C :=
 ⟨h.lt,by rw [e];exact h.ltw,fun x hx=>(World.cell?_of_block (by rw [e])).trans (h.hd x hx),fun x hx=>(h.row x hx).of_heap e⟩
section
variable {B B':Nat} {w w':World} {v:Value} {t:List (List Int)} {row:Option Nat}
theorem Mat.kept (h:Mat B w v t) (hg:w.grownBy w' row) (hr:∀ k,row=some k→B≤k):Mat B w' v t:=by
 rcases h with h|⟨b,off,cap,A,C,h1,h2,h3,h4⟩
 ·exact .inl h
 ·exact .inr ⟨b,off,cap,A,C,h1,h2,h3,h4.kept hg hr⟩
theorem Mat.mono (h:Mat B w v t) (hB:B≤B'):Mat B' w v t:=by
 rcases h with h|⟨b,off,cap,A,C,h1,h2,h3,h4⟩
 ·exact .inl h
 ·exact .inr ⟨b,off,cap,A,C,h1,h2,h3,h4.mono hB⟩
theorem Mat.of_heap (h:Mat B w v t) (e:w'.heap=w.heap):Mat B w' v t:=by
 rcases h with h|⟨b,off,cap,A,C,h1,h2,h3,h4⟩
 ·exact .inl h
 ·exact .inr ⟨b,off,cap,A,C,h1,h2,h3,h4.of_heap e⟩
theorem Mat.some_ (h:Mat B w v t) (hx:0 < t.length):∃ b off cap A C,v=.slice (some ⟨b,off,none⟩) t.length cap∧t.length≤cap∧cap≤maxLen∧MatAt B w t b off A C:=by
 rcases h with ⟨_,_,_,rfl⟩|h
 ·simp at hx
 ·exact h
theorem Mat.shape (h:Mat B w v t):∃ a cap,v=.slice a t.length cap:=by
 rcases h with ⟨a,c,rfl,rfl⟩|⟨b,off,cap,A,C,rfl,_⟩
 ·exact ⟨a,c,rfl⟩
 ·exact ⟨_,_,rfl⟩
theorem Mat.len_le (h:Mat B w v t):t.length≤maxLen:=by
 rcases h with ⟨a,c,rfl,rfl⟩|⟨b,off,cap,A,C,rfl,h1,h2,_⟩
 ·simp
 ·omega
end
structure Sq (B:Nat) (w:World) (t:List (List Int)) (b off:Nat) (RB RO RC:Nat→Nat):Prop where
 lt:b < B
 ltw:b < w.heap.size
 hd:∀ x,x < t.length→w.cell? ⟨b,off+x,none⟩=some (.slice (some ⟨RB x,RO x,none⟩) t.length (RC x))
 el:∀ x y,x < t.length→y < t.length→w.cell? ⟨RB x,RO x+y,none⟩=some (.int .i64 (entN t x y))
 ltr:∀ x,x < t.length→RB x < B∧RB x < w.heap.size
 cap:∀ x,x < t.length→t.length≤RC x∧RC x≤maxLen
theorem Sq.kept {B : Nat} {w w' : World} {t : List (List Int)} {b off : Nat} {RB RO RC : Nat → Nat} {row : Option Nat} (h : Sq B w t b off RB RO RC) (hg : w.grownBy w' row) (hr : ∀ k, row = some k → B ≤ k) : Sq B w' t b off RB RO RC :=
 ⟨h.lt, Nat.lt_of_lt_of_le h.ltw hg.size, fun x hx => (World.cell?_of_block (hg.block b h.ltw (fun e => by have := hr b e.symm; have := h.lt; omega))).trans (h.hd x hx),
  fun x y hx hy => (World.cell?_of_block (hg.block (RB x) (h.ltr x hx).2 (fun e => by have := hr _ e.symm; have := (h.ltr x hx).1; omega))).trans (h.el x y hx hy), fun x hx => ⟨(h.ltr x hx).1, Nat.lt_of_lt_of_le (h.ltr x hx).2 hg.size⟩, h.cap⟩
theorem Mat.sq {B:Nat} {w:World} {v:Value} {t:List (List Int)} (h:Mat B w v t) (hs:Shape t):∃ b off cap RB RO RC,v=.slice (some ⟨b,off,none⟩) t.length cap∧t.length≤cap∧cap≤maxLen∧Sq B w t b off RB RO RC:=by
 obtain ⟨b,off,cap,A,C,rfl,h1,h2,h3⟩:=h.some_ hs.pos
 have hr:∀ x,∃ rb ro,x < t.length→A x=some ⟨rb,ro,none⟩∧rb < B∧t.length≤C x∧C x≤maxLen∧uD w rb ro (ints (t.getD x [])):=by
  intro x
  by_cases hx:x < t.length
  ·have hl:=hs.row x hx
   obtain ⟨rb,ro,c,e,h4,h5,h6,h7⟩:=(h3.row x hx).some_ (by rw [zM,hl];exact hs.pos)
   simp only [Value.slice.injEq] at e
   rw [zM,hl] at h5
   exact ⟨rb,ro,fun _=>⟨e.1,h4,by rw [e.2.2];exact h5,by rw [e.2.2];exact h6,h7⟩⟩
  ·exact ⟨0,0,fun h=>absurd h hx⟩
 obtain ⟨RB,hRB⟩:=Classical.axiomOfChoice hr
 obtain ⟨RO,hRO⟩:=Classical.axiomOfChoice hRB
 refine ⟨b,off,cap,RB,RO,C,rfl,h1,h2,h3.lt,h3.ltw,fun x hx=>?_,fun x y hx hy=>?_,fun x hx=>?_,fun x hx=>?_⟩
 ·have:=hRO x hx
  rw [h3.hd x hx,this.1,hs.row x hx]
 ·have:=hRO x hx
  rw [this.2.2.2.2.int y (by rw [hs.row x hx];exact hy),aX hs hx hy]
  rfl
 ·have:=hRO x hx
  exact ⟨this.2.1,this.2.2.2.2.1⟩
 ·have:=hRO x hx
  exact ⟨this.2.2.1,this.2.2.2.1⟩
theorem yC:ElemOk Tryd.prog 22 3 (.int .i64 0) 8:=⟨Tryd.underlying22,by kernel_rfl,rfl⟩
theorem wJ:ElemOk Tryd.prog 25 4 (.bool false) 1:=⟨Tryd.underlying25,by kernel_rfl,rfl⟩
theorem vO:ElemOk Tryd.prog 26 22 (.slice none 0 0) 24:=⟨Tryd.underlying26,by kernel_rfl,rfl⟩
theorem jO {z:Value} (hz:z.cells=#[z]):∀ (n:Nat),(madeCells z.cells (n * 1)).toList=List.replicate n z:=by
 intro n
 rw [Nat.mul_one,hz]
 apply List.ext_getElem
 ·simp [madeCells]
 ·intro i h1 h2
  simp [madeCells,Nat.mod_one]
theorem kB {P:Program} {w:World} {ops:Array Oper} {rest:List Oper} {o:Oper} {a:Act} {Q:Exit→Act→World→Prop} (hgd:o.guard=none) (l c:Operand) (t:TypeId) (ho:o.op=.makeSlice t l c)
  {e:TypeId} {z:Value} {bytes:Nat} (E:ElemOk P t e z bytes) (hz:z.cells=#[z]) (kl kc:IntKind) (L C:Int) (n:Nat) (hl:a.eval l=.int kl L) (hc:a.eval c=.int kc C) (hL:L=(n:Int)) (hC:C=(n:Int)) (hb:bytes * n≤281474976710656) (h63:n≤maxLen)
  (h:∀ w',Arr w' w.heap.size e (List.replicate n z)→w.grownBy w' none→w.heap.size < w'.heap.size→wpList P ops Q rest (a.put o.dst (.slice (some ⟨w.heap.size,0,none⟩) n n)) w'):wpList P ops Q (o :: rest) a w:=by
 obtain ⟨i,hi,hz',hsz,hby⟩:=info_parts E.hi
 refine wpList_make_full w hgd l c t ho w.heap.size e i z 1 E.ht hi hz' hsz kl kc L C n hl hc hL hC (by rw [hby];exact hb) h63 (Nat.le_refl _) ?_
 intro w' hown hg
 have ha:=Arr.of_owns hown
 rw [jO hz] at ha
 exact h w' ha hg ha.lt
theorem yJ {w:World} {base base' e size:Nat} {v:Value} {n:Nat} {xs:List Value} (h:w.ownsRow base e size v n xs) (hb:base'≤base):w.ownsRow base' e size v n xs:=by
 refine ⟨h.1,?_⟩
 rcases h.2 with h2|⟨g,cap,cur,h1,h2,h3⟩
 ·exact .inl h2
 ·exact .inr ⟨g,cap,cur,h1,Nat.le_trans hb h2,h3⟩
theorem yK {w:World} {base e n sc:Nat} {sa:Option Addr} {xs:List Value} (h:w.ownsRow base e 1 (.slice sa n sc) n xs) (hn:0 < n):∃ kb,sa=some ⟨kb,0,none⟩∧n≤sc∧sc≤maxLen∧Arr w kb e xs:=by
 rcases h.2 with ⟨h',h0⟩|⟨g,cap,cur,h1,hb,hg,hnc,hcm,_⟩
 ·omega
 ·simp only [Value.slice.injEq] at h1
  obtain ⟨rfl,-,rfl⟩:=h1
  exact ⟨g,rfl,hnc,hcm,Arr.of_owns h⟩
def bN (w w':World) (v v':Value):Prop:=v'.ownBlock=v.ownBlock∨(w.grownBy w' none∧∀ k,v'.ownBlock=some k→w.heap.size≤k)
theorem dC {P:Program} {w:World} {ops:Array Oper} {rest:List Oper} {o:Oper} {a:Act} {Q:Exit→Act→World→Prop} (hgd:o.guard=none) (s x:Operand) (t:TypeId)
  (ho:o.op=.call { callee:=.builtin .append,args:=#[s,x],argTypes:=#[t,t] })
  {e:TypeId} {z:Value} {bytes:Nat} (E:ElemOk P t e z bytes) (base:Nat) (v:Value) (n:Nat) (xs:List Value) (hs:a.eval s=v) (hown:w.ownsRow base e 1 v n xs)
  (u:Value) (hx:a.eval x=.slice (some ⟨w.heap.size,0,none⟩) 1 1) (h1:u.oneCell'=true) (h63:n+1≤maxLen) (hbytes:(n+1) * bytes≤140737488355328) (hbase:base≤w.heap.size)
  (h:∀ sa sc w',w'.ownsRow base e 1 (.slice sa (n+1) sc) (n+1) (xs ++ [u])→w.grownBy w' v.ownBlock→w.heap.size < w'.heap.size→bN w w' v (.slice sa (n+1) sc)→wpList P ops Q rest (a.put o.dst (.slice sa (n+1) sc)) w') :
  wpList P ops Q (o :: rest) a (w.alloc (.cells #[u] e)):=by
 obtain ⟨i,hi,hz,hsz,hby⟩:=info_parts E.hi
 have hnews:∀ j u',[u][j]?=some u'→(w.alloc (.cells #[u] e)).cell? ((⟨w.heap.size,0,none⟩:Addr).add j)=some u':=by
  intro j u' hj
  match j,hj with
  | 0,hj=>simp at hj;subst hj;simp [Addr.add]
 have hone:∀ u'∈[u],u'.oneCell'=true:=by intro u' hu;simp at hu;subst hu;exact h1
 have hA:=Ga w (.cells #[u] e) none
 have fin:∀ v' w',w'.ownsRow base e 1 v' (n+1) (xs ++ [u])→(w.alloc (.cells #[u] e)).grownBy w' v.ownBlock→(v'.ownBlock=v.ownBlock∨((w.alloc (.cells #[u] e)).grownBy w' none∧∀ k,v'.ownBlock=some k→w.heap.size≤k))→wpList P ops Q rest (a.put o.dst v') w':=by
  intro v' w' h1 h2 h3
  obtain ⟨sa,sc,rfl⟩:=rB h1
  refine h sa sc w' h1 ?_ (by have:=h2.size;simp at this;omega) ?_
  ·exact ⟨h2.os,h2.tape,h2.output,by have:=h2.size;simp at this;omega,fun k hk hne=>(h2.block k (by simp;omega) hne).trans (Below.heap_alloc w _ k hk)⟩
  ·rcases h3 with h3|⟨h3,h4⟩
   ·exact .inl h3
   ·exact .inr ⟨zF hA h3,h4⟩
 rcases hown.2 with ⟨rfl,rfl⟩|⟨g,cap,cur,rfl,hb,hg,hnc,hcm,hcs,htake⟩
 ·have hl:xs=[]:=List.eq_nil_of_length_eq_zero (by have:=hown.1;omega)
  subst hl
  refine wpList_append_grows _ hgd s x t ho e i z 1 bytes E.ht hi hz hsz hby E.hz (by decide) none 0 0 [] hs (fun _=>⟨rfl,rfl⟩) rfl (fun b hb=>by cases hb) ⟨w.heap.size,0,none⟩ 1 1 [u] hx rfl hnews hone (by omega) h63 hbytes ?_
  intro v' w' h1 h2
  exact fin v' w' (yJ h1 (by simp;omega)) (wI h2) (.inr ⟨h2,fun k hk=>by have:=(h1.lt k hk).1;simp at this;omega⟩)
 ·by_cases hroom:n+1≤cap
  ·refine wpList_append_fits _ hgd s x t ho base e i 1 E.ht hi hsz g n cap xs hs (hown.alloc _) ⟨w.heap.size,0,none⟩ 1 1 [u] hx rfl hnews hone hroom ?_
   intro w' h1 h2
   exact fin _ w' h1 h2 (.inl rfl)
  ·refine wpList_append_grows _ hgd s x t ho e i z 1 bytes E.ht hi hz hsz hby E.hz (by decide) (some ⟨g,0,none⟩) n cap xs hs (fun h=>by cases h) hown.1 (fun b hb j u' hj=>?_) ⟨w.heap.size,0,none⟩ 1 1 [u] hx rfl hnews hone (by omega) h63 hbytes ?_
   ·simp at hb
    subst hb
    have hj':j < xs.length:=by
     rcases Nat.lt_or_ge j xs.length with h|h
     ·exact h
     ·rw [List.getElem?_eq_none h] at hj;cases hj
    have:=(Arr.of_owns (hown.alloc (.cells #[u] e))).cell j hj'
    rw [List.getElem?_eq_getElem hj'] at hj
    have hadd:(⟨g,0,none⟩:Addr).add j=⟨g,j,none⟩:=by unfold Addr.add;split <;> simp_all
    rw [hadd,this];exact hj
   ·intro v' w' h1 h2
    exact fin v' w' (yJ h1 (by simp;omega)) (wI h2) (.inr ⟨h2,fun k hk=>by have:=(h1.lt k hk).1;simp at this;omega⟩)
def bls (bs:List Bool):List Value:=bs.map Value.bool
def nats (l:List Nat):List Value:=l.map fun (x:Nat)=>Value.int .i64 (x:Int)
theorem vH (bs:List Bool):(bls bs).length=bs.length:=by simp [bls]
theorem zN (l:List Nat):(nats l).length=l.length:=by simp [nats]
theorem Arr.bool {w:World} {g:Nat} {e:TypeId} {bs:List Bool} (h:Arr w g e (bls bs)) (i:Nat) (hi:i < bs.length):w.cell? ⟨g,i,none⟩=some (.bool (bs.getD i false)):=by
 rw [h.cell i (by rw [vH];exact hi)]
 simp [bls,List.getD,List.getElem?_eq_getElem hi]
theorem Arr.int {w:World} {g:Nat} {e:TypeId} {zs:List Int} (h:Arr w g e (ints zs)) (i:Nat) (hi:i < zs.length):w.cell? ⟨g,i,none⟩=some (.int .i64 (zs.getD i 0)):=by
 rw [h.cell i (by rw [zM];exact hi)]
 simp [ints,List.getD,List.getElem?_eq_getElem hi]
theorem Arr.nat {w:World} {g:Nat} {e:TypeId} {l:List Nat} (h:Arr w g e (nats l)) (i:Nat) (hi:i < l.length):w.cell? ⟨g,i,none⟩=some (.int .i64 ((l.getD i 0:Nat):Int)):=by
 rw [h.cell i (by rw [zN];exact hi)]
 simp [nats,List.getD,List.getElem?_eq_getElem hi]
theorem uD.nat {w:World} {b off:Nat} {l:List Nat} (h:uD w b off (nats l)) (i:Nat) (hi:i < l.length):w.cell? ⟨b,off+i,none⟩=some (.int .i64 ((l.getD i 0:Nat):Int)):=by
 rw [uD.map h i hi]
 simp [List.getD,List.getElem?_eq_getElem hi]
theorem Arr.bool_set {w:World} {g:Nat} {e:TypeId} {bs:List Bool} (h:Arr w g e (bls bs)) (i:Nat) (hi:i < bs.length) (c:Bool):Arr (w.setCell ⟨g,i,none⟩ (.bool c)) g e (bls (bs.set i c)):=by
 have:=h.set i (by rw [vH];exact hi) (.bool c)
 rwa [bls,List.map_set]
theorem Arr.int_set {w:World} {g:Nat} {e:TypeId} {zs:List Int} (h:Arr w g e (ints zs)) (i:Nat) (hi:i < zs.length) (c:Int):Arr (w.setCell ⟨g,i,none⟩ (.int .i64 c)) g e (ints (zs.set i c)):=by
 have:=h.set i (by rw [zM];exact hi) (.int .i64 c)
 rwa [ints,List.map_set]
theorem Arr.nat_set {w:World} {g:Nat} {e:TypeId} {l:List Nat} (h:Arr w g e (nats l)) (i:Nat) (hi:i < l.length) (c:Nat):Arr (w.setCell ⟨g,i,none⟩ (.int .i64 (c:Int))) g e (nats (l.set i c)):=by
 have:=h.set i (by rw [zN];exact hi) (.int .i64 (c:Int))
 rwa [nats,List.map_set]
theorem vS (n:Nat) (c:Bool):bls (List.replicate n c)=List.replicate n (.bool c):=by simp [bls]
theorem wG (n:Nat):nats (List.replicate n 0)=List.replicate n (.int .i64 0):=by simp [nats]
theorem ints_replicate (n:Nat):ints (List.replicate n 0)=List.replicate n (.int .i64 0):=by simp [ints]
theorem rD (l m:List Nat):nats (l ++ m)=nats l ++ nats m:=by simp [nats]
theorem wE (l:List Nat) (x:Nat):nats (l ++ [x])=nats l ++ [.int .i64 (x:Int)]:=by simp [nats]
theorem tV (l:List Nat):nats l=ints (l.map fun (x:Nat)=>(x:Int)):=by simp [nats,ints]
theorem nQ {l:List Nat} {n i:Nat} (h:∀ x∈l,x < n) (hi:i < l.length):l.getD i 0 < n:=by
 simp only [List.getD,List.getElem?_eq_getElem hi];exact h _ (List.getElem_mem hi)
theorem xK {α:Type} (l:List α) (i:Nat) (c d:α) (hi:i < l.length):(l.set i c).getD i d=c:=by simp [List.getD,hi]
theorem getD_set_ne {α:Type} (l:List α) (i j:Nat) (c d:α) (hne:i≠j):(l.set i c).getD j d=l.getD j d:=by simp [List.getD,List.getElem?_set_ne hne]
theorem yG {α:Type} {l:List α} {k:Nat} {d:α} (h:k < l.length):l.take (k+1)=l.take k ++ [l.getD k d]:=by
 rw [List.take_succ_eq_append_getElem h];simp [List.getD,List.getElem?_eq_getElem h]
theorem run_append_of_nil {P:Program} {w:World} (base:Nat) (t ty e:TypeId) (i:TypeInfo) (size:Nat) (ht:P.underlying t=some (.slice e)) (hi:P.info? e=some i)
  (v:Value) (n:Nat) (xs:List Value) (hown:w.ownsRow base e size v n xs) (c:Nat):(Builtin.append_ #[t,t] ty #[v,.slice none 0 c]).run P w=.ok v w:=by
 rcases hown.2 with ⟨rfl,rfl⟩|⟨g,cap,cur,rfl,_,_,hnc,_⟩
 ·simp [Builtin.append_,run_underlying ht,sizeOf,typeInfo,hi,Builtin.lenOf,Builtin.firstCells]
 ·simp [Builtin.append_,run_underlying ht,sizeOf,typeInfo,hi,Builtin.lenOf,Builtin.firstCells,hnc,storeCells]
theorem pR {w:World} {base e size n:Nat} {v:Value} {xs:List Value} (h:w.ownsRow base e size v n xs):∃ sa sc,v=.slice sa n sc:=by
 rcases h.2 with ⟨rfl,rfl⟩|⟨g,cap,cur,rfl,_⟩
 ·exact ⟨none,0,rfl⟩
 ·exact ⟨_,_,rfl⟩
theorem qCK {P:Program} {w:World} {o:Oper} {a:Act} {K:Act→World→Prop} {Q:Exit→Act→World→Prop} (s x:Operand) (t:TypeId)
  (ho:o.op=.call { callee:=.builtin .append,args:=#[s,x],argTypes:=#[t,t] })
  {e:TypeId} {z:Value} {bytes:Nat} (E:ElemOk P t e z bytes) (base:Nat) (v:Value) (n:Nat) (xs:List Value) (hs:a.eval s=v) (hown:w.ownsRow base e 1 v n xs)
  (sv:Value) (news:List Value) (hx:a.eval x=sv) (hrow:∃ B,Row B w sv news) (h1:∀ u∈news,u.oneCell'=true) (N:Nat) (hN:n+news.length=N) (h63:N≤maxLen) (hbytes:N * bytes≤140737488355328) (hbase:base≤w.heap.size)
  (h:∀ sa sc w',w'.ownsRow base e 1 (.slice sa N sc) N (xs ++ news)→w.grownBy w' v.ownBlock→K (a.put o.dst (.slice sa N sc)) w'):o.wp P a w K Q:=by
 obtain ⟨i,hi,hz,hsz,hby⟩:=info_parts E.hi
 subst hN
 have fin:∀ v' w',w'.ownsRow base e 1 v' (n+news.length) (xs ++ news)→w.grownBy w' v.ownBlock→K (a.put o.dst v') w':=by
  intro v' w' h1 h2
  obtain ⟨sa,sc,rfl⟩:=pR h1
  exact h sa sc w' h1 h2
 obtain ⟨B,hrow⟩:=hrow
 rcases hrow with ⟨a',cap,rfl,rfl⟩|⟨b,off,cap,rfl,_,h2,h3,hra⟩
 ·cases a' with
  | none =>
   have hr:=run_append_of_nil (P:=P) (w:=w) base t o.type e i 1 E.ht hi v n xs hown cap
   unfold Oper.wp execOp
   simp only [ho,resolve,invoke,builtin,Sem.run_bind,Sem.run_pure,Result.andThen_ok,List.map_toArray,List.map_cons,List.map_nil,hs,hx,hr]
   exact fin v w (by simpa using hown) (World.grownBy.refl w _)
  | some ad =>
   refine wp_append_own w s x t ho base e i z 1 bytes E.ht hi hz hsz hby E.hz (by decide) v n xs hs hown ad 0 cap [] hx rfl (fun j u hj=>by simp at hj) (fun u hu=>by simp at hu) h63 hbytes hbase ?_
   intro v' w' h1 h2 _
   exact fin v' w' h1 h2
 ·refine wp_append_own w s x t ho base e i z 1 bytes E.ht hi hz hsz hby E.hz (by decide) v n xs hs hown ⟨b,off,none⟩ news.length cap news hx (by simp) (fun j u' hj=>?_) h1 h63 hbytes hbase ?_
  ·have hjl:j < news.length:=by
    rcases Nat.lt_or_ge j news.length with h|h
    ·exact h
    ·rw [List.getElem?_eq_none h] at hj;cases hj
   have hadd:(⟨b,off,none⟩:Addr).add j=⟨b,off+j,none⟩:=by unfold Addr.add;split <;> simp_all
   rw [List.getElem?_eq_getElem hjl] at hj
   rw [hadd,hra.2 j hjl,hj]
  ·intro v' w' h1 h2 _
   exact fin v' w' h1 h2
theorem xU {P:Program} {ops:Array Oper} {w:World} {o:Oper} {a:Act} {K:Act→World→Prop} {Q:Exit→Act→World→Prop} {R:Prop} (hgd:o.guard=none) (s x:Operand) (t:TypeId)
  (ho:o.op=.call { callee:=.builtin .append,args:=#[s,x],argTypes:=#[t,t] })
  {e:TypeId} {z:Value} {bytes:Nat} (E:ElemOk P t e z bytes) (base:Nat) (v:Value) (n:Nat) (xs:List Value) (hs:a.eval s=v) (hown:w.ownsRow base e 1 v n xs)
  (sv:Value) (news:List Value) (hx:a.eval x=sv) (hrow:∃ B,Row B w sv news) (h1:∀ u∈news,u.oneCell'=true) (N:Nat) (hN:n+news.length=N) (h63:N≤maxLen) (hbytes:N * bytes≤140737488355328) (hbase:base≤w.heap.size)
  (h:∀ sa sc w',w'.ownsRow base e 1 (.slice sa N sc) N (xs ++ news)→w.grownBy w' v.ownBlock→K (a.put o.dst (.slice sa N sc)) w'):if Region.wanted o (yielded ops a.tmps)=true then Oper.wp P o a w K Q else R:=by
 have hw:Region.wanted o (yielded ops a.tmps)=true:=by simp [Region.wanted,hgd]
 rw [if_pos hw]
 exact qCK s x t ho E base v n xs hs hown sv news hx hrow h1 N hN h63 hbytes hbase h
theorem appR {P:Program} {w:World} {ops:Array Oper} {rest:List Oper} {o:Oper} {a:Act} {Q:Exit→Act→World→Prop} (hgd:o.guard=none) (s x:Operand) (t:TypeId)
  (ho:o.op=.call { callee:=.builtin .append,args:=#[s,x],argTypes:=#[t,t] })
  {e:TypeId} {z:Value} {bytes:Nat} (E:ElemOk P t e z bytes) (base:Nat) (v:Value) (n:Nat) (xs:List Value) (hs:a.eval s=v) (hown:w.ownsRow base e 1 v n xs)
  (sv:Value) (news:List Value) (hx:a.eval x=sv) (hrow:∃ B,Row B w sv news) (h1:∀ u∈news,u.oneCell'=true) (N:Nat) (hN:n+news.length=N) (h63:N≤maxLen) (hbytes:N * bytes≤140737488355328) (hbase:base≤w.heap.size)
  (h:∀ sa sc w',w'.ownsRow base e 1 (.slice sa N sc) N (xs ++ news)→w.grownBy w' v.ownBlock→wpList P ops Q rest (a.put o.dst (.slice sa N sc)) w'):wpList P ops Q (o :: rest) a w :=
 wpList_plain hgd fun _ hK=>qCK s x t ho E base v n xs hs hown sv news hx hrow h1 N hN h63 hbytes hbase fun sa sc w' h2 h3=>hK _ _ (h sa sc w' h2 h3)
theorem yQ {W:World} {e base g:Nat} (h:W.heap[g]?=some (.cells #[] e (0,0))) (hb:base≤g):W.ownsRow base e 1 (.slice (some ⟨g,0,none⟩) 0 0) 0 [] :=
 ⟨by simp,.inr ⟨g,0,#[],rfl,hb,h,Nat.le_refl _,Nat.zero_le _,by simp,by simp⟩⟩
theorem wF {W:World} {g:Nat} {o:Obj} (h:W.heap[g]?=some o):W.drew.heap[g]?=some o:=h
theorem xS (w:World) (o o':Obj):((w.alloc o).alloc o').heap[w.heap.size]?=some o:=zE (heap_alloc_new w o) (Ga _ _ none) (by simp)
theorem xQ (w:World) (o o':Obj):((w.alloc o).alloc o').heap[w.heap.size+1]?=some o':=by
 have:=heap_alloc_new (w.alloc o) o'
 rwa [zO] at this
theorem uD.take {w:World} {b off:Nat} {xs:List Value} (h:uD w b off xs) (k:Nat):uD w b off (xs.take k) :=
 ⟨h.1,fun i hi=>by rw [List.length_take] at hi;rw [h.2 i (by omega),List.getElem_take]⟩
theorem uD.drop {w:World} {b off:Nat} {xs:List Value} (h:uD w b off xs) (k:Nat):uD w b (off+k) (xs.drop k) :=
 ⟨h.1,fun i hi=>by rw [List.length_drop] at hi;rw [Nat.add_assoc,h.2 (k+i) (by omega),List.getElem_drop]⟩
theorem mM {W:World} {g e:Nat} {u:Value} {m:Nat × Nat} (h:W.heap[g]?=some (.cells #[u] e m)):Row W.heap.size W (.slice (some ⟨g,0,none⟩) 1 1) [u] :=
 .inr ⟨g,0,1,rfl,zQ h,Nat.le_refl _,by unfold maxLen;omega,zQ h,fun i hi=>by
  have:i=0:=by simpa using hi
  subst this
  simpa using zI h 0 (by simp)⟩
theorem uE (l:List Nat):∀ u∈nats l,u.oneCell'=true:=by
 intro u hu
 obtain ⟨x,_,rfl⟩:=List.mem_map.1 hu
 rfl
def RowT (B:Nat) (e:TypeId) (w:World) (v:Value) (xs:List Value):Prop :=
 (v=.slice none 0 0∧xs=[])∨∃ b off cap cur m,v=.slice (some ⟨b,off,none⟩) xs.length cap∧b < B∧xs.length≤cap∧cap≤maxLen∧w.heap[b]?=some (.cells cur e m)∧∀ i (h:i < xs.length),cur[off+i]?=some xs[i]
theorem RowT.row {B:Nat} {e:TypeId} {w:World} {v:Value} {xs:List Value} (h:RowT B e w v xs):Row B w v xs:=by
 rcases h with h|⟨b,off,cap,cur,m,h1,h2,h3,h4,h5,h6⟩
 ·exact .inl ⟨_,_,h⟩
 ·exact .inr ⟨b,off,cap,h1,h2,h3,h4,zQ h5,fun i hi=>by rw [cell_of_row w b (off+i) _ _ _ h5];exact h6 i hi⟩
theorem RowT.mono {B B':Nat} {e:TypeId} {w:World} {v:Value} {xs:List Value} (h:RowT B e w v xs) (hB:B≤B'):RowT B' e w v xs:=by
 rcases h with h|⟨b,off,cap,cur,m,h1,h2,h3⟩
 ·exact .inl h
 ·exact .inr ⟨b,off,cap,cur,m,h1,by omega,h3⟩
def wK (w:World) (e:TypeId) (k:Nat):Prop:=∃ cur e' m,w.heap[k]?=some (.cells cur e' m)∧e'≠e
theorem RowT.kept {B:Nat} {e:TypeId} {w w':World} {v:Value} {xs:List Value} {row:Option Nat} (h:RowT B e w v xs) (hg:w.grownBy w' row) (hr:∀ k,row=some k→B≤k∨wK w e k):RowT B e w' v xs:=by
 rcases h with h|⟨b,off,cap,cur,m,h1,h2,h3,h4,h5,h6⟩
 ·exact .inl h
 ·refine .inr ⟨b,off,cap,cur,m,h1,h2,h3,h4,zE h5 hg (fun eq=>?_),h6⟩
  rcases hr b eq with hk|⟨cur',e',m',hk,hne⟩
  ·omega
  ·rw [h5] at hk;simp at hk;exact hne hk.2.1.symm
theorem RowT.of_heap {B:Nat} {e:TypeId} {w w':World} {v:Value} {xs:List Value} (h:RowT B e w v xs) (he:w'.heap=w.heap):RowT B e w' v xs:=by
 rcases h with h|⟨b,off,cap,cur,m,h1,h2,h3,h4,h5,h6⟩
 ·exact .inl h
 ·exact .inr ⟨b,off,cap,cur,m,h1,h2,h3,h4,by rw [he];exact h5,h6⟩
theorem RowT.of_owns {w:World} {base e:Nat} {v:Value} {n:Nat} {xs:List Value} (h:w.ownsRow base e 1 v n xs):RowT w.heap.size e w v xs:=by
 have hl:xs.length=n:=by have:=h.1;omega
 rcases h.2 with ⟨rfl,rfl⟩|⟨g,cap,cur,rfl,hb,hg,hnc,hcm,hcs,htake⟩
 ·exact .inl ⟨rfl,List.eq_nil_of_length_eq_zero hl⟩
 ·refine .inr ⟨g,0,cap,cur,(0,0),by rw [hl],zQ hg,by omega,hcm,hg,fun i hi=>?_⟩
  have:=h.cellAt i (by omega)
  rw [cell_of_row w g i _ _ _ hg] at this
  rw [Nat.zero_add,this,List.getElem?_eq_getElem hi]
theorem tU {w:World} {base e e' size:Nat} {v:Value} {n:Nat} {xs:List Value} (h:w.ownsRow base e size v n xs) (hne:e≠e'):∀ k,v.ownBlock=some k→wK w e' k:=by
 intro k hk
 rcases h.2 with ⟨rfl,_⟩|⟨g,cap,cur,rfl,_,hg,_⟩
 ·simp [Value.ownBlock] at hk
 ·simp [Value.ownBlock] at hk
  subst hk
  exact ⟨cur,e,(0,0),hg,hne⟩
def rY {α:Type} (B:Nat) (e:TypeId) (f:α→List Value) (w:World) (svs:List Value) (ps:List α):Prop :=
 svs.length=ps.length∧∀ i (h:i < svs.length) (h':i < ps.length),RowT B e w svs[i] (f ps[i])
section
variable {α:Type} {B:Nat} {e:TypeId} {f:α→List Value} {w:World} {svs:List Value} {ps:List α}
theorem rY.nil:rY B e f w [] []:=⟨rfl,fun i h=>by simp at h⟩
theorem rY.kept {w':World} {row:Option Nat} (h:rY B e f w svs ps) (hg:w.grownBy w' row) (hr:∀ k,row=some k→B≤k∨wK w e k):rY B e f w' svs ps :=
 ⟨h.1,fun i h1 h2=>(h.2 i h1 h2).kept hg hr⟩
theorem rY.mono {B':Nat} (h:rY B e f w svs ps) (hB:B≤B'):rY B' e f w svs ps:=⟨h.1,fun i h1 h2=>(h.2 i h1 h2).mono hB⟩
theorem rY.snoc {sv:Value} {p:α} (h:rY B e f w svs ps) (hs:RowT B e w sv (f p)):rY B e f w (svs ++ [sv]) (ps ++ [p]):=by
 refine ⟨by simp [h.1],fun i h1 h2=>?_⟩
 by_cases hi:i < svs.length
 ·rw [List.getElem_append_left hi,List.getElem_append_left (by rw [← h.1];exact hi)]
  exact h.2 i hi _
 ·have:i=svs.length:=by simp at h1;omega
  subst this
  rw [List.getElem_append_right (Nat.le_refl _),List.getElem_append_right (by rw [h.1];exact Nat.le_refl _)]
  simpa [h.1] using hs
end
theorem mL {P:Program} {W:World} {g:Nat} {c:Int} (src e:TypeId) (hs:P.underlying src=some (.slice e)) (he:P.underlying e=some (.int .u8)) (dst:TypeId) (hd:P.underlying dst=some .string)
  (h:W.cell? ⟨g,0,none⟩=some (.int .u8 c)):(convert src dst (.slice (some ⟨g,0,none⟩) 1 1)).run P W=.ok (.string (strOfNums [c])) W:=by
 refine run_convert_bytes_arg W src e hs he g 0 1 1 [c] rfl (fun i hi=>?_) dst hd
 have:i=0:=by simp at hi;omega
 subst this
 simpa using h
section
variable {P:Program} {md:Region.Mode} {ops:Array Oper} {Q:Exit→Act→World→Prop}
def tG (P:Program) (md:Region.Mode) (ops:Array Oper) (Q:Exit→Act→World→Prop) (G:Array Bool→World→Prop):Nat→Array Bool→Act→World→Prop
 | 0,listed,a,w=>Region.ready md ops listed=[]∧Q .normal a w
 | fuel+1,listed,a,w =>
  (Region.ready md ops listed=[]→Q .normal a w) ∧
  ∀ i∈Region.ready md ops listed,wpOp P ops Q i (fun a' w'=>G (listed.setIfInBounds i true) w'∧tG P md ops Q G fuel (listed.setIfInBounds i true) a' w') a w
variable {G:Array Bool→World→Prop}
theorem dD:∀ (fuel:Nat) (listed:Array Bool) (a:Act) (w:World),tG P md ops Q G fuel listed a w→wpAny P md ops Q fuel listed a w
 | 0,_,_,_,h=>h
 | fuel+1,_,_,_,h=>⟨h.1,fun i hi=>wpOp_mono (fun a' w' h'=>dD fuel _ a' w' h'.2) (h.2 i hi)⟩
theorem iW {S:World→Prop} {U:Array Bool→Prop} {i:Nat} {oi:Oper} {v:Value} (hi:ops[i]?=some oi) (hsel:∀ (j:Nat) (o:Oper) cs b,ops[j]?=some o→o.op≠.select cs b)
  (hQ:∀ c a w,Q (.panic c) (a.put oi.dst v) w→Q (.panic c) a w)
  (hU:∀ listed j,U listed→i∈Region.ready md ops listed→j∈Region.ready md ops listed→j≠i→U (listed.setIfInBounds j true))
  (hG:∀ listed w,U listed→G listed w→S w) (hGi:∀ listed w,U listed→i∈Region.ready md ops listed→G listed w→G (listed.setIfInBounds i true) w)
  (hGj:∀ listed j w,U listed→i∈Region.ready md ops listed→j∈Region.ready md ops listed→j≠i→G ((listed.setIfInBounds i true).setIfInBounds j true) w→G (listed.setIfInBounds j true) w) :
  ∀ (fuel:Nat) (listed:Array Bool) (a:Act) (w:World),
   (∀ j oj,ops[j]?=some oj→j≠i→listed.getD j true=false→(∀ e∈oj.after,Region.binds md e=true→e.on≠i)→oi.apart ops oj=true) →
   i∈Region.ready md ops listed→U listed→YieldsIf P ops S oi v a→G listed w →
   tG P md ops Q G fuel (listed.setIfInBounds i true) (a.put oi.dst v) w→tG P md ops Q G (fuel+1) listed a w:=by
 intro fuel
 induction fuel with
 | zero =>
  intro listed a w _ hr hu hy hS H
  refine ⟨fun h=>(by rw [h] at hr;cases hr),fun j hj=>?_⟩
  by_cases hji:j=i
  ·subst hji;exact hy.wpOp hi (hG _ _ hu hS) ⟨hGi _ _ hu hr hS,H⟩
  ·have:=ready_mono hj hji
   rw [H.1] at this
   cases this
 | succ fuel ih =>
  intro listed a w hfree hr hu hy hS H
  refine ⟨fun h=>(by rw [h] at hr;cases hr),fun j hj=>?_⟩
  by_cases hji:j=i
  ·subst hji;exact hy.wpOp hi (hG _ _ hu hS) ⟨hGi _ _ hu hr hS,H⟩
  ·have h1:=H.2 j (ready_mono hj hji)
   obtain ⟨hjun,oj,hoj,hall⟩:=mem_ready.1 hj
   have hnot:∀ e∈oj.after,Region.binds md e=true→e.on≠i:=fun e he hb heq=>by
    have h1:=hall e he hb
    have h0:=(mem_ready.1 hr).1
    rw [heq] at h1
    rcases Nat.lt_or_ge i listed.size with h'|h'
    ·simp [h'] at h0 h1;rw [h0] at h1;cases h1
    ·simp [Array.getElem?_eq_none h'] at h1
   have h2:=wpOp_putIf hoj (hfree j oj hoj hji hjun hnot) (fun cs b=>hsel i oi cs b hi) (fun cs b=>hsel j oj cs b hoj) hQ hy h1
   have hfree':∀ k ok,ops[k]?=some ok→k≠i→(listed.setIfInBounds j true).getD k true=false →
     (∀ e∈ok.after,Region.binds md e=true→e.on≠i)→oi.apart ops ok=true:=fun k ok hk hki hun hno=>by
    refine hfree k ok hk hki ?_ hno
    by_cases hjk:j=k
    ·subst hjk;exact hjun
    ·rw [Go.getD_set_ne true hjk] at hun;exact hun
   have hu':=hU listed j hu hr hj hji
   refine wpOp_mono (fun a' w' h3=>?_) h2
   have hGw:=hGj listed j w' hu hr hj hji h3.2.1
   refine ⟨hGw,ih (listed.setIfInBounds j true) a' w' hfree' (ready_mono hr (Ne.symm hji)) hu' h3.1 hGw ?_⟩
   rw [Array.setIfInBounds_comm _ _ hji]
   exact h3.2.2
def vV (s:Nat) (A B:World→Prop) (listed:Array Bool) (w:World):Prop:=A w∧(listed.getD s true=false→B w)
theorem uO {l:Array Bool} {i:Nat}:(l.setIfInBounds i true).getD i true=true:=by
 rcases Nat.lt_or_ge i l.size with h|h
 ·simp [h]
 ·simp [h]
theorem bU {s j:Nat} {A B:World→Prop} {listed:Array Bool} {w:World} (h:vV s A B listed w):vV s A B (listed.setIfInBounds j true) w:=by
 refine ⟨h.1,fun hs=>h.2 ?_⟩
 by_cases e:j=s
 ·subst e;rw [uO] at hs;cases hs
 ·rwa [Go.getD_set_ne true e] at hs
theorem fH {s i j:Nat} {A B:World→Prop} {listed:Array Bool} {w:World} (hne:i≠s) (h:vV s A B ((listed.setIfInBounds i true).setIfInBounds j true) w):vV s A B (listed.setIfInBounds j true) w:=by
 refine ⟨h.1,fun hs=>h.2 ?_⟩
 by_cases e:j=s
 ·subst e;rw [uO] at hs;cases hs
 ·rw [Go.getD_set_ne true e] at hs ⊢
  rwa [Go.getD_set_ne true hne]
variable {s:Nat} {A B:World→Prop}
theorem takeA {i:Nat} {oi:Oper} {v:Value} {fuel:Nat} {listed:Array Bool} {a:Act} {w:World} (hi:ops[i]?=some oi) (hne:(i == s)=false)
  (hs:Region.noSelect ops=true) (hf:Region.free md ops listed i=true) (hr:(Region.ready md ops listed).contains i=true)
  (hQ:∀ c a w,Q (.panic c) (a.put oi.dst v) w→Q (.panic c) a w) (hy:YieldsIf P ops A oi v a) (hG:vV s A B listed w)
  (h:tG P md ops Q (vV s A B) fuel (listed.setIfInBounds i true) (a.put oi.dst v) w):tG P md ops Q (vV s A B) (fuel+1) listed a w :=
 iW (S:=A) (U:=fun _=>True) hi (Region.noSelect_spec hs) hQ (fun _ _ _ _ _ _=>trivial) (fun _ _ _ h=>h.1) (fun _ _ _ _ h=>bU h)
  (fun _ _ _ _ _ _ _ h=>fH (by simpa using hne) h) fuel listed a w (Region.free_spec hi hf) (by simpa using hr) trivial hy hG h
theorem takeB {i:Nat} {oi:Oper} {v:Value} {fuel:Nat} {listed:Array Bool} {a:Act} {w:World} (hi:ops[i]?=some oi) (hne:(i == s)=false)
  (hw:(match ops[s]? with|some os=>os.after.any fun e=>Region.binds md e && (e.on == i)|none=>false)=true) (hun:listed.getD s true=false)
  (hs:Region.noSelect ops=true) (hf:Region.free md ops listed i=true) (hr:(Region.ready md ops listed).contains i=true)
  (hQ:∀ c a w,Q (.panic c) (a.put oi.dst v) w→Q (.panic c) a w) (hy:YieldsIf P ops (fun w=>A w∧B w) oi v a) (hG:vV s A B listed w)
  (h:tG P md ops Q (vV s A B) fuel (listed.setIfInBounds i true) (a.put oi.dst v) w):tG P md ops Q (vV s A B) (fuel+1) listed a w:=by
 refine iW (S:=fun w=>A w∧B w) (U:=fun l=>l.getD s true=false) hi (Region.noSelect_spec hs) hQ (fun l j hu hir hj hji=>?_) (fun l w hu h=>⟨h.1,h.2 hu⟩) (fun _ _ _ _ h=>bU h)
  (fun _ _ _ _ _ _ _ h=>fH (by simpa using hne) h) fuel listed a w (Region.free_spec hi hf) (by simpa using hr) hun hy hG h
 by_cases e:j=s
 ·subst e
  exfalso
  obtain ⟨hjun,oj,hoj,hall⟩:=mem_ready.1 hj
  rw [hoj] at hw
  simp only [Array.any_eq_true,Bool.and_eq_true,beq_iff_eq] at hw
  obtain ⟨k,hk,hb,he⟩:=hw
  have h1:=hall _ (Array.getElem_mem hk) hb
  have h0:=(mem_ready.1 hir).1
  rw [he] at h1
  rcases Nat.lt_or_ge i l.size with h'|h'
  ·simp [h'] at h0 h1;rw [h0] at h1;cases h1
  ·simp [Array.getElem?_eq_none h'] at h1
 ·rw [Go.getD_set_ne true e];exact hu
theorem nW {listed:Array Bool} {a:Act} {w:World} (hr:Region.ready md ops listed=[]) (h:Q .normal a w):∀ fuel,tG P md ops Q G fuel listed a w
 | 0=>⟨hr,h⟩
 | _+1=>⟨fun _=>h,by rw [hr];simp⟩
theorem oneG {i:Nat} {o:Oper} {fuel:Nat} {listed:Array Bool} {a:Act} {w:World} (hr:Region.ready md ops listed=[i]) (ho:ops[i]?=some o)
  (h:∀ K':Act→World→Prop,Shut (∀ a w,G (listed.setIfInBounds i true) w→tG P md ops Q G fuel (listed.setIfInBounds i true) a w→K' a w)→if Region.wanted o (yielded ops a.tmps)=true then Oper.wp P o a w K' Q else K' (a.put o.dst undef) w) :
  tG P md ops Q G (fuel+1) listed a w:=by
 refine ⟨fun h0=>(by rw [hr] at h0;cases h0),fun j hj=>?_⟩
 rw [hr] at hj
 have:j=i:=by simpa using hj
 subst this
 exact wpOp_step ho (fun K' hK=>h K' (fun a w hG hW=>hK a w ⟨hG,hW⟩))
theorem twoG {i j:Nat} {o o':Oper} {fuel:Nat} {listed:Array Bool} {a:Act} {w:World} (hr:Region.ready md ops listed=[i,j]) (ho:ops[i]?=some o) (ho':ops[j]?=some o')
  (h:∀ K':Act→World→Prop,Shut (∀ a w,G (listed.setIfInBounds i true) w→tG P md ops Q G fuel (listed.setIfInBounds i true) a w→K' a w)→if Region.wanted o (yielded ops a.tmps)=true then Oper.wp P o a w K' Q else K' (a.put o.dst undef) w)
  (h':∀ K':Act→World→Prop,Shut (∀ a w,G (listed.setIfInBounds j true) w→tG P md ops Q G fuel (listed.setIfInBounds j true) a w→K' a w)→if Region.wanted o' (yielded ops a.tmps)=true then Oper.wp P o' a w K' Q else K' (a.put o'.dst undef) w) :
  tG P md ops Q G (fuel+1) listed a w:=by
 refine ⟨fun h0=>(by rw [hr] at h0;cases h0),fun k hk=>?_⟩
 rw [hr] at hk
 rcases (by simpa using hk:k=i∨k=j) with rfl|rfl
 ·exact wpOp_step ho (fun K' hK=>h K' (fun a w hG hW=>hK a w ⟨hG,hW⟩))
 ·exact wpOp_step ho' (fun K' hK=>h' K' (fun a w hG hW=>hK a w ⟨hG,hW⟩))
theorem yY {id:Nat} {a:Act} {w:World} (hm:P.follows .mixedOrders=true)
  (h:tG P .any ops Q G ops.size (Array.replicate ops.size false) a w.drew):(Code.region id ops true).wp P Q a w :=
 wp_region_any hm (dD _ _ _ _ h)
end
theorem takeC {P:Program} {md:Region.Mode} {ops:Array Oper} {Q:Exit→Act→World→Prop} {s:Nat} {A B:World→Prop} {i:Nat} {oi:Oper} {v:Value} {fuel:Nat} {listed:Array Bool} {a:Act} {w:World} (hi:ops[i]?=some oi) (hne:(i == s)=false) (hy:YieldsIf P ops A oi v a) (hG:vV s A B listed w)
    (h:tG P md ops Q (vV s A B) fuel (listed.setIfInBounds i true) (a.put oi.dst v) w)
    (hs:Region.noSelect ops=true:=by kernel_rfl) (hf:Region.free md ops listed i=true:=by kernel_rfl) (hr:(Region.ready md ops listed).contains i=true:=by kernel_rfl)
    (hQ:∀ c a w,Q (.panic c) (a.put oi.dst v) w→Q (.panic c) a w:=by exact fun _ _ _ h=>h):tG P md ops Q (vV s A B) (fuel+1) listed a w:=takeA hi hne hs hf hr hQ hy hG h
theorem takeD {P:Program} {md:Region.Mode} {ops:Array Oper} {Q:Exit→Act→World→Prop} {s:Nat} {A B:World→Prop} {i:Nat} {oi:Oper} {v:Value} {fuel:Nat} {listed:Array Bool} {a:Act} {w:World} (hi:ops[i]?=some oi) (hne:(i == s)=false) (hy:YieldsIf P ops (fun w=>A w∧B w) oi v a) (hG:vV s A B listed w)
    (h:tG P md ops Q (vV s A B) fuel (listed.setIfInBounds i true) (a.put oi.dst v) w)
    (hw:(match ops[s]? with|some os=>os.after.any fun e=>Region.binds md e && (e.on == i)|none=>false)=true:=by kernel_rfl) (hun:listed.getD s true=false:=by rfl)
    (hs:Region.noSelect ops=true:=by kernel_rfl) (hf:Region.free md ops listed i=true:=by kernel_rfl) (hr:(Region.ready md ops listed).contains i=true:=by kernel_rfl)
    (hQ:∀ c a w,Q (.panic c) (a.put oi.dst v) w→Q (.panic c) a w:=by exact fun _ _ _ h=>h):tG P md ops Q (vV s A B) (fuel+1) listed a w:=takeB hi hne hw hun hs hf hr hQ hy hG h
end Go.Proofs.YtdjhoadoiknaoaaDoor
