/- Part 1 of the proof: Base, Word, Pat. -/
import Derived.Test.YtjfdomfendbhfaaRows
import Derived.WalkKit
import Derived.WalkSpells
import Derived.WalkLawsBesides
import Derived.Lib.Hide
import Derived.BigQuiet
import Derived.Deep.QuietTactic
set_option linter.unusedVariables false
set_option linter.unusedSimpArgs false
namespace Go.Proofs.Ytjfdomfendbhfaa
open Go.RowKit
theorem Oj {α:Type _} {a b:α} (h:some a=some b):a=b:=Option.some.inj h
theorem Ga (w:World) (o:Obj) (r:Option Nat):w.grownBy (w.alloc o) r:=World.grownBy_alloc w o r
theorem Kh {p:Prop} (h:p):Hid p:=Lib.hid h
theorem sPa (xs:List Value) (i:Nat) (x:Value):xs.toArray.setIfInBounds i x=(xs.set i x).toArray:=List.setIfInBounds_toArray ..
theorem sPb (a b:Value) (l:List Value):(a :: l).set 0 b=b :: l:=rfl
theorem sPc (a b:Value) (n:Nat) (l:List Value):(a :: l).set (n+1) b=a :: l.set n b:=rfl
theorem sPd {xs:List Value} {i:Nat} (h:i < xs.toArray.size):xs.toArray[i]=xs[i]'(by simpa using h):=List.getElem_toArray h
theorem sPe {a:Value} {l:List Value} {h:0 < (a :: l).length}:(a :: l)[0]'h=a:=rfl
theorem sPf {a:Value} {l:List Value} {i:Nat} {h:i+1 < (a :: l).length}:(a :: l)[i+1]'h=l[i]'(Nat.lt_of_succ_lt_succ h):=rfl
theorem yD {a b:Bool} (h:a=b):Ending.returned (.bool a)=.returned (.bool b):=by rw[h]
theorem yF {k:IntKind} {a b:Int} (h:a=b):Ending.returned (.int k a)=.returned (.int k b):=by rw[h]
def vH (w:World) (b off:Nat) (xs:List Value):Prop:=b < w.heap.size/\∀ i (h:i < xs.length),w.cell? ⟨b,off+i,none⟩=some xs[i]
def Row (B:Nat) (w:World) (v:Value) (xs:List Value):Prop :=
 (∃ a cap,v=.slice a 0 cap/\xs=[])\/∃ b off cap,v=.slice (some ⟨b,off,none⟩) xs.length cap/\b < B/\xs.length<=cap/\cap<=maxLen/\vH w b off xs
theorem vH.kept {w w':World} {b off:Nat} {xs:List Value} {row:Option Nat} (h:vH w b off xs) (hg:w.grownBy w' row) (hr:row≠some b):vH w' b off xs :=
 ⟨Nat.lt_of_lt_of_le h.1 hg.size,fun i hi=>(World.cell?_of_block (hg.block b h.1 (fun e=>hr e.symm))).trans (h.2 i hi)⟩
theorem Row.kept {B:Nat} {w w':World} {v:Value} {xs:List Value} {row:Option Nat} (h:Row B w v xs) (hg:w.grownBy w' row) (hr:∀ k,row=some k->B<=k):Row B w' v xs:=by
 rcases h with h|⟨b,off,cap,h1,h2,h3,h4,h5⟩
 ·exact .inl h
 ·exact .inr ⟨b,off,cap,h1,h2,h3,h4,h5.kept hg (fun e=>by have:=hr b e;omega)⟩
theorem Row.mono {B B':Nat} {w:World} {v:Value} {xs:List Value} (h:Row B w v xs) (hB:B<=B'):Row B' w v xs:=by
 rcases h with h|⟨b,off,cap,h1,h2,h3⟩
 ·exact .inl h
 ·exact .inr ⟨b,off,cap,h1,by omega,h3⟩
theorem vH.of_heap {w w':World} {b off:Nat} {xs:List Value} (h:vH w b off xs) (e:w'.heap=w.heap):vH w' b off xs :=
 ⟨by rw[e];exact h.1,fun i hi=>(World.cell?_of_block (by rw[e])).trans (h.2 i hi)⟩
theorem Row.of_heap {B:Nat} {w w':World} {v:Value} {xs:List Value} (h:Row B w v xs) (e:w'.heap=w.heap):Row B w' v xs:=by
 rcases h with h|⟨b,off,cap,h1,h2,h3,h4,h5⟩
 ·exact .inl h
 ·exact .inr ⟨b,off,cap,h1,h2,h3,h4,h5.of_heap e⟩
theorem uW {w a b:World} {row:Option Nat} (h:w.grownBy a row) (h1:b.os=a.os) (h2:b.tape=a.tape) (h3:b.output=a.output) (h4:b.heap=a.heap):w.grownBy b row :=
 ⟨h1.trans h.os,h2.trans h.tape,h3.trans h.output,by rw[h4];exact h.size,fun k hk hne=>by rw[h4];exact h.block k hk hne⟩
theorem zN (w:World) (row:Option Nat):w.grownBy w row:=⟨rfl,rfl,rfl,Nat.le_refl _,fun _ _ _=>rfl⟩
theorem zU (w:World) (n:Nat) (row:Option Nat):w.grownBy (w.drewN n) row:=⟨rfl,rfl,rfl,Nat.le_refl _,fun _ _ _=>rfl⟩
theorem zL (w:World) (row:Option Nat):w.grownBy w.drew row:=⟨rfl,rfl,rfl,Nat.le_refl _,fun _ _ _=>rfl⟩
theorem yW {a b c:World} {r s row:Option Nat} (h:a.grownBy b r) (k:b.grownBy c s) (hr:r=none\/r=row\/∃ x,r=some x/\a.heap.size<=x) (hs:s=none\/s=row\/∃ x,s=some x/\a.heap.size<=x):a.grownBy c row:=by
 refine⟨k.os.trans h.os,k.tape.trans h.tape,k.output.trans h.output,Nat.le_trans h.size k.size,fun i hi hne=>?_⟩
 refine(k.block i (Nat.lt_of_lt_of_le hi h.size) ?_).trans (h.block i hi ?_)
 ·rcases hs with rfl|rfl|⟨x,rfl,hx⟩
  ·simp
  ·exact hne
  ·simp;omega
 ·rcases hr with rfl|rfl|⟨x,rfl,hx⟩
  ·simp
  ·exact hne
  ·simp;omega
theorem zD {a b c:World} {row:Option Nat} (h:a.grownBy b row) (k:b.grownBy c row):a.grownBy c row:=yW h k (.inr (.inl rfl)) (.inr (.inl rfl))
theorem zC (w:World) (p:Addr) (u:Value):w.grownBy (w.setCell p u) (some p.block) :=
 ⟨rfl,rfl,rfl,by simp[World.setCell],fun k _ hk=>Below.heap_setCell _ _ _ _ (fun e=>hk (by rw[e]))⟩
theorem yY {a b:World} {row:Option Nat} (h:a.grownBy b none):a.grownBy b row :=
 ⟨h.os,h.tape,h.output,h.size,fun k hk _=>h.block k hk (by simp)⟩
theorem below_of_grown {a b:World} (h:a.grownBy b none):Below a.heap.size a b:=⟨h.os,h.tape,h.output,h.size,fun k hk=>h.block k hk (by simp)⟩
theorem oA {a b:World} {row:Option Nat} (h:Below a.heap.size a b):a.grownBy b row:=⟨h.os,h.tape,h.output,h.size,fun k hk _=>h.block k hk⟩
section
variable {P:Program} {f:FuncId} {args:Array Value} {w:World} {a n:Nat} {v:Value}
theorem quiet_left (h:Calls P f args (w.drewN n) fun e w'=>e=.returned v/\w.drewN n=w'):Calls P f args (w.drewN n) fun e w''=>e=.returned v/\∃ m,w''=w.drewN m :=
 h.mono fun _ _ ⟨he,hm⟩=>⟨he,n,hm.symm⟩
theorem uJ (h:Calls P f args (w.drewN (a+n)) fun e w'=>e=.returned v/\w.drewN (a+n)=w') :
  Calls P f args (w.drewN (a+n)) fun e w''=>e=.returned v/\∃ m,w''=w.drewN (a+m) :=
 h.mono fun _ _ ⟨he,hm⟩=>⟨he,n,hm.symm⟩
end
structure ElemOk (P:Program) (t e:TypeId) (z:Value) (bytes:Nat):Prop where
 ht:P.underlying t=some (.slice e)
 hi:(P.info? e).map (fun i=>(i.zero,i.size,i.bytes))=some (some z,1,bytes)
 hz:z.cells.size=1
theorem pJ {w:World} {base e size:Nat} {v:Value} {n:Nat} {xs:List Value} (h:w.ownsRow base e size v n xs):∃ sa sc,v=.slice sa n sc:=by
 rcases h.2 with ⟨rfl,rfl⟩|⟨g,cap,cur,rfl,_⟩
 ·exact⟨none,0,rfl⟩
 ·exact⟨_,_,rfl⟩
theorem zH {w:World} {b:Nat} {o:Obj} (h:w.heap[b]?=some o):b < w.heap.size:=(Array.getElem?_eq_some_iff.1 h).1
theorem app1 {P:Program} {w:World} {ops:Array Oper} {rest:List Oper} {o:Oper} {a:Act} {Q:Exit->Act->World->Prop} (hgd:o.guard=none) (s x:Operand) (t:TypeId)
  (ho:o.op=.call { callee:=.builtin .append,args:=#[s,x],argTypes:=#[t,t] })
  {e:TypeId} {z:Value} {bytes:Nat} (E:ElemOk P t e z bytes) (base:Nat) (v:Value) (n:Nat) (xs:List Value) (hs:a.eval s=v) (hown:w.ownsRow base e 1 v n xs)
  (u:Value) (hx:a.eval x=.slice (some ⟨w.heap.size,0,none⟩) 1 1) (h1:u.oneCell'=true) (h63:n+1<=maxLen) (hbytes:(n+1) * bytes<=140737488355328) (hbase:base<=w.heap.size)
  (h:∀ sa sc w',w'.ownsRow base e 1 (.slice sa (n+1) sc) (n+1) (xs ++ [u])->w.grownBy w' v.ownBlock->w.heap.size < w'.heap.size->wpList P ops Q rest (a.put o.dst (.slice sa (n+1) sc)) w') :
  wpList P ops Q (o :: rest) a (w.alloc (.cells #[u] e)):=by
 obtain⟨i,hi,hz,h0,h3⟩:=info_parts E.hi
 refine wpList_append_own _ hgd s x t ho base e i z 1 bytes E.ht hi hz h0 h3 E.hz (by decide) v n xs hs (hown.alloc _) ⟨w.heap.size,0,none⟩ 1 1 [u] hx rfl ?_ ?_ h63 hbytes (by simp;omega) ?_
 ·intro j u' hj
  match j,hj with
  | 0,hj=>simp at hj;subst hj;simp[Addr.add]
 ·intro u' hu;simp at hu;subst hu;exact h1
 ·intro v' w' h1 h2 _
  obtain⟨sa,sc,rfl⟩:=pJ h1
  refine h sa sc w' h1 ?_ (by have:=h2.size;simp at this;omega)
  refine⟨h2.os,h2.tape,h2.output,by have:=h2.size;simp at this;omega,fun k hk hne=>(h2.block k (by simp;omega) hne).trans ?_⟩
  exact Below.heap_alloc w _ k hk
theorem tM {P:Program} {w:World} {base:Nat} {v:Value} {n:Nat} {xs:List Int} (src e:TypeId) (hs:P.underlying src=some (.slice e)) (he:P.underlying e=some (.int .u8))
  (dst:TypeId) (hd:P.underlying dst=some .string) (hown:w.ownsRow base e 1 v n (xs.map (Value.int .u8))):(convert src dst v).run P w=.ok (.string (strOfNums xs)) w:=by
 have hl:xs.length=n:=by have:=hown.1;simpa using this
 rcases hown.2 with ⟨rfl,rfl⟩|⟨g,cap,cur,rfl,_⟩
 ·have:xs=[]:=List.eq_nil_of_length_eq_zero hl
  subst this
  exact run_convert_bytes_nil w src e hs he 0 0 dst hd
 ·refine run_convert_bytes_arg w src e hs he g 0 n cap xs hl (fun i hi=>?_) dst hd
  rw[Nat.zero_add,hown.cellAt i (by omega)]
  simp[List.getD,List.getElem?_eq_getElem (show i < xs.length by omega)]
theorem Row.of_owns {w:World} {base e:Nat} {v:Value} {n:Nat} {xs:List Value} (h:w.ownsRow base e 1 v n xs):Row w.heap.size w v xs:=by
 have hl:xs.length=n:=by have:=h.1;omega
 rcases h.2 with ⟨rfl,rfl⟩|⟨g,cap,cur,rfl,hb,hg,hnc,hcm,hcs,htake⟩
 ·exact .inl ⟨_,_,rfl,List.eq_nil_of_length_eq_zero hl⟩
 ·have h0:=(Array.getElem?_eq_some_iff.1 hg).1
  refine .inr ⟨g,0,cap,by rw[hl],h0,by omega,hcm,h0,fun i hi=>?_⟩
  rw[Nat.zero_add,h.cellAt i (by omega),List.getElem?_eq_getElem hi]
theorem wD {w w':World} {base e:Nat} {v:Value} {n:Nat} {xs:List Value} {row:Option Nat} (h:w.ownsRow base e 1 v n xs) (hg:w.grownBy w' row) (hr:∀ k,row=some k->k < base):w'.ownsRow base e 1 v n xs:=by
 refine h.kept hg ?_
 rcases hv:v.ownBlock with _|k
 ·exact .inl rfl
 ·refine .inr fun e=>?_
  have:=hr k e.symm
  have:=(h.lt k hv).1
  omega
theorem zS {w:World} {base e size:Nat} {v:Value} {n:Nat} {xs:List Value} {pb e':Nat} {c:Array Value} {m:Nat × Nat} (h:w.ownsRow base e size v n xs) (hp:w.heap[pb]?=some (.cells c e' m)) (hne:e≠e'):v.ownBlock≠some pb:=by
 rcases h.2 with ⟨rfl,_⟩|⟨g,cap,cur,rfl,_,hg,_⟩
 ·simp[Value.ownBlock]
 ·intro hv
  simp[Value.ownBlock]at hv
  subst hv
  rw[hg]at hp
  simp at hp
  exact hne hp.2.1
theorem zA {w w':World} {row:Option Nat} {pb:Nat} {o:Obj} (h:w.heap[pb]?=some o) (hg:w.grownBy w' row) (hr:row≠some pb):w'.heap[pb]?=some o :=
 (hg.block pb (Array.getElem?_eq_some_iff.1 h).1 (fun e=>hr e.symm)).trans h
theorem zK {w:World} {pb e:Nat} {c:Array Value} {m:Nat × Nat} (h:w.heap[pb]?=some (.cells c e m)) (i:Nat) (hi:i < c.size):w.cell? ⟨pb,i,none⟩=some c[i]:=by
 rw[cell_of_row w pb i _ _ _ h];simp[hi]
theorem zE {w:World} {pb e:Nat} {c:Array Value} (h:w.heap[pb]?=some (.cells c e (0,0))) (i:Nat):w.frozen? ⟨pb,i,none⟩=false:=frozen_of_row w pb i _ _ h
theorem zM (w:World) (o:Obj):(w.alloc o).heap.size=w.heap.size+1:=by simp
theorem xO {w a:World} {row:Option Nat} (h:w.grownBy a row) (o:Obj):w.grownBy (a.alloc o) row:=zD h (Ga a o row)
theorem zB {w a b:World} {row s:Option Nat} (h:w.grownBy a row) (k:a.grownBy b s) (hs:∀ x,s=some x->w.heap.size<=x):w.grownBy b row :=
 yW h k (.inr (.inl rfl)) (by
  rcases s with _|x
  ·exact .inl rfl
  ·exact .inr (.inr ⟨x,rfl,hs x rfl⟩))
theorem vH.map {α:Type} {f:α->Value} {w:World} {b off:Nat} {xs:List α} (h:vH w b off (xs.map f)) (i:Nat) (hi:i < xs.length):w.cell? ⟨b,off+i,none⟩=some (f xs[i]):=by
 rw[h.2 i (by simpa using hi),List.getElem_map]
def Arr (w:World) (g:Nat) (e:TypeId) (xs:List Value):Prop:=∃ cur rest,w.heap[g]?=some (.cells cur e (0,0))/\cur.toList=xs ++ rest
theorem Arr.lt {w:World} {g:Nat} {e:TypeId} {xs:List Value} (h:Arr w g e xs):g < w.heap.size:=by
 obtain⟨_,_,h,_⟩:=h
 exact zH h
theorem Arr.cell {w:World} {g:Nat} {e:TypeId} {xs:List Value} (h:Arr w g e xs) (i:Nat) (hi:i < xs.length):w.cell? ⟨g,i,none⟩=some xs[i]:=by
 obtain⟨cur,rest,h,hc⟩:=h
 rw[cell_of_row w g i _ _ _ h,<- Array.getElem?_toList,hc,List.getElem?_append_left hi,List.getElem?_eq_getElem hi]
theorem Arr.frozen {w:World} {g:Nat} {e:TypeId} {xs:List Value} (h:Arr w g e xs) (i:Nat):w.frozen? ⟨g,i,none⟩=false:=by
 obtain⟨cur,rest,h,hc⟩:=h
 exact frozen_of_row w g i _ _ h
theorem Arr.set {w:World} {g:Nat} {e:TypeId} {xs:List Value} (h:Arr w g e xs) (i:Nat) (hi:i < xs.length) (u:Value):Arr (w.setCell ⟨g,i,none⟩ u) g e (xs.set i u):=by
 obtain⟨cur,rest,h,hc⟩:=h
 refine⟨cur.setIfInBounds i u,rest,heap_setCell_same w g i _ _ _ h,?_⟩
 rw[Array.toList_setIfInBounds,hc,List.set_append_left _ _ hi]
theorem Arr.kept {w w':World} {g:Nat} {e:TypeId} {xs:List Value} {row:Option Nat} (h:Arr w g e xs) (hg:w.grownBy w' row) (hr:row≠some g):Arr w' g e xs:=by
 obtain⟨cur,rest,h,hc⟩:=h
 exact⟨cur,rest,zA h hg hr,hc⟩
theorem Arr.of_heap {w w':World} {g:Nat} {e:TypeId} {xs:List Value} (h:Arr w g e xs) (he:w'.heap=w.heap):Arr w' g e xs:=by
 obtain⟨cur,rest,h,hc⟩:=h
 exact⟨cur,rest,by rw[he];exact h,hc⟩
theorem Arr.of_owns {w:World} {base g n cap:Nat} {e:TypeId} {xs:List Value} (h:w.ownsRow base e 1 (.slice (some ⟨g,0,none⟩) n cap) n xs):Arr w g e xs:=by
 rcases h.2 with ⟨h',_⟩|⟨g',cap',cur,h',hb,hg,hnc,hcm,hcs,htake⟩
 ·simp at h'
 ·simp only[Value.slice.injEq,Option.some.injEq,Addr.mk.injEq,and_true,true_and]at h'
  obtain⟨rfl,rfl⟩:=h'
  refine⟨cur,cur.toList.drop n,hg,?_⟩
  rw[Nat.mul_one]at htake
  rw[<- htake,List.take_append_drop]
theorem Arr.row {w:World} {g:Nat} {e:TypeId} {xs:List Value} (h:Arr w g e xs):vH w g 0 xs:=⟨h.lt,fun i hi=>by rw[Nat.zero_add];exact h.cell i hi⟩
theorem Arr.new (w:World) (e:TypeId) (cs:Array Value):Arr (w.alloc (.cells cs e)) w.heap.size e cs.toList:=⟨cs,[],heap_alloc_new w _,by simp⟩
theorem Arr.front {w:World} {g:Nat} {e:TypeId} {xs ys:List Value} (h:Arr w g e (xs ++ ys)):Arr w g e xs:=by
 obtain⟨cur,rest,h,hc⟩:=h
 exact⟨cur,ys ++ rest,h,by rw[hc,List.append_assoc]⟩
theorem Arr.type_ne {w:World} {g g':Nat} {e e':TypeId} {xs:List Value} {c:Array Value} {m:Nat × Nat} (h:Arr w g e xs) (hp:w.heap[g']?=some (.cells c e' m)) (hne:e≠e'):g≠g':=by
 obtain⟨cur,rest,h,hc⟩:=h
 rintro rfl
 rw[h]at hp
 simp at hp
 exact hne hp.2.1
theorem nI {P:Program} {w:World} {g:Nat} {xs:List Int} (src e:TypeId) (hs:P.underlying src=some (.slice e)) (he:P.underlying e=some (.int .u8))
  (dst:TypeId) (hd:P.underlying dst=some .string) (n cap:Nat) (hn:xs.length=n) (h:Arr w g e (xs.map (Value.int .u8))):(convert src dst (.slice (some ⟨g,0,none⟩) n cap)).run P w=.ok (.string (strOfNums xs)) w:=by
 refine run_convert_bytes_arg w src e hs he g 0 n cap xs hn (fun i hi=>?_) dst hd
 rw[Nat.zero_add,h.cell i (by simp;omega)]
 simp[List.getD,List.getElem?_eq_getElem (show i < xs.length by omega)]
theorem Row.of_arg {k:IntKind} {w:World} {a:Option Addr} {len cap:Nat} {zs:List Int}
  (h:(a=none/\len=0/\cap=0/\zs=[])\/∃ x,a=some x/\len<=cap/\cap<=maxLen/\zs.length=cap/\(∀ i,i < zs.length->w.cell? (x.add i)=some (.int k (zs.getD i 0)))/\∀ n∈zs,(Lit.int k n).wf=true) :
  Row w.heap.size w (.slice a len cap) ((zs.take len).map (Value.int k)):=by
 rcases h with ⟨rfl,rfl,rfl,rfl⟩|⟨x,rfl,h1,h2,h3,h4,_⟩
 ·exact .inl ⟨_,_,rfl,rfl⟩
 ·by_cases hl:len=0
  ·subst hl
   exact .inl ⟨_,_,rfl,by simp⟩
  ·obtain⟨b,off,spot⟩:=x
   have hc:=h4 0 (by omega)
   have h5:spot=none:=by simpa [Addr.add] using World.cell?_spot hc
   subst h5
   have h6:∀ i,(⟨b,off,none⟩:Addr).add i=⟨b,off+i,none⟩:=fun i=>by unfold Addr.add;split <;> simp_all
   have hb:b < w.heap.size:=by rw[h6]at hc;exact World.block_lt_of_cell? w _ hc
   have h0:((zs.take len).map (Value.int k)).length=len:=by simp;omega
   refine .inr ⟨b,off,cap,by rw[h0],hb,by rw[h0];exact h1,h2,hb,fun i hi=>?_⟩
   rw[h0]at hi
   have:=h4 i (by omega)
   rw[h6]at this
   rw[this]
   simp[List.getD,List.getElem?_eq_getElem (show i < zs.length by omega)]
def tJ (letters:Int) (c:UInt8):Bool:=decide (97<=(c.toNat:Int)/\(c.toNat:Int) - 97 < letters)
def zP (s:ByteArray) (letters:Int):Bool:=decide (1<=letters/\letters<=6/\s.size<=2048) && s.data.toList.all (tJ letters)
theorem mY (s:ByteArray) (letters:Int) (k:Nat) (hk:k < s.size) (h:(s[k].toNat:Int) < 97\/letters<=((s[k].toNat:Int) - 97) % 256):zP s letters=false:=by
 have hm:s[k]∈s.data.toList:=by
  have:s[k]=s.data[k]'(by simpa using hk):=rfl
  rw[this];simp
 have h2:tJ letters s[k]=false:=by
  have:=UInt8.toNat_lt s[k]
  simp[tJ];omega
 unfold zP
 rw[Bool.and_eq_false_iff];right
 rw[List.all_eq_false];exact⟨_,hm,by simp[h2]⟩
theorem all_succ (s:ByteArray) (letters:Int) (k:Nat) (hk:k < s.size) (h:(s.data.toList.take k).all (tJ letters)=true)
  (h1:97<=(s[k].toNat:Int)/\((s[k].toNat:Int) - 97) % 256 < letters):(s.data.toList.take (k+1)).all (tJ letters)=true:=by
 rw[List.take_succ_eq_append_getElem (by simpa using hk),List.all_append,h]
 have:s.data.toList[k]'(by simpa using hk)=s[k]:=rfl
 have h3:=UInt8.toNat_lt s[k]
 simp[this,tJ];omega
theorem wordValid_yes (s:ByteArray) (letters:Int) (k:Nat) (hk:s.size<=k) (h:1<=letters/\letters<=6/\s.size<=2048) (ha:(s.data.toList.take k).all (tJ letters)=true):zP s letters=true:=by
 rw[List.take_of_length_le (by simpa using hk)]at ha
 simp[zP,ha,h]
set_option maxHeartbeats 400000 in
theorem tK (s:ByteArray) (letters:Int) (w:World) (hs:s.size<=maxLen) :
  Calls Try.prog 39 #[.string s,.int .i64 letters] w fun e w'=>e=.returned (.bool (zP s letters))/\w=w':=by
 unfold maxLen at hs
 by_cases h1:letters < 1
 ·go_enter Try.func39,Try.ntmps39
  go_wp2
  go_ret
  exact⟨yD (by simp[zP];omega),rfl⟩
 by_cases h2:6 < letters
 ·go_enter Try.func39,Try.ntmps39
  go_wp2
  go_ret
  exact⟨yD (by simp[zP];omega),rfl⟩
 by_cases h3:2048 < s.size
 ·go_enter Try.func39,Try.ntmps39
  go_wp2
  go_ret
  exact⟨yD (by simp[zP];omega),rfl⟩
 go_enter Try.func39,Try.ntmps39
 go_wp2
 go_loop [19] (fun i=>∃ k:Nat,k<=s.size/\i=.int .i64 k/\(s.data.toList.take k).all (tJ letters)=true) (fun i=>s.size - (intOf i).toNat)
 case atStart=>exact⟨0,Nat.zero_le _,rfl,rfl⟩
 case round =>
  obtain⟨k,hk,rfl,h0⟩:=hrel
  have HA:=Kh h0;clear h0
  by_cases hlt:k < s.size
  ·go_wp2
   ·go_ret
    exact⟨yD (by rw[eq_comm];exact mY s letters k hlt (by omega)),rfl⟩
   ·go_round
    case rel=>exact⟨k+1,by omega,by go_num,all_succ s letters k hlt HA.out (by omega)⟩
    case measure=>simp[intOf];omega
   ·go_ret
    exact⟨yD (by rw[eq_comm];exact mY s letters k hlt (by omega)),rfl⟩
  ·go_wp2
   go_ret
   exact⟨yD (by rw[eq_comm];exact wordValid_yes s letters k (by omega) (by omega) HA.out),rfl⟩
def uP (bs:List ByteArray):Nat:=(bs.map (·.size)).sum
def wU (n:Nat) (letters:Int) (i:Nat) (u:ByteArray):Bool:=zP u letters && !(decide (0 < i/\i+1 < n) && u.toList.isEmpty)
def wB (n:Nat) (letters:Int):Nat->List ByteArray->Bool
 | _,[]=>true
 | i,u :: us=>wU n letters i u && wB n letters (i+1) us
def zZ (bs:List ByteArray) (letters:Int):Int :=
 if letters < 1\/6 < letters then 1 else if 8 < bs.length then 3 else if 64 < uP bs then 3
 else if bs.length=0 then 22 else if wB bs.length letters 0 bs then 0 else 22
theorem iH (bs:List ByteArray) (k:Nat) (hk:k < bs.length):uP (bs.take (k+1))=uP (bs.take k)+bs[k].size:=by
 rw[List.take_succ_eq_append_getElem hk];simp only[uP,List.map_append,List.sum_append];simp
theorem kW (bs:List ByteArray) (letters:Int) (j:Nat) (hj:j < bs.length):wB bs.length letters j (bs.drop j)=(wU bs.length letters j bs[j] && wB bs.length letters (j+1) (bs.drop (j+1))):=by
 rw[List.drop_eq_getElem_cons hj];rfl
theorem okFrom_step {bs:List ByteArray} {letters:Int} {j:Nat} (hj:j < bs.length) (hb:wU bs.length letters j bs[j]=true) (h:wB bs.length letters j (bs.drop j)=wB bs.length letters 0 bs) :
  wB bs.length letters (j+1) (bs.drop (j+1))=wB bs.length letters 0 bs:=by
 rw[<- h,kW bs letters j hj,hb,Bool.true_and]
theorem okFrom_bad {bs:List ByteArray} {letters:Int} {j:Nat} (hj:j < bs.length) (hb:wU bs.length letters j bs[j]=false) (h:wB bs.length letters j (bs.drop j)=wB bs.length letters 0 bs) :
  wB bs.length letters 0 bs=false:=by
 rw[<- h,kW bs letters j hj,hb,Bool.false_and]
theorem okBlock_yes {n j:Nat} {letters:Int} {u:ByteArray} (h1:zP u letters=true) (h2:(j=0\/¬ (j:Int) < n - 1)\/u.toList.isEmpty=false):wU n letters j u=true:=by
 unfold wU
 rcases h2 with h2|h2
 ·have:decide (0 < j/\j+1 < n)=false:=by simp;omega
  simp[h1,this]
 ·simp[h1,h2]
theorem okBlock_no1 {n j:Nat} {letters:Int} {u:ByteArray} (h1:¬ zP u letters=true):wU n letters j u=false:=by
 simp[wU,h1]
theorem okBlock_no2 {n j:Nat} {letters:Int} {u:ByteArray} (h:0 < j) (h1:(j:Int) < n - 1) (h2:u.toList.isEmpty=true):wU n letters j u=false:=by
 have:decide (0 < j/\j+1 < n)=true:=by simp;omega
 simp[wU,this,h2]
theorem sT {bs:List ByteArray} {letters:Int} (h1:¬ letters < 1) (h2:¬ 6 < letters) (h3:¬ 8 < bs.length) (h4:¬ 64 < uP bs) (h5:¬ bs.length=0) :
  zZ bs letters=if wB bs.length letters 0 bs then 0 else 22:=by
 unfold zZ
 rw[if_neg (by omega),if_neg h3,if_neg h4,if_neg h5]
end Go.Proofs.Ytjfdomfendbhfaa
