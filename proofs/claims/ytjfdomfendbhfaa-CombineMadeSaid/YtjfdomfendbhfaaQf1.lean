/- Part 1 of the proof. -/
import Derived.Test.YtjfdomfendbhfaaRows
import Derived.WalkKit
import Derived.WalkSpells
import Derived.WalkLawsBesides
import Derived.Lib.Hide
import Derived.BigQuiet
import Derived.Deep.QuietTactic
import Derived.Shelf.Small.Wraps
import Derived.Shelf.Strings.Search1
import Derived.Shelf.Strings.Search2
import Derived.Shelf.Strings.Cut
import Derived.Shelf.LaysM
import Derived.Shelf.Strings.Shaped
import Derived.Shelf.Strings.Prefix
import Derived.Shelf.Bits.Mul64
import Derived.Ground.Names2Prog
import Derived.Shelf.Slices.Clone
import Derived.Test.YtjfdomfendbhfaaProg
import Derived.Deep.LoopGhost
set_option linter.unusedVariables false
set_option linter.unusedSimpArgs false
set_option maxRecDepth 100000
set_option maxHeartbeats 16000000
namespace Go.Proofs.Ytjfdomfendbhfaa
open Go.RowKit
theorem Oj {α:Type _}{a b:α}(h:some a=some b):a=b:=Option.some.inj h
theorem Ga (w:World)(o:Obj)(r:Option Nat):w.grownBy (w.alloc o) r:=World.grownBy_alloc w o r
theorem Kh {p:Prop}(h:p):Hid p:=Lib.hid h
theorem sPa (xs:List Value)(i:Nat)(x:Value):xs.toArray.setIfInBounds i x=(xs.set i x).toArray:=List.setIfInBounds_toArray ..
theorem sPb (a b:Value)(l:List Value):(a::l).set 0 b=b::l:=rfl
theorem sPc (a b:Value)(n:Nat)(l:List Value):(a::l).set (n+1) b=a::l.set n b:=rfl
theorem sPd {α:Type _}{xs:List α}{i:Nat}(h:i<xs.toArray.size):xs.toArray[i]=xs[i]'(by simpa using h):=List.getElem_toArray h
theorem sPe {α:Type _}{a:α}{l:List α}{h:0<(a::l).length}:(a::l)[0]'h=a:=rfl
theorem sPf {α:Type _}{a:α}{l:List α}{i:Nat}{h:i+1<(a::l).length}:(a::l)[i+1]'h=l[i]'(Nat.lt_of_succ_lt_succ h):=rfl
theorem zY {a b:Bool}(h:a=b):Ending.returned (.bool a)=.returned (.bool b):=by rw[h]
theorem yC {k:IntKind}{a b:Int}(h:a=b):Ending.returned (.int k a)=.returned (.int k b):=by rw[h]
def vW (w:World)(b off:Nat)(xs:List Value):Prop:=b<w.heap.size/\∀ i (h:i<xs.length),w.cell? ⟨b,off+i,none⟩=some xs[i]
def Row (B:Nat)(w:World)(v:Value)(xs:List Value):Prop :=
 (∃ a cap,v=.slice a 0 cap/\xs=[])\/∃ b off cap,v=.slice (some ⟨b,off,none⟩) xs.length cap/\b<B/\xs.length<=cap/\cap<=maxLen/\vW w b off xs
theorem vW.kept {w w':World}{b off:Nat}{xs:List Value}{row:Option Nat}(h:vW w b off xs)(hg:w.grownBy w' row)(hr:row≠some b):vW w' b off xs :=
 ⟨Nat.lt_of_lt_of_le h.1 hg.size,fun i hi=>(World.cell?_of_block (hg.block b h.1 (fun e=>hr e.symm))).trans (h.2 i hi)⟩
theorem Row.kept {B:Nat}{w w':World}{v:Value}{xs:List Value}{row:Option Nat}(h:Row B w v xs)(hg:w.grownBy w' row)(hr:∀ k,row=some k->B<=k):Row B w' v xs:=by
 rcases h with h|⟨b,off,cap,h1,h2,h3,h4,h5⟩
 ·exact .inl h
 ·exact .inr ⟨b,off,cap,h1,h2,h3,h4,h5.kept hg (fun e=>by have:=hr b e;omega)⟩
theorem Row.mono {B B':Nat}{w:World}{v:Value}{xs:List Value}(h:Row B w v xs)(hB:B<=B'):Row B' w v xs:=by
 rcases h with h|⟨b,off,cap,h1,h2,h3⟩
 ·exact .inl h
 ·exact .inr ⟨b,off,cap,h1,by omega,h3⟩
theorem vW.of_heap {w w':World}{b off:Nat}{xs:List Value}(h:vW w b off xs)(e:w'.heap=w.heap):vW w' b off xs :=
 ⟨by rw[e];exact h.1,fun i hi=>(World.cell?_of_block (by rw[e])).trans (h.2 i hi)⟩
theorem Row.of_heap {B:Nat}{w w':World}{v:Value}{xs:List Value}(h:Row B w v xs)(e:w'.heap=w.heap):Row B w' v xs:=by
 rcases h with h|⟨b,off,cap,h1,h2,h3,h4,h5⟩
 ·exact .inl h
 ·exact .inr ⟨b,off,cap,h1,h2,h3,h4,h5.of_heap e⟩
theorem vI {w a b:World}{row:Option Nat}(h:w.grownBy a row)(h1:b.os=a.os)(h2:b.tape=a.tape)(h3:b.output=a.output)(h4:b.heap=a.heap):w.grownBy b row :=
 ⟨h1.trans h.os,h2.trans h.tape,h3.trans h.output,by rw[h4];exact h.size,fun k hk hne=>by rw[h4];exact h.block k hk hne⟩
theorem zM (w:World)(row:Option Nat):w.grownBy w row:=⟨rfl,rfl,rfl,Nat.le_refl _,fun _ _ _=>rfl⟩
theorem zN (w:World)(n:Nat)(row:Option Nat):w.grownBy (w.drewN n) row:=⟨rfl,rfl,rfl,Nat.le_refl _,fun _ _ _=>rfl⟩
theorem zP (w:World)(row:Option Nat):w.grownBy w.drew row:=⟨rfl,rfl,rfl,Nat.le_refl _,fun _ _ _=>rfl⟩
theorem xF {a b c:World}{r s row:Option Nat}(h:a.grownBy b r)(k:b.grownBy c s)(hr:r=none\/r=row\/∃ x,r=some x/\a.heap.size<=x)(hs:s=none\/s=row\/∃ x,s=some x/\a.heap.size<=x):a.grownBy c row:=by
 refine⟨k.os.trans h.os,k.tape.trans h.tape,k.output.trans h.output,Nat.le_trans h.size k.size,fun i hi hne=>?_⟩;refine(k.block i (Nat.lt_of_lt_of_le hi h.size) ?_).trans (h.block i hi ?_)
 ·rcases hs with rfl|rfl|⟨x,rfl,hx⟩
  ·simp
  ·exact hne
  ·simp;omega
 ·rcases hr with rfl|rfl|⟨x,rfl,hx⟩
  ·simp
  ·exact hne
  ·simp;omega
theorem zD {a b c:World}{row:Option Nat}(h:a.grownBy b row)(k:b.grownBy c row):a.grownBy c row:=xF h k (.inr (.inl rfl)) (.inr (.inl rfl))
theorem zC (w:World)(p:Addr)(u:Value):w.grownBy (w.setCell p u) (some p.block) :=
 ⟨rfl,rfl,rfl,by simp[World.setCell],fun k _ hk=>Below.heap_setCell _ _ _ _ (fun e=>hk (by rw[e]))⟩
theorem yQ {a b:World}{row:Option Nat}(h:a.grownBy b none):a.grownBy b row :=
 ⟨h.os,h.tape,h.output,h.size,fun k hk _=>h.block k hk (by simp)⟩
theorem below_of_grown {a b:World}(h:a.grownBy b none):Below a.heap.size a b:=⟨h.os,h.tape,h.output,h.size,fun k hk=>h.block k hk (by simp)⟩
theorem lM {a b:World}{row:Option Nat}(h:Below a.heap.size a b):a.grownBy b row:=⟨h.os,h.tape,h.output,h.size,fun k hk _=>h.block k hk⟩
section
variable {P:Program} {f:FuncId} {args:Array Value} {w:World} {a n:Nat} {v:Value}
theorem bC (h:Calls P f args (w.drewN n) fun e w'=>e=.returned v/\w.drewN n=w'):Calls P f args (w.drewN n) fun e w''=>e=.returned v/\∃ m,w''=w.drewN m :=
 h.mono fun _ _ ⟨he,hm⟩=>⟨he,n,hm.symm⟩
theorem sQ (h:Calls P f args (w.drewN (a+n)) fun e w'=>e=.returned v/\w.drewN (a+n)=w'):
  Calls P f args (w.drewN (a+n)) fun e w''=>e=.returned v/\∃ m,w''=w.drewN (a+m) :=
 h.mono fun _ _ ⟨he,hm⟩=>⟨he,n,hm.symm⟩
end
structure ElemOk (P:Program)(t e:TypeId)(z:Value)(bytes:Nat):Prop where
 ht:P.underlying t=some (.slice e)
 hi:(P.info? e).map (fun i=>(i.zero,i.size,i.bytes))=some (some z,1,bytes)
 hz:z.cells.size=1
theorem rU {w:World}{base e size:Nat}{v:Value}{n:Nat}{xs:List Value}(h:w.ownsRow base e size v n xs):∃ sa sc,v=.slice sa n sc:=by
 rcases h.2 with ⟨rfl,rfl⟩|⟨g,cap,cur,rfl,_⟩
 ·exact⟨none,0,rfl⟩
 ·exact⟨_,_,rfl⟩
theorem zI {w:World}{b:Nat}{o:Obj}(h:w.heap[b]?=some o):b<w.heap.size:=(Array.getElem?_eq_some_iff.1 h).1
theorem app1 {P:Program}{w:World}{ops:Array Oper}{rest:List Oper}{o:Oper}{a:Act}{Q:Exit->Act->World->Prop}(hgd:o.guard=none)(s x:Operand)(t:TypeId)(ho:o.op=.call { callee:=.builtin .append,args:=#[s,x],argTypes:=#[t,t] }){e:TypeId}{z:Value}{bytes:Nat}(E:ElemOk P t e z bytes)(base:Nat)(v:Value)(n:Nat)(xs:List Value)(hs:a.eval s=v)(hown:w.ownsRow base e 1 v n xs)(u:Value)(hx:a.eval x=.slice (some ⟨w.heap.size,0,none⟩) 1 1)(h1:u.oneCell'=true)(h63:n+1<=maxLen)(hbytes:(n+1) * bytes<=140737488355328)(hbase:base<=w.heap.size)(h:∀ sa sc w',w'.ownsRow base e 1 (.slice sa (n+1) sc) (n+1) (xs++[u])->w.grownBy w' v.ownBlock->w.heap.size<w'.heap.size->wpList P ops Q rest (a.put o.dst (.slice sa (n+1) sc)) w'):
  wpList P ops Q (o::rest) a (w.alloc (.cells #[u] e)):=by
 obtain⟨i,hi,hz,h0,h3⟩:=info_parts E.hi;refine wpList_append_own _ hgd s x t ho base e i z 1 bytes E.ht hi hz h0 h3 E.hz (by decide) v n xs hs (hown.alloc _) ⟨w.heap.size,0,none⟩ 1 1 [u] hx rfl ?_ ?_ h63 hbytes (by simp;omega) ?_
 ·intro j u' hj
  match j,hj with
  | 0,hj=>simp at hj;subst hj;simp[Addr.add]
 ·intro u' hu;simp at hu;subst hu;exact h1
 ·intro v' w' h1 h2 _
  obtain⟨sa,sc,rfl⟩:=rU h1;refine h sa sc w' h1 ?_ (by have:=h2.size;simp at this;omega);refine⟨h2.os,h2.tape,h2.output,by have:=h2.size;simp at this;omega,fun k hk hne=>(h2.block k (by simp;omega) hne).trans ?_⟩;exact Below.heap_alloc w _ k hk
theorem rR {P:Program}{w:World}{base:Nat}{v:Value}{n:Nat}{xs:List Int}(src e:TypeId)(hs:P.underlying src=some (.slice e))(he:P.underlying e=some (.int .u8))(dst:TypeId)(hd:P.underlying dst=some .string)(hown:w.ownsRow base e 1 v n (xs.map (Value.int .u8))):(convert src dst v).run P w=.ok (.string (strOfNums xs)) w:=by
 have hl:xs.length=n:=by have:=hown.1;simpa using this
 rcases hown.2 with ⟨rfl,rfl⟩|⟨g,cap,cur,rfl,_⟩
 ·have:xs=[]:=List.eq_nil_of_length_eq_zero hl
  subst this;exact run_convert_bytes_nil w src e hs he 0 0 dst hd
 ·refine run_convert_bytes_arg w src e hs he g 0 n cap xs hl (fun i hi=>?_) dst hd
  rw[Nat.zero_add,hown.cellAt i (by omega)];simp[List.getD,List.getElem?_eq_getElem (show i<xs.length by omega)]
theorem Row.of_owns {w:World}{base e:Nat}{v:Value}{n:Nat}{xs:List Value}(h:w.ownsRow base e 1 v n xs):Row w.heap.size w v xs:=by
 have hl:xs.length=n:=by have:=h.1;omega
 rcases h.2 with ⟨rfl,rfl⟩|⟨g,cap,cur,rfl,hb,hg,hnc,hcm,hcs,htake⟩
 ·exact .inl ⟨_,_,rfl,List.eq_nil_of_length_eq_zero hl⟩
 ·have h0:=(Array.getElem?_eq_some_iff.1 hg).1
  refine .inr ⟨g,0,cap,by rw[hl],h0,by omega,hcm,h0,fun i hi=>?_⟩;rw[Nat.zero_add,h.cellAt i (by omega),List.getElem?_eq_getElem hi]
theorem yM {w w':World}{base e:Nat}{v:Value}{n:Nat}{xs:List Value}{row:Option Nat}(h:w.ownsRow base e 1 v n xs)(hg:w.grownBy w' row)(hr:∀ k,row=some k->k<base):w'.ownsRow base e 1 v n xs:=by
 refine h.kept hg ?_;rcases hv:v.ownBlock with _|k
 ·exact .inl rfl
 ·refine .inr fun e=>?_
  have:=hr k e.symm;have:=(h.lt k hv).1;omega
theorem zS {w:World}{base e size:Nat}{v:Value}{n:Nat}{xs:List Value}{pb e':Nat}{c:Array Value}{m:Nat×Nat}(h:w.ownsRow base e size v n xs)(hp:w.heap[pb]?=some (.cells c e' m))(hne:e≠e'):v.ownBlock≠some pb:=by
 rcases h.2 with ⟨rfl,_⟩|⟨g,cap,cur,rfl,_,hg,_⟩
 ·simp[Value.ownBlock]
 ·intro hv
  simp[Value.ownBlock]at hv;subst hv;rw[hg]at hp;simp at hp;exact hne hp.2.1
theorem zA {w w':World}{row:Option Nat}{pb:Nat}{o:Obj}(h:w.heap[pb]?=some o)(hg:w.grownBy w' row)(hr:row≠some pb):w'.heap[pb]?=some o :=
 (hg.block pb (Array.getElem?_eq_some_iff.1 h).1 (fun e=>hr e.symm)).trans h
theorem zJ {w:World}{pb e:Nat}{c:Array Value}{m:Nat×Nat}(h:w.heap[pb]?=some (.cells c e m))(i:Nat)(hi:i<c.size):w.cell? ⟨pb,i,none⟩=some c[i]:=by
 rw[cell_of_row w pb i _ _ _ h];simp[hi]
theorem zE {w:World}{pb e:Nat}{c:Array Value}(h:w.heap[pb]?=some (.cells c e (0,0)))(i:Nat):w.frozen? ⟨pb,i,none⟩=false:=frozen_of_row w pb i _ _ h
theorem zO (w:World)(o:Obj):(w.alloc o).heap.size=w.heap.size+1:=by simp
theorem xR {w a:World}{row:Option Nat}(h:w.grownBy a row)(o:Obj):w.grownBy (a.alloc o) row:=zD h (Ga a o row)
theorem zB {w a b:World}{row s:Option Nat}(h:w.grownBy a row)(k:a.grownBy b s)(hs:∀ x,s=some x->w.heap.size<=x):w.grownBy b row :=
 xF h k (.inr (.inl rfl)) (by
  rcases s with _|x
  ·exact .inl rfl
  ·exact .inr (.inr ⟨x,rfl,hs x rfl⟩))
theorem vW.map {α:Type}{f:α->Value}{w:World}{b off:Nat}{xs:List α}(h:vW w b off (xs.map f))(i:Nat)(hi:i<xs.length):w.cell? ⟨b,off+i,none⟩=some (f xs[i]):=by
 rw[h.2 i (by simpa using hi),List.getElem_map]
def Arr (w:World)(g:Nat)(e:TypeId)(xs:List Value):Prop:=∃ cur rest,w.heap[g]?=some (.cells cur e (0,0))/\cur.toList=xs++rest
theorem Arr.lt {w:World}{g:Nat}{e:TypeId}{xs:List Value}(h:Arr w g e xs):g<w.heap.size:=by
 obtain⟨_,_,h,_⟩:=h;exact zI h
theorem Arr.cell {w:World}{g:Nat}{e:TypeId}{xs:List Value}(h:Arr w g e xs)(i:Nat)(hi:i<xs.length):w.cell? ⟨g,i,none⟩=some xs[i]:=by
 obtain⟨cur,rest,h,hc⟩:=h;rw[cell_of_row w g i _ _ _ h,<- Array.getElem?_toList,hc,List.getElem?_append_left hi,List.getElem?_eq_getElem hi]
theorem Arr.frozen {w:World}{g:Nat}{e:TypeId}{xs:List Value}(h:Arr w g e xs)(i:Nat):w.frozen? ⟨g,i,none⟩=false:=by
 obtain⟨cur,rest,h,hc⟩:=h;exact frozen_of_row w g i _ _ h
theorem Arr.set {w:World}{g:Nat}{e:TypeId}{xs:List Value}(h:Arr w g e xs)(i:Nat)(hi:i<xs.length)(u:Value):Arr (w.setCell ⟨g,i,none⟩ u) g e (xs.set i u):=by
 obtain⟨cur,rest,h,hc⟩:=h;refine⟨cur.setIfInBounds i u,rest,heap_setCell_same w g i _ _ _ h,?_⟩;rw[Array.toList_setIfInBounds,hc,List.set_append_left _ _ hi]
theorem Arr.kept {w w':World}{g:Nat}{e:TypeId}{xs:List Value}{row:Option Nat}(h:Arr w g e xs)(hg:w.grownBy w' row)(hr:row≠some g):Arr w' g e xs:=by
 obtain⟨cur,rest,h,hc⟩:=h;exact⟨cur,rest,zA h hg hr,hc⟩
theorem Arr.of_heap {w w':World}{g:Nat}{e:TypeId}{xs:List Value}(h:Arr w g e xs)(he:w'.heap=w.heap):Arr w' g e xs:=by
 obtain⟨cur,rest,h,hc⟩:=h;exact⟨cur,rest,by rw[he];exact h,hc⟩
theorem Arr.of_owns {w:World}{base g n cap:Nat}{e:TypeId}{xs:List Value}(h:w.ownsRow base e 1 (.slice (some ⟨g,0,none⟩) n cap) n xs):Arr w g e xs:=by
 rcases h.2 with ⟨h',_⟩|⟨g',cap',cur,h',hb,hg,hnc,hcm,hcs,htake⟩
 ·simp at h'
 ·simp only[Value.slice.injEq,Option.some.injEq,Addr.mk.injEq,and_true,true_and]at h'
  obtain⟨rfl,rfl⟩:=h';refine⟨cur,cur.toList.drop n,hg,?_⟩;rw[Nat.mul_one]at htake;rw[<- htake,List.take_append_drop]
theorem Arr.row {w:World}{g:Nat}{e:TypeId}{xs:List Value}(h:Arr w g e xs):vW w g 0 xs:=⟨h.lt,fun i hi=>by rw[Nat.zero_add];exact h.cell i hi⟩
theorem Arr.new (w:World)(e:TypeId)(cs:Array Value):Arr (w.alloc (.cells cs e)) w.heap.size e cs.toList:=⟨cs,[],heap_alloc_new w _,by simp⟩
theorem Arr.front {w:World}{g:Nat}{e:TypeId}{xs ys:List Value}(h:Arr w g e (xs++ys)):Arr w g e xs:=by
 obtain⟨cur,rest,h,hc⟩:=h;exact⟨cur,ys++rest,h,by rw[hc,List.append_assoc]⟩
theorem Arr.type_ne {w:World}{g g':Nat}{e e':TypeId}{xs:List Value}{c:Array Value}{m:Nat×Nat}(h:Arr w g e xs)(hp:w.heap[g']?=some (.cells c e' m))(hne:e≠e'):g≠g':=by
 obtain⟨cur,rest,h,hc⟩:=h;rintro rfl;rw[h]at hp;simp at hp;exact hne hp.2.1
theorem oA {P:Program}{w:World}{g:Nat}{xs:List Int}(src e:TypeId)(hs:P.underlying src=some (.slice e))(he:P.underlying e=some (.int .u8))(dst:TypeId)(hd:P.underlying dst=some .string)(n cap:Nat)(hn:xs.length=n)(h:Arr w g e (xs.map (Value.int .u8))):(convert src dst (.slice (some ⟨g,0,none⟩) n cap)).run P w=.ok (.string (strOfNums xs)) w:=by
 refine run_convert_bytes_arg w src e hs he g 0 n cap xs hn (fun i hi=>?_) dst hd;rw[Nat.zero_add,h.cell i (by simp;omega)];simp[List.getD,List.getElem?_eq_getElem (show i<xs.length by omega)]
theorem Row.of_arg {k:IntKind}{w:World}{a:Option Addr}{len cap:Nat}{zs:List Int}(h:(a=none/\len=0/\cap=0/\zs=[])\/∃ x,a=some x/\len<=cap/\cap<=maxLen/\zs.length=cap/\(∀ i,i<zs.length->w.cell? (x.add i)=some (.int k (zs.getD i 0)))/\∀ n∈zs,(Lit.int k n).wf=true):
  Row w.heap.size w (.slice a len cap) ((zs.take len).map (Value.int k)):=by
 rcases h with ⟨rfl,rfl,rfl,rfl⟩|⟨x,rfl,h1,h2,h3,h4,_⟩
 ·exact .inl ⟨_,_,rfl,rfl⟩
 ·by_cases hl:len=0
  ·subst hl
   exact .inl ⟨_,_,rfl,by simp⟩
  ·obtain⟨b,off,spot⟩:=x
   have hc:=h4 0 (by omega);have h5:spot=none:=by simpa [Addr.add] using World.cell?_spot hc
   subst h5;have h6:∀ i,(⟨b,off,none⟩:Addr).add i=⟨b,off+i,none⟩:=fun i=>by unfold Addr.add;split<;>simp_all
   have hb:b<w.heap.size:=(by rw[h6]at hc;exact World.block_lt_of_cell? w _ hc);have h0:((zs.take len).map (Value.int k)).length=len:=by simp;omega
   refine .inr ⟨b,off,cap,by rw[h0],hb,by rw[h0];exact h1,h2,hb,fun i hi=>?_⟩;rw[h0]at hi;have:=h4 i (by omega);rw[h6]at this;rw[this];simp[List.getD,List.getElem?_eq_getElem (show i<zs.length by omega)]
def pR (letters:Int)(c:UInt8):Bool:=decide (97<=(c.toNat:Int)/\(c.toNat:Int) - 97<letters)
def zW (s:ByteArray)(letters:Int):Bool:=decide (1<=letters/\letters<=6/\s.size<=2048) && s.data.toList.all (pR letters)
theorem qQ (s:ByteArray)(letters:Int)(k:Nat)(hk:k<s.size)(h:(s[k].toNat:Int)<97\/letters<=((s[k].toNat:Int) - 97) % 256):zW s letters=false:=by
 have hm:s[k]∈s.data.toList:=by
  have:s[k]=s.data[k]'(by simpa using hk):=rfl;rw[this];simp
 have h2:pR letters s[k]=false:=by
  have:=UInt8.toNat_lt s[k];simp[pR];omega
 unfold zW;rw[Bool.and_eq_false_iff];right;rw[List.all_eq_false];exact⟨_,hm,by simp[h2]⟩
theorem qFV (s:ByteArray)(letters:Int)(k:Nat)(hk:k<s.size)(h:(s.data.toList.take k).all (pR letters)=true)(h1:97<=(s[k].toNat:Int)/\((s[k].toNat:Int) - 97) % 256<letters):(s.data.toList.take (k+1)).all (pR letters)=true:=by
 rw[List.take_succ_eq_append_getElem (by simpa using hk),List.all_append,h];have:s.data.toList[k]'(by simpa using hk)=s[k]:=rfl;have h3:=UInt8.toNat_lt s[k];simp[this,pR];omega
theorem kN (s:ByteArray)(letters:Int)(k:Nat)(hk:s.size<=k)(h:1<=letters/\letters<=6/\s.size<=2048)(ha:(s.data.toList.take k).all (pR letters)=true):zW s letters=true:=by
 rw[List.take_of_length_le (by simpa using hk)]at ha;simp[zW,ha,h]
theorem pZ (s:ByteArray)(letters:Int)(w:World)(hs:s.size<=maxLen):
  Calls Try.prog 39 #[.string s,.int .i64 letters] w fun e w'=>e=.returned (.bool (zW s letters))/\w=w':=by
 unfold maxLen at hs;by_cases h1:letters<1
 ·go_enter Try.func39,Try.ntmps39
  go_wp2;go_ret;exact⟨zY (by simp[zW];omega),rfl⟩
 by_cases h2:6<letters
 ·go_enter Try.func39,Try.ntmps39
  go_wp2;go_ret;exact⟨zY (by simp[zW];omega),rfl⟩
 by_cases h3:2048<s.size
 ·go_enter Try.func39,Try.ntmps39
  go_wp2;go_ret;exact⟨zY (by simp[zW];omega),rfl⟩
 go_enter Try.func39,Try.ntmps39;go_wp2
 go_loop [19] (fun i=>∃ k:Nat,k<=s.size/\i=.int .i64 k/\(s.data.toList.take k).all (pR letters)=true) (fun i=>s.size - (intOf i).toNat)
 case atStart=>exact⟨0,Nat.zero_le _,rfl,rfl⟩
 case round =>
  obtain⟨k,hk,rfl,h0⟩:=hrel;have HA:=Kh h0;clear h0;by_cases hlt:k<s.size
  ·go_wp2
   ·go_ret
    exact⟨zY (by rw[eq_comm];exact qQ s letters k hlt (by omega)),rfl⟩
   ·go_round
    case rel=>exact⟨k+1,by omega,by go_num,qFV s letters k hlt HA.out (by omega)⟩
    case measure=>simp[intOf];omega
   ·go_ret
    exact⟨zY (by rw[eq_comm];exact qQ s letters k hlt (by omega)),rfl⟩
  ·go_wp2
   go_ret;exact⟨zY (by rw[eq_comm];exact kN s letters k (by omega) (by omega) HA.out),rfl⟩
def sY (bs:List ByteArray):Nat:=(bs.map (·.size)).sum
def uU (n:Nat)(letters:Int)(i:Nat)(u:ByteArray):Bool:=zW u letters && !(decide (0<i/\i+1<n) && u.toList.isEmpty)
def vH (n:Nat)(letters:Int):Nat->List ByteArray->Bool
 | _,[]=>true
 | i,u::us=>uU n letters i u && vH n letters (i+1) us
def yN (bs:List ByteArray)(letters:Int):Int :=
 if letters<1\/6<letters then 1 else if 8<bs.length then 3 else if 64<sY bs then 3
 else if bs.length=0 then 22 else if vH bs.length letters 0 bs then 0 else 22
theorem cK (bs:List ByteArray)(k:Nat)(hk:k<bs.length):sY (bs.take (k+1))=sY (bs.take k)+bs[k].size:=by
 rw[List.take_succ_eq_append_getElem hk];simp only[sY,List.map_append,List.sum_append];simp
theorem eG (bs:List ByteArray)(letters:Int)(j:Nat)(hj:j<bs.length):vH bs.length letters j (bs.drop j)=(uU bs.length letters j bs[j] && vH bs.length letters (j+1) (bs.drop (j+1))):=by
 rw[List.drop_eq_getElem_cons hj];rfl
theorem eE {bs:List ByteArray}{letters:Int}{j:Nat}(hj:j<bs.length)(hb:uU bs.length letters j bs[j]=true)(h:vH bs.length letters j (bs.drop j)=vH bs.length letters 0 bs):
  vH bs.length letters (j+1) (bs.drop (j+1))=vH bs.length letters 0 bs:=by
 rw[<- h,eG bs letters j hj,hb,Bool.true_and]
theorem bN {bs:List ByteArray}{letters:Int}{j:Nat}(hj:j<bs.length)(hb:uU bs.length letters j bs[j]=false)(h:vH bs.length letters j (bs.drop j)=vH bs.length letters 0 bs):
  vH bs.length letters 0 bs=false:=by
 rw[<- h,eG bs letters j hj,hb,Bool.false_and]
theorem eH {n j:Nat}{letters:Int}{u:ByteArray}(h1:zW u letters=true)(h2:(j=0\/¬ (j:Int)<n - 1)\/u.toList.isEmpty=false):uU n letters j u=true:=by
 unfold uU;rcases h2 with h2|h2
 ·have:decide (0<j/\j+1<n)=false:=by simp;omega
  simp[h1,this]
 ·simp[h1,h2]
theorem eJ {n j:Nat}{letters:Int}{u:ByteArray}(h1:¬ zW u letters=true):uU n letters j u=false:=by
 simp[uU,h1]
theorem eI {n j:Nat}{letters:Int}{u:ByteArray}(h:0<j)(h1:(j:Int)<n - 1)(h2:u.toList.isEmpty=true):uU n letters j u=false:=by
 have:decide (0<j/\j+1<n)=true:=by simp;omega
 simp[uU,this,h2]
theorem lL {bs:List ByteArray}{letters:Int}(h1:¬ letters<1)(h2:¬ 6<letters)(h3:¬ 8<bs.length)(h4:¬ 64<sY bs)(h5:¬ bs.length=0):
  yN bs letters=if vH bs.length letters 0 bs then 0 else 22:=by
 unfold yN;rw[if_neg (by omega),if_neg h3,if_neg h4,if_neg h5]
end Go.Proofs.Ytjfdomfendbhfaa
namespace Go.Proofs
open Go.Shelf
def Try.lays103_ren:Go.Shelf.Ren:=⟨fun|103=>73|210=>95|206=>119|n=>n,fun|9=>9|4=>4|24=>120|3=>3|n=>n,fun|n=>n⟩
theorem Try.lays103:Go.Proofs.Lays.n103 Try.prog Try.lays103_ren:={
 mixed:=by kernel_rfl
 f103:=Try.func73.trans (congrArg some (by kernel_rfl))
 f206:=Try.func119.trans (congrArg some (by kernel_rfl))
 f210:=Try.func95.trans (congrArg some (by kernel_rfl))
 t3:=Try.underlying3
 a3:=Try.isAgg3
 z3:=Try.sizeOf3
 v3:=Try.zeroValue3
 t4:=Try.underlying4
 a4:=Try.isAgg4
 z4:=Try.sizeOf4
 v4:=Try.zeroValue4
 t9:=Try.underlying9
 a9:=Try.isAgg9
 z9:=Try.sizeOf9
 v9:=Try.zeroValue9
 t24:=Try.underlying120
 a24:=Try.isAgg120
 z24:=Try.sizeOf120
 v24:=Try.zeroValue120 }
open Go.RowKit in
theorem Try.strings_CutPrefix (s p:ByteArray)(w:World):
  Calls Try.prog 73 #[.string s,.string p] w fun e w'=>e=.returned (.tuple #[.string ⟨(Lib.trimPrefix s.data.toList p.data.toList).toArray⟩,.bool (Lib.hasPrefix s.data.toList p.data.toList)])/\w'=w:=Any.strings_CutPrefix Try.lays103 s p w
def Try.lays145_ren:Go.Shelf.Ren:=⟨fun|145=>74|220=>96|219=>120|217=>126|225=>127|224=>128|267=>129|266=>133|314=>134|n=>n,fun|9=>9|4=>4|59=>122|3=>3|5=>5|46=>155|146=>186|51=>185|n=>n,fun|1=>0|n=>n⟩
theorem Try.lays145:Go.Proofs.Lays.n145 Try.prog Try.lays145_ren:={
 mixed:=by kernel_rfl
 f145:=Try.func74.trans (congrArg some (by kernel_rfl))
 f217:=Try.func126.trans (congrArg some (by kernel_rfl))
 f219:=Try.func120.trans (congrArg some (by kernel_rfl))
 f220:=Try.func96.trans (congrArg some (by kernel_rfl))
 f224:=Try.func128.trans (congrArg some (by kernel_rfl))
 f225:=Try.func127.trans (congrArg some (by kernel_rfl))
 f266:=Try.func133.trans (congrArg some (by kernel_rfl))
 f267:=Try.func129.trans (congrArg some (by kernel_rfl))
 f314:=Try.func134.trans (congrArg some (by kernel_rfl))
 t3:=Try.underlying3
 a3:=Try.isAgg3
 z3:=Try.sizeOf3
 v3:=Try.zeroValue3
 t4:=Try.underlying4
 a4:=Try.isAgg4
 z4:=Try.sizeOf4
 v4:=Try.zeroValue4
 t5:=Try.underlying5
 a5:=Try.isAgg5
 z5:=Try.sizeOf5
 v5:=Try.zeroValue5
 t9:=Try.underlying9
 a9:=Try.isAgg9
 z9:=Try.sizeOf9
 v9:=Try.zeroValue9
 t46:=Try.underlying155
 a46:=Try.isAgg155
 z46:=Try.sizeOf155
 v46:=Try.zeroValue155
 t51:=Try.underlying185
 a51:=Try.isAgg185
 z51:=Try.sizeOf185
 v51:=Try.zeroValue185
 t59:=Try.underlying122
 a59:=Try.isAgg122
 z59:=Try.sizeOf122
 v59:=Try.zeroValue122
 t146:=Try.underlying186
 a146:=Try.isAgg186
 z146:=Try.sizeOf186
 v146:=Try.zeroValue186
 g1:=by kernel_rfl }
open Go.RowKit Go.Lib in
theorem Try.strings_Cut (s sep:ByteArray)(m:Int)(w:World)(hs:s.size<4294967281)(hm:w.cell? ⟨0,0,none⟩=some (.int .i64 m)):
  Calls Try.prog 74 #[.string s,.string sep] w fun e w'=>e=.returned (.tuple #[.string ⟨(Lib.cut s.data.toList sep.data.toList).1.toArray⟩,.string ⟨(Lib.cut s.data.toList sep.data.toList).2.1.toArray⟩,.bool (Lib.cut s.data.toList sep.data.toList).2.2])/\∃ n,w'=w.drewN n:=Any.strings_Cut Try.lays145 s sep m w hs hm
def Try.lays100_ren:Go.Shelf.Ren:=⟨fun|100=>75|207=>97|n=>n,fun|9=>9|4=>4|3=>3|n=>n,fun|n=>n⟩
theorem Try.lays100:Go.Proofs.Lays.n100 Try.prog Try.lays100_ren:={
 mixed:=by kernel_rfl
 f100:=Try.func75.trans (congrArg some (by kernel_rfl))
 f207:=Try.func97.trans (congrArg some (by kernel_rfl))
 t3:=Try.underlying3
 a3:=Try.isAgg3
 z3:=Try.sizeOf3
 v3:=Try.zeroValue3
 t4:=Try.underlying4
 a4:=Try.isAgg4
 z4:=Try.sizeOf4
 v4:=Try.zeroValue4
 t9:=Try.underlying9
 a9:=Try.isAgg9
 z9:=Try.sizeOf9
 v9:=Try.zeroValue9 }
open Go.RowKit Go.Lib in
theorem Try.strings_HasSuffix (s p:ByteArray)(w:World)(hs:s.size<=9223372036854775807):
  Calls Try.prog 75 #[.string s,.string p] w fun e w'=>e=.returned (.bool (Lib.hasSuffix s.data.toList p.data.toList))/\w'=w:=Any.strings_HasSuffix Try.lays100 s p w hs
def Try.laysNm216_ren:Go.Shelf.Ren:=⟨fun|16=>87|n=>n,fun|24=>26|9=>9|4=>4|n=>n,fun|n=>n⟩
theorem Try.laysNm216:Go.Proofs.Lays2.n16 Try.prog Try.laysNm216_ren:={
 mixed:=by kernel_rfl
 f16:=Try.func87.trans (congrArg some (by kernel_rfl))
 t4:=Try.underlying4
 a4:=Try.isAgg4
 z4:=Try.sizeOf4
 v4:=Try.zeroValue4
 t9:=Try.underlying9
 a9:=Try.isAgg9
 z9:=Try.sizeOf9
 v9:=Try.zeroValue9
 t24:=Try.underlying26
 a24:=Try.isAgg26
 z24:=Try.sizeOf26
 v24:=Try.zeroValue26
 i9:=by kernel_rfl }
open Go.RowKit Go.Lib in
theorem Try.slices_Clone_string (b off n c:Nat)(zs:List ByteArray)(w:World)(hz:n<=zs.length)(hbig:n * 16<=140737488355328)(hc:∀ j,j<zs.length->w.cell? ⟨b,off+j,none⟩=some (.string (zs.getD j ByteArray.empty))):
  Calls Try.prog 87 #[.slice (some ⟨b,off,none⟩) n c] w fun e w'=>∃ v',e=.returned v'/\w'.ownsRow w.heap.size 9 1 v' n ((zs.take n).map (Value.string))/\v'≠.slice none 0 0/\Below w.heap.size w w':=Any.slices_Clone_string Try.laysNm216 b off n c zs w hz hbig hc
open Go.RowKit Go.Lib in
theorem Try.slices_Clone_string_nil (n c:Nat)(w:World):
  Calls Try.prog 87 #[.slice none n c] w fun e w'=>e=.returned (.slice none 0 0)/\w'=w:=Any.slices_Clone_string_nil Try.laysNm216 n c w
open Go.RowKit Go.Lib in
theorem Try.slices_Clone_string_zero (a:Addr)(c:Nat)(w:World):
  Calls Try.prog 87 #[.slice (some a) 0 c] w fun e w'=>∃ v',e=.returned v'/\w'.ownsRow w.heap.size 9 1 v' 0 []/\v'≠.slice none 0 0/\Below w.heap.size w w':=Any.slices_Clone_string_zero Try.laysNm216 a c w
end Go.Proofs
namespace Go.Proofs.Ytjfdomfendbhfaa
open Go.RowKit
def SomeLen (w:World):Prop:=0<w.heap.size/\∃ m:Int,w.cell? ⟨0,0,none⟩=some (.int .i64 m)
theorem SomeLen.kept {w w':World}{row:Option Nat}(h:SomeLen w)(hg:w.grownBy w' row)(hr:row≠some 0):SomeLen w' :=
 ⟨Nat.lt_of_lt_of_le h.1 hg.size,h.2.imp fun _ hm=>(World.cell?_of_block (hg.block _ h.1 (fun e=>hr e.symm))).trans hm⟩
def rL:List (List UInt8)->List UInt8->Option (List UInt8)
 | [],r=>some r
 | u::us,r=>if (Lib.cut r u).2.2 then rL us (Lib.cut r u).2.1 else none
def mV (bs:List (List UInt8))(r v:List UInt8):Bool:=match rL bs r with
 | some r=>Lib.hasSuffix r v
 | none=>false
def wK (bs:List (List UInt8))(s:List UInt8):Bool :=
 match bs with
 | []=>false
 | [b]=>s == b
 | b::rest=>Lib.hasPrefix s b && mV rest.dropLast (s.drop b.length) (rest.getLastD [])
def yG (bs:List ByteArray)(s:ByteArray):Bool:=decide (yN bs 6=0) && (zW s 6 && wK (bs.map (·.data.toList)) s.data.toList)
theorem wY {bs:List ByteArray}{letters:Int}(h:yN bs letters=0):1<=letters/\letters<=6/\bs.length<=8/\sY bs<=64/\0<bs.length/\vH bs.length letters 0 bs=true:=by
 unfold yN at h
 split at h
 ·omega
 split at h
 ·omega
 split at h
 ·omega
 split at h
 ·omega
 split at h
 ·exact⟨by omega,by omega,by omega,by omega,by omega,by assumption⟩
 ·omega
theorem patMatch_one {bs:List ByteArray}{s:ByteArray}(h:yN bs 6=0)(hW:zW s 6=true)(h1:bs.length=1)(h0:0<bs.length):yG bs s=(s.toList == bs[0].toList):=by
 match bs,h1 with
 | [b],_=>simp[yG,h,hW,wK,ByteArray.toList_eq]
def mid (bs:List ByteArray):List (List UInt8):=((bs.map (·.data.toList)).drop 1).dropLast
theorem rW (bs:List ByteArray):(mid bs).length=bs.length - 1 - 1:=by simp[mid]
theorem qDQ (bs:List ByteArray)(k:Nat)(h:k<bs.length - 1 - 1):(mid bs)[k]'(by rw[rW];exact h)=bs[1+k].data.toList:=by
 simp[mid,Nat.add_comm]
theorem findAll_step (bs:List ByteArray)(r:List UInt8)(k:Nat)(h:k<bs.length - 1 - 1)(hf:(Lib.cut r bs[1+k].data.toList).2.2=true):
  rL ((mid bs).drop (k+1)) (Lib.cut r bs[1+k].data.toList).2.1=rL ((mid bs).drop k) r:=by
 rw[List.drop_eq_getElem_cons (show k<(mid bs).length by rw[rW];exact h),qDQ bs k h];simp[rL,hf]
theorem findAll_stop (bs:List ByteArray)(r:List UInt8)(k:Nat)(h:k<bs.length - 1 - 1)(hf:¬ (Lib.cut r bs[1+k].data.toList).2.2=true):
  rL ((mid bs).drop k) r=none:=by
 rw[List.drop_eq_getElem_cons (show k<(mid bs).length by rw[rW];exact h),qDQ bs k h];simp[rL,hf]
theorem cut_le (r u:List UInt8):(Lib.cut r u).2.1.length<=r.length:=by
 unfold Lib.cut
 split
 ·simp
 ·simp
theorem two_le {α:Type}{bs:List α}(h0:0<bs.length)(h1:bs.length≠1):∃ b c rest,bs=b::c::rest:=by
 match bs,h0,h1 with
 | b::c::rest,_,_=>exact⟨b,c,rest,rfl⟩
theorem patMatch_none {bs:List ByteArray}{s:ByteArray}(h0:0<bs.length)(h1:bs.length≠1)(hF:rL (mid bs) (Lib.trimPrefix s.data.toList bs[0].data.toList)=none):yG bs s=false:=by
 match bs,h0,h1 with
 | b::c::rest,_,_ =>
  by_cases hP:Lib.hasPrefix s.data.toList b.data.toList=true
  ·have e:Lib.trimPrefix s.data.toList b.data.toList=s.data.toList.drop b.data.toList.length:=by simp only[Lib.trimPrefix,hP,if_true]
   simp only[List.getElem_cons_zero,e,mid,List.map_cons,List.drop_succ_cons,List.drop_zero]at hF;simp only[yG,wK,List.map_cons,mV,hF,Bool.and_false]
  ·simp only[Bool.not_eq_true]at hP
   simp[yG,wK,hP]
theorem patMatch_end {bs:List ByteArray}{s:ByteArray}{r:List UInt8}(h:yN bs 6=0)(hW:zW s 6=true)(h0:0<bs.length)(h1:bs.length≠1)(hP:Lib.hasPrefix s.data.toList bs[0].data.toList=true)(hF:rL (mid bs) (Lib.trimPrefix s.data.toList bs[0].data.toList)=some r):yG bs s=Lib.hasSuffix r bs[bs.length - 1].data.toList:=by
 have hl:(bs.drop 1).map (·.data.toList)≠[]:=by
  intro e;have:=congrArg List.length e;simp at this;omega
 have hg:((bs.drop 1).map (·.data.toList)).getLastD []=bs[bs.length - 1].data.toList:=by
  rw[List.getLastD_eq_getLast?,List.getLast?_eq_getElem?];simp only[List.length_map,List.length_drop,List.getElem?_map,List.getElem?_drop];rw[show 1+(bs.length - 1 - 1)=bs.length - 1 by omega,List.getElem?_eq_getElem (by omega)];rfl
 obtain⟨b,c,rest,rfl⟩:=two_le h0 h1
 ·have h2:Lib.hasPrefix s.data.toList b.data.toList=true:=hP
  have e:Lib.trimPrefix s.data.toList b.data.toList=s.data.toList.drop b.data.toList.length:=by simp only[Lib.trimPrefix,h2,if_true]
  simp only[List.getElem_cons_zero,e,mid,List.map_cons,List.drop_succ_cons,List.drop_zero]at hF;simp only[List.drop_succ_cons,List.drop_zero,List.map_cons]at hg;simp only[yG,h,hW,decide_true,Bool.true_and,wK,List.map_cons,mV,hF,h2,hg]
theorem trim_le {s:ByteArray}{b:List UInt8}{bs:List ByteArray}(_h:yN bs 6=0)(hW:zW s 6=true):(Lib.trimPrefix s.data.toList b).length<=2048:=by
 have hs:s.size<=2048:=by simp[zW]at hW;omega
 have e:s.data.toList.length=s.size:=by simp
 unfold Lib.trimPrefix
 split
 ·rw[List.length_drop];omega
 ·omega
theorem patMatch_nopre {bs:List ByteArray}{s:ByteArray}(h0:0<bs.length)(h1:bs.length≠1)(hP:¬ Lib.hasPrefix s.data.toList bs[0].data.toList=true):yG bs s=false:=by
 match bs,h0,h1 with
 | b::c::rest,_,_ =>
  simp only[List.getElem_cons_zero,Bool.not_eq_true]at hP;simp[yG,wK,hP]
theorem xU (w:World)(n:Int):
  Calls Try.prog 38 #[.int .i64 n] w fun e w'=>e=.returned (.bool (decide (1<=n/\n<=6)))/\w=w':=by
 by_cases h:1<=n
 ·go_enter Try.func38,Try.ntmps38
  go_wp2;go_ret;exact⟨zY (by simp[h]),rfl⟩
 ·go_enter Try.func38,Try.ntmps38
  go_wp2;go_ret;exact⟨zY (by simp;omega),rfl⟩
theorem lO (s:ByteArray)(letters:Int)(w:World)(hs:s.size<=maxLen):
  Calls Try.prog 43 #[.string s,.int .i64 letters] w fun e w'=>e=.returned (.bool (zW s letters))/\w=w':=by
 unfold maxLen at hs;by_cases h1:¬ (1<=letters/\letters<=6)
 ·have e1:decide (1<=letters/\letters<=6)=false:=decide_eq_false h1
  go_enter Try.func43,Try.ntmps43;go_wp2_with fail;refine(xU w letters).mono ?_;rintro e w' ⟨rfl,rfl⟩;rw[e1];go_wp2;go_ret;exact⟨zY (by simp[zW];omega),rfl⟩
 have e1:decide (1<=letters/\letters<=6)=true:=by simpa using h1
 by_cases h3:2048<s.size
 ·go_enter Try.func43,Try.ntmps43
  go_wp2_with fail;refine(xU w letters).mono ?_;rintro e w' ⟨rfl,rfl⟩;rw[e1];go_wp2;go_ret;exact⟨zY (by simp[zW];omega),rfl⟩
 go_enter Try.func43,Try.ntmps43;go_wp2_with fail;refine(xU w letters).mono ?_;rintro e w' ⟨rfl,rfl⟩;rw[e1];go_wp2
 go_loop [5] (fun i=>∃ k:Nat,k<=s.size/\i=.int .i64 k/\(s.data.toList.take k).all (pR letters)=true) (fun i=>s.size - (intOf i).toNat)
 case atStart=>exact⟨0,Nat.zero_le _,rfl,rfl⟩
 case round =>
  obtain⟨k,hk,rfl,h0⟩:=hrel;have HA:=Kh h0;clear h0;by_cases hlt:k<s.size
  ·go_wp2
   ·go_ret
    exact⟨zY (by rw[eq_comm];exact qQ s letters k hlt (by omega)),rfl⟩
   ·go_round
    case rel=>exact⟨k+1,by omega,by go_num,qFV s letters k hlt HA.out (by omega)⟩
    case measure=>simp[intOf];omega
   ·go_ret
    exact⟨zY (by rw[eq_comm];exact qQ s letters k hlt (by omega)),rfl⟩
  ·go_wp2
   go_ret;exact⟨zY (by rw[eq_comm];exact kN s letters k (by omega) (by omega) HA.out),rfl⟩
end Go.Proofs.Ytjfdomfendbhfaa
namespace Go.Proofs.Ytjfdomfendbhfaa
def ent (t:List (List Int))(x y:Nat):Int:=(t.getD x []).getD y 0
def entN (t:List (List Int))(x y:Nat):Nat:=(ent t x y).toNat
structure Shape (t:List (List Int)):Prop where
 pos:0<t.length
 le:t.length<=400
 row:∀ x,x<t.length->(t.getD x []).length=t.length
 lo:∀ x y,x<t.length->y<t.length->0<=ent t x y
 hi:∀ x y,x<t.length->y<t.length->ent t x y<t.length
theorem entN_cast {t:List (List Int)}(h:Shape t){x y:Nat}(hx:x<t.length)(hy:y<t.length):(entN t x y:Int)=ent t x y:=Int.toNat_of_nonneg (h.lo x y hx hy)
end Go.Proofs.Ytjfdomfendbhfaa
namespace Go.Proofs.Ytjfdomfendbhfaa
open Go.RowKit
def ints (zs:List Int):List Value:=zs.map (Value.int .i64)
theorem yE (zs:List Int):(ints zs).length=zs.length:=by simp[ints]
theorem Row.some_ {B:Nat}{w:World}{v:Value}{xs:List Value}(h:Row B w v xs)(hx:0<xs.length):
  ∃ b off cap,v=.slice (some ⟨b,off,none⟩) xs.length cap/\b<B/\xs.length<=cap/\cap<=maxLen/\vW w b off xs:=by
 rcases h with ⟨a,c,rfl,rfl⟩|⟨b,off,cap,rfl,h0,h1,h2,h3⟩
 ·simp at hx
 ·exact⟨b,off,cap,rfl,h0,h1,h2,h3⟩
theorem Row.shape {B:Nat}{w:World}{v:Value}{xs:List Value}(h:Row B w v xs):∃ a cap,v=.slice a xs.length cap:=by
 rcases h with ⟨a,c,rfl,rfl⟩|⟨b,off,cap,rfl,h0,h1,h2,h3⟩
 ·exact⟨a,c,rfl⟩
 ·exact⟨_,_,rfl⟩
theorem Row.len_le {B:Nat}{w:World}{v:Value}{xs:List Value}(h:Row B w v xs):xs.length<=maxLen:=by
 rcases h with ⟨a,c,rfl,rfl⟩|⟨b,off,cap,rfl,h0,h1,h2,h3⟩
 ·simp
 ·omega
theorem vW.int {w:World}{b off:Nat}{zs:List Int}(h:vW w b off (ints zs))(i:Nat)(hi:i<zs.length):w.cell? ⟨b,off+i,none⟩=some (.int .i64 (zs.getD i 0)):=by
 rw[vW.map h i hi];simp[List.getD,List.getElem?_eq_getElem hi]
structure MatAt (B:Nat)(w:World)(t:List (List Int))(b off:Nat)(A:Nat->Option Addr)(C:Nat->Nat):Prop where
 lt:b<B
 ltw:b<w.heap.size
 hd:∀ x,x<t.length->w.cell? ⟨b,off+x,none⟩=some (.slice (A x) (t.getD x []).length (C x))
 row:∀ x,x<t.length->Row B w (.slice (A x) (t.getD x []).length (C x)) (ints (t.getD x []))
def Mat (B:Nat)(w:World)(v:Value)(t:List (List Int)):Prop :=
 (∃ a cap,v=.slice a 0 cap/\t=[])\/∃ b off cap A C,v=.slice (some ⟨b,off,none⟩) t.length cap/\t.length<=cap/\cap<=maxLen/\MatAt B w t b off A C
theorem MatAt.kept {B:Nat}{w w':World}{t:List (List Int)}{b off:Nat}{A:Nat->Option Addr}{C:Nat->Nat}{row:Option Nat}(h:MatAt B w t b off A C)(hg:w.grownBy w' row)(hr:∀ k,row=some k->B<=k):MatAt B w' t b off A C :=
 ⟨h.lt,Nat.lt_of_lt_of_le h.ltw hg.size,fun x hx=>(World.cell?_of_block (hg.block b h.ltw (fun e=>by have:=hr b e.symm;have:=h.lt;omega))).trans (h.hd x hx),fun x hx=>(h.row x hx).kept hg hr⟩
theorem MatAt.mono {B B':Nat}{w:World}{t:List (List Int)}{b off:Nat}{A:Nat->Option Addr}{C:Nat->Nat}(h:MatAt B w t b off A C)(hB:B<=B'):MatAt B' w t b off A C :=
 ⟨Nat.lt_of_lt_of_le h.lt hB,h.ltw,h.hd,fun x hx=>(h.row x hx).mono hB⟩
theorem MatAt.of_heap {B:Nat}{w w':World}{t:List (List Int)}{b off:Nat}{A:Nat->Option Addr}{C:Nat->Nat}(h:MatAt B w t b off A C)(e:w'.heap=w.heap):MatAt B w' t b off A C :=
 ⟨h.lt,by rw[e];exact h.ltw,fun x hx=>(World.cell?_of_block (by rw[e])).trans (h.hd x hx),fun x hx=>(h.row x hx).of_heap e⟩
section
variable {B B':Nat} {w w':World} {v:Value} {t:List (List Int)} {row:Option Nat}
theorem Mat.kept (h:Mat B w v t)(hg:w.grownBy w' row)(hr:∀ k,row=some k->B<=k):Mat B w' v t:=by
 rcases h with h|⟨b,off,cap,A,C,h1,h2,h3,h4⟩
 ·exact .inl h
 ·exact .inr ⟨b,off,cap,A,C,h1,h2,h3,h4.kept hg hr⟩
theorem Mat.mono (h:Mat B w v t)(hB:B<=B'):Mat B' w v t:=by
 rcases h with h|⟨b,off,cap,A,C,h1,h2,h3,h4⟩
 ·exact .inl h
 ·exact .inr ⟨b,off,cap,A,C,h1,h2,h3,h4.mono hB⟩
theorem Mat.of_heap (h:Mat B w v t)(e:w'.heap=w.heap):Mat B w' v t:=by
 rcases h with h|⟨b,off,cap,A,C,h1,h2,h3,h4⟩
 ·exact .inl h
 ·exact .inr ⟨b,off,cap,A,C,h1,h2,h3,h4.of_heap e⟩
theorem Mat.some_ (h:Mat B w v t)(hx:0<t.length):∃ b off cap A C,v=.slice (some ⟨b,off,none⟩) t.length cap/\t.length<=cap/\cap<=maxLen/\MatAt B w t b off A C:=by
 rcases h with ⟨_,_,_,rfl⟩|h
 ·simp at hx
 ·exact h
theorem Mat.shape (h:Mat B w v t):∃ a cap,v=.slice a t.length cap:=by
 rcases h with ⟨a,c,rfl,rfl⟩|⟨b,off,cap,A,C,rfl,_⟩
 ·exact⟨a,c,rfl⟩
 ·exact⟨_,_,rfl⟩
theorem Mat.len_le (h:Mat B w v t):t.length<=maxLen:=by
 rcases h with ⟨a,c,rfl,rfl⟩|⟨b,off,cap,A,C,rfl,h1,h2,_⟩
 ·simp
 ·omega
end
structure Sq (B:Nat)(w:World)(t:List (List Int))(b off:Nat)(RB RO RC:Nat->Nat):Prop where
 lt:b<B
 ltw:b<w.heap.size
 hd:∀ x,x<t.length->w.cell? ⟨b,off+x,none⟩=some (.slice (some ⟨RB x,RO x,none⟩) t.length (RC x))
 el:∀ x y,x<t.length->y<t.length->w.cell? ⟨RB x,RO x+y,none⟩=some (.int .i64 (entN t x y))
 ltr:∀ x,x<t.length->RB x<B/\RB x<w.heap.size
 cap:∀ x,x<t.length->t.length<=RC x/\RC x<=maxLen
theorem Sq.kept {B : Nat}{w w' : World}{t : List (List Int)}{b off : Nat}{RB RO RC : Nat -> Nat}{row : Option Nat}(h : Sq B w t b off RB RO RC)(hg : w.grownBy w' row)(hr : ∀ k, row = some k -> B <= k): Sq B w' t b off RB RO RC :=
 ⟨h.lt, Nat.lt_of_lt_of_le h.ltw hg.size, fun x hx => (World.cell?_of_block (hg.block b h.ltw (fun e => by have := hr b e.symm; have := h.lt; omega))).trans (h.hd x hx),
  fun x y hx hy => (World.cell?_of_block (hg.block (RB x) (h.ltr x hx).2 (fun e => by have := hr _ e.symm; have := (h.ltr x hx).1; omega))).trans (h.el x y hx hy), fun x hx => ⟨(h.ltr x hx).1, Nat.lt_of_lt_of_le (h.ltr x hx).2 hg.size⟩, h.cap⟩
theorem Mat.sq {B:Nat}{w:World}{v:Value}{t:List (List Int)}(h:Mat B w v t)(hs:Shape t):∃ b off cap RB RO RC,v=.slice (some ⟨b,off,none⟩) t.length cap/\t.length<=cap/\cap<=maxLen/\Sq B w t b off RB RO RC:=by
 obtain⟨b,off,cap,A,C,rfl,h1,h2,h3⟩:=h.some_ hs.pos
 have hr:∀ x,∃ rb ro,x<t.length->A x=some ⟨rb,ro,none⟩/\rb<B/\t.length<=C x/\C x<=maxLen/\vW w rb ro (ints (t.getD x [])):=by
  intro x;by_cases hx:x<t.length
  ·have hl:=hs.row x hx
   obtain⟨rb,ro,c,e,h4,h5,h6,h7⟩:=(h3.row x hx).some_ (by rw[yE,hl];exact hs.pos);simp only[Value.slice.injEq]at e;rw[yE,hl]at h5;exact⟨rb,ro,fun _=>⟨e.1,h4,by rw[e.2.2];exact h5,by rw[e.2.2];exact h6,h7⟩⟩
  ·exact⟨0,0,fun h=>absurd h hx⟩
 obtain⟨RB,h8⟩:=Classical.axiomOfChoice hr;obtain⟨RO,h0⟩:=Classical.axiomOfChoice h8;refine⟨b,off,cap,RB,RO,C,rfl,h1,h2,h3.lt,h3.ltw,fun x hx=>?_,fun x y hx hy=>?_,fun x hx=>?_,fun x hx=>?_⟩
 ·have:=h0 x hx
  rw[h3.hd x hx,this.1,hs.row x hx]
 ·have:=h0 x hx
  rw[this.2.2.2.2.int y (by rw[hs.row x hx];exact hy),entN_cast hs hx hy];rfl
 ·have:=h0 x hx
  exact⟨this.2.1,this.2.2.2.2.1⟩
 ·have:=h0 x hx
  exact⟨this.2.2.1,this.2.2.2.1⟩
def EntsOk (n:Nat)(r:List Int)(j:Nat):Prop:=∀ y,y<j->0<=r.getD y 0/\r.getD y 0<n
end Go.Proofs.Ytjfdomfendbhfaa
namespace Go.Proofs.Ytjfdomfendbhfaa
def xP {α:Type}[DecidableEq α](acc:List α)(x:α):List α:=if x∈acc then acc else acc++[x]
def yA {α:Type}[DecidableEq α](l:List α):List α:=l.foldl xP []
section
variable {α:Type} [DecidableEq α]
theorem uE {acc:List α}{x:α}(h:x∈acc):xP acc x=acc:=if_pos h
theorem wO {acc:List α}{x:α}(h:x ∉ acc):xP acc x=acc++[x]:=if_neg h
theorem mW {acc:List α}{x y:α}:y∈xP acc x ↔ y∈acc\/y=x:=by
 unfold xP
 split
 ·rename_i h
  exact⟨.inl,fun h'=>by rcases h' with h'|rfl<;>assumption⟩
 ·simp
theorem tE (l:List α)(x:α):yA (l++[x])=xP (yA l) x:=by simp[yA,List.foldl_append]
theorem mem_foldl_addNew (l:List α):∀ (acc:List α) (y:α),y∈l.foldl xP acc ↔ y∈acc\/y∈l:=by
 induction l with
 | nil=>intro acc y;simp
 | cons a l ih=>intro acc y;rw[List.foldl_cons,ih,mW,List.mem_cons];exact or_assoc
theorem wL {l:List α}{y:α}:y∈yA l ↔ y∈l:=by rw[yA,mem_foldl_addNew];simp
theorem gG {acc:List α}{x:α}(h:acc.Nodup):(xP acc x).Nodup:=by
 unfold xP
 split
 ·exact h
 ·rename_i hx
  rw[List.nodup_append];exact⟨h,by simp,fun a ha b hb=>by rw[List.mem_singleton]at hb;subst hb;rintro rfl;exact hx ha⟩
theorem foldl_addNew_nodup (l:List α):∀ {acc:List α},acc.Nodup->(l.foldl xP acc).Nodup:=by
 induction l with
 | nil=>intro acc h;exact h
 | cons a l ih=>intro acc h;exact ih (gG h)
theorem rE (l:List α):(yA l).Nodup:=foldl_addNew_nodup l (by simp)
theorem oT (acc:List α)(x:α):acc <+: xP acc x:=by
 unfold xP;split
 ·exact List.prefix_refl _
 ·exact List.prefix_append _ _
theorem foldl_addNew_prefix (l:List α):∀ (acc:List α),acc <+: l.foldl xP acc:=by
 induction l with
 | nil=>intro acc;exact List.prefix_refl _
 | cons a l ih=>intro acc;exact(oT acc a).trans (ih _)
theorem tY (l:List α)(k:Nat):yA (l.take k) <+: yA l:=by
 conv=>rhs;rw[<- List.take_append_drop k l]
 rw[yA,yA,List.foldl_append];exact foldl_addNew_prefix _ _
theorem vZ (l:List α):(yA l).length<=l.length:=by
 have key:∀ (l acc:List α),(l.foldl xP acc).length<=acc.length+l.length:=by
  intro l
  induction l with
  | nil=>intro acc;simp
  | cons a l ih =>
   intro acc;rw[List.foldl_cons];have h1:=ih (xP acc a);have h2:(xP acc a).length<=acc.length+1:=by unfold xP;split<;>simp
   rw[List.length_cons];omega
 simpa [yA] using key l []
theorem iZ {l m:List α}{x:α}(h:l <+: m)(hx:x∈l):m.idxOf x=l.idxOf x:=by
 obtain⟨r,rfl⟩:=h;rw[List.idxOf_append,if_pos hx]
theorem qCQ {l:List α}{x y:α}(hx:x∈l)(h:l.idxOf x=l.idxOf y):x=y:=by
 have h1:=List.idxOf_lt_length_of_mem hx;have e1:=List.getElem_idxOf h1;have e2:=List.getElem_idxOf (show l.idxOf y<l.length by omega);rw[<- e1,<- e2];simp only[h]
def numb (l:List α):List Nat:=l.map fun x=>(yA l).idxOf x
theorem yD (l:List α):(numb l).length=l.length:=by simp[numb]
theorem qW {l:List α}{i:Nat}(h:i<l.length):(numb l)[i]'(by rw[yD];exact h)=(yA l).idxOf l[i]:=by simp[numb]
theorem qGU {l:List α}:∀ c∈numb l,c<(yA l).length:=by
 intro c hc;obtain⟨x,hx,rfl⟩:=List.mem_map.1 hc;exact List.idxOf_lt_length_of_mem (wL.2 hx)
theorem oG {l:List α}{i j:Nat}(hi:i<l.length)(hj:j<l.length):(numb l).getD i 0=(numb l).getD j 0 ↔ l[i]=l[j]:=by
 simp only[List.getD,List.getElem?_eq_getElem (show i<(numb l).length by rw[yD];exact hi),List.getElem?_eq_getElem (show j<(numb l).length by rw[yD];exact hj),Option.getD_some,qW hi,qW hj];exact⟨fun h=>qCQ (wL.2 (List.getElem_mem hi)) h,fun h=>by rw[h]⟩
theorem qBV {l:List α}{k:Nat}(hk:k<l.length):(yA (l.take (k+1))).idxOf l[k]=(yA l).idxOf l[k]:=by
 refine(iZ (tY l (k+1)) (wL.2 ?_)).symm;rw[List.take_succ_eq_append_getElem hk];exact List.mem_append_right _ (List.mem_singleton_self _)
end
def SameKer (p q:List Nat):Prop:=p.length=q.length/\∀ i j,i<p.length->j<p.length->(p.getD i 0=p.getD j 0 ↔ q.getD i 0=q.getD j 0)
def Norm (p:List Nat):Prop:=numb p=p
theorem zG {α:Type}{l:List α}{i:Nat}{d:α}(h:i<l.length):l.getD i d=l[i]:=by simp[List.getD,List.getElem?_eq_getElem h]
theorem firsts_map_inj {α β:Type}[DecidableEq α][DecidableEq β](f:α->β)(l:List α)(h:∀ x∈l,∀ y∈l,f x=f y->x=y):yA (l.map f)=(yA l).map f:=by
 have key:∀ (m acc:List α),(∀ x∈acc++m,∀ y∈acc++m,f x=f y->x=y)->(m.map f).foldl xP (acc.map f)=(m.foldl xP acc).map f:=by
  intro m
  induction m with
  | nil=>intro acc _;rfl
  | cons a m ih =>
   intro acc hh;rw[List.map_cons,List.foldl_cons,List.foldl_cons]
   have e:xP (acc.map f) (f a)=(xP acc a).map f:=by
    unfold xP;by_cases ha:a∈acc
    ·rw[if_pos ha,if_pos (List.mem_map_of_mem ha)]
    ·rw[if_neg ha,if_neg]
     ·simp
     ·intro hm
      obtain⟨b,hb,e⟩:=List.mem_map.1 hm;have:=hh b (by simp[hb]) a (by simp) e;subst this;exact ha hb
   rw[e];refine ih _ fun x hx y hy=>hh x ?_ y ?_
   ·rw[List.mem_append,mW]at hx;simp;rcases hx with (h|h)|h<;>simp[h]
   ·rw[List.mem_append,mW]at hy;simp;rcases hy with (h|h)|h<;>simp[h]
 have:=key l [] (by simpa using h);simpa [yA] using this
theorem idxOf_map_inj {α β:Type}[DecidableEq α][DecidableEq β](f:α->β)(l:List α)(x:α)(hx:x∈l)(h:∀ y∈l,f y=f x->y=x):(l.map f).idxOf (f x)=l.idxOf x:=by
 induction l with
 | nil=>simp at hx
 | cons a l ih =>
  rw[List.map_cons,List.idxOf_cons,List.idxOf_cons];by_cases e:a=x
  ·subst e;simp
  ·have:f a≠f x:=fun h'=>e (h a (by simp) h')
   simp only[beq_eq_false_iff_ne.2 this,beq_eq_false_iff_ne.2 e,cond_false];rw[ih (by simpa [Ne.symm e] using hx) (fun y hy=>h y (by simp[hy]))]
theorem mR {α β:Type} [DecidableEq α] [DecidableEq β]:∀ (l:List α) (m:List β) (he:l.length=m.length),(∀ i j (hi:i<l.length) (hj:j<l.length),(l[i]=l[j] ↔ m[i]'(by omega)=m[j]'(by omega)))->numb l=numb m:=by
 intro l m he h
 -- positions of first occurrences
 have key:∀ (k:Nat) (hk:k<=l.length),∃ ps:List (Fin l.length),yA (l.take k)=ps.map (fun i=>l[i])/\yA (m.take k)=ps.map (fun i=>m[i.1]'(by omega)):=by
  intro k
  induction k with
  | zero=>intro _;exact⟨[],by simp[yA],by simp[yA]⟩
  | succ k ih =>
   intro hk
   obtain⟨ps,h1,h2⟩:=ih (by omega)
   have h3:k<l.length:=by omega
   rw[List.take_succ_eq_append_getElem h3,List.take_succ_eq_append_getElem (show k<m.length by omega),tE,tE,h1,h2]
   have h0:(l[k]∈ps.map (fun i=>l[i])) ↔ (m[k]'(by omega)∈ps.map (fun i=>m[i.1]'(by omega))):=by
    simp only[List.mem_map]
    constructor
    ·rintro ⟨i,hi,e⟩;exact⟨i,hi,(h i.1 k i.2 h3).1 e⟩
    ·rintro ⟨i,hi,e⟩;exact⟨i,hi,(h i.1 k i.2 h3).2 e⟩
   by_cases hm:l[k]∈ps.map (fun i=>l[i])
   ·exact⟨ps,uE hm,uE (h0.1 hm)⟩
   ·refine⟨ps++[⟨k,h3⟩],?_,?_⟩
    ·rw[wO hm];simp
    ·rw[wO (fun h'=>hm (h0.2 h'))];simp
 obtain⟨ps,h1,h2⟩:=key l.length (Nat.le_refl _)
 rw[List.take_length]at h1
 rw[show m.take l.length=m from List.take_of_length_le (by omega)]at h2
 refine List.ext_getElem (by simp[numb,he]) fun i hi _=>?_
 rw[yD]at hi
 rw[qW hi,qW (by omega),h1,h2]
 have aux:∀ (qs:List (Fin l.length)),(qs.map (fun i=>l[i])).idxOf l[i]=(qs.map (fun i=>m[i.1]'(by omega))).idxOf (m[i]'(by omega)):=by
  intro qs
  induction qs with
  | nil=>simp
  | cons a qs ih =>
   rw[List.map_cons,List.map_cons,List.idxOf_cons,List.idxOf_cons,ih]
   have:=h a.1 i a.2 hi
   by_cases e:l[a]=l[i]
   ·have e':=this.1 e
    simp only[beq_iff_eq.2 e,beq_iff_eq.2 e']
   ·have e':¬ (m[a.1]'(by omega)=m[i]'(by omega)):=fun h'=>e (this.2 h')
    simp only[beq_eq_false_iff_ne.2 e,beq_eq_false_iff_ne.2 e']
 exact aux ps
theorem nP {α:Type}[DecidableEq α](l:List α):Norm (numb l):=by
 refine mR _ _ (yD l) fun i j hi hj=>?_;rw[yD]at hi hj;have:=oG (l:=l) hi hj;rw[zG (by rw[yD];exact hi),zG (by rw[yD];exact hj)]at this;exact this
theorem jD {p q:List Nat}(hp:Norm p)(hq:Norm q)(h:SameKer p q):p=q:=by
 rw[<- hp,<- hq];refine mR _ _ h.1 fun i j hi hj=>?_;have:=h.2 i j hi hj;rw[zG hi,zG hj,zG (by rw[<- h.1];exact hi),zG (by rw[<- h.1];exact hj)]at this;exact this
end Go.Proofs.Ytjfdomfendbhfaa
namespace Go.Proofs.Ytjfdomfendbhfaa
open Go.RowKit
def txtV (bs:List ByteArray):List Value:=bs.map .string
theorem yB (bs:List ByteArray):(txtV bs).length=bs.length:=by simp[txtV]
theorem vD {w:World}{b off:Nat}{bs:List ByteArray}(h:vW w b off (txtV bs))(i:Nat)(hi:i<bs.length):w.cell? ⟨b,off+i,none⟩=some (.string (bs.getD i ⟨#[]⟩)):=by
 rw[h.map i hi,zG hi]
def totW (bs:List ByteArray):Int:=bs.foldl (fun a b=>wrap64 (a+(b.size:Int))) 0
theorem fH (bs:List ByteArray)(k:Nat)(hk:k<bs.length):totW (bs.take (k+1))=wrap64 (totW (bs.take k)+((bs.getD k ⟨#[]⟩).size:Int)):=by
 rw[List.take_succ_eq_append_getElem hk,totW,List.foldl_append,zG hk];rfl
theorem qGD (bs:List ByteArray)(h:∀ i (hi:i<bs.length),bs[i].size<=4294967296)(hl:bs.length<=4096):∀ k,k<=bs.length->totW (bs.take k)=(sY (bs.take k):Int)/\sY (bs.take k)<=k * 4294967296
 | 0,_=>⟨rfl,by simp[sY]⟩
 | k+1,hk=>by
  obtain⟨h1,h2⟩:=qGD bs h hl k (by omega)
  have h3:=h k (by omega)
  rw[fH bs k (by omega),h1,cK bs k (by omega),zG (show k<bs.length by omega)]
  refine⟨?_,by omega⟩
  rw[<- Int.natCast_add]
  exact IntWalk.wrap64_in _ (by omega)
def patW (bs:List ByteArray)(letters:Int):Int :=
 if letters<1\/6<letters then 1 else if 8<bs.length then 3 else if 64<totW bs then 3
 else if bs.length=0 then 22 else if vH bs.length letters 0 bs then 0 else 22
theorem ok_sizes {bs:List ByteArray}{letters:Int}:∀ {n i:Nat},vH n letters i bs=true->∀ j (hj:j<bs.length),bs[j].size<=2048:=by
 induction bs with
 | nil=>intro n i _ j hj;simp at hj
 | cons u us ih =>
  intro n i h j hj;rw[vH,Bool.and_eq_true]at h;cases j with
  | zero =>
   have h1:=h.1;simp only[uU,zW,Bool.and_eq_true,decide_eq_true_eq]at h1;exact h1.1.1.2.2
  | succ j=>simpa using ih h.2 j (by simpa using hj)
theorem patW_facts {bs:List ByteArray}{letters:Int}(h:patW bs letters=0):¬ (letters<1\/6<letters)/\¬ 8<bs.length/\¬ 64<totW bs/\¬ bs.length=0/\vH bs.length letters 0 bs=true:=by
 unfold patW at h
 split at h
 ·omega
 split at h
 ·omega
 split at h
 ·omega
 split at h
 ·omega
 split at h
 ·exact⟨by assumption,by assumption,by assumption,by assumption,by assumption⟩
 ·omega
theorem fZ {bs:List ByteArray}{letters:Int}(h1:¬ (letters<1\/6<letters))(h2:¬ 8<bs.length)(h3:¬ 64<totW bs)(h4:¬ bs.length=0):patW bs letters=if vH bs.length letters 0 bs then 0 else 22:=by
 unfold patW;rw[if_neg h1,if_neg h2,if_neg h3,if_neg h4]
theorem qED {bs:List ByteArray}{letters:Int}(h2:¬ 8<bs.length)(h3:vH bs.length letters 0 bs=true):totW bs=(sY bs:Int):=by
 have hs:=ok_sizes h3;have ht:=(qGD bs (fun i hi=>by have:=hs i hi;omega) (by omega) bs.length (Nat.le_refl _)).1
 rwa [List.take_length]at ht
theorem vG {bs:List ByteArray}{letters:Int}:patW bs letters=0 ↔ yN bs letters=0:=by
 constructor
 ·intro h
  obtain⟨h1,h2,h3,h4,h5⟩:=patW_facts h;rw[lL (by omega) (by omega) h2 (by have:=qED h2 h5;omega) h4,if_pos h5]
 ·intro h
  obtain⟨h1,h2,h3,h4,h5,h6⟩:=wY h;rw[fZ (by omega) (by omega) (by have:=qED (by omega) h6;omega) (by omega),if_pos h6]
theorem kZ (B : Nat)(w : World)(v : Value)(bs : List ByteArray)(letters : Int)(h : Row B w v (txtV bs))(hs : ∀ i (hi : i < bs.length), bs[i].size ≤ maxLen):
    Calls Try.prog 36 #[.agg #[v], .int .i64 letters] w fun e w' => e = .returned (.int .i64 (patW bs letters)) ∧ w.grownBy w' none := by
  have hlm := h.len_le
  rw [yB] at hlm
  have hlm' : bs.length ≤ 9223372036854775807 := by unfold maxLen at hlm; omega
  have H := Kh h; have HS := Kh hs
  obtain ⟨a, cap, rfl⟩ := h.shape
  rw [yB] at H ⊢
  clear h hs hlm
  by_cases h1 : letters < 1
  · go_enter Try.func36, Try.ntmps36
    go_wp2
    go_ret
    exact ⟨yC (by simp [patW, h1]), Ga _ _ _⟩
  by_cases h2 : 6 < letters
  · go_enter Try.func36, Try.ntmps36
    go_wp2
    go_ret
    exact ⟨yC (by simp [patW, h2]), Ga _ _ _⟩
  by_cases h3 : 8 < bs.length
  · have h3' : (8 : Int) < bs.length := by omega
    go_enter Try.func36, Try.ntmps36
    go_wp2
    go_ret
    exact ⟨yC (by simp [patW, h1, h2, h3]), Ga _ _ _⟩
  have h3' : ¬ (8 : Int) < bs.length := by omega
  go_enter Try.func36, Try.ntmps36
  go_wp2
  go_loopg [5, 7, 24] bs.length (fun gh t a7 i wr => w.alloc (.cells #[.slice a bs.length cap] 28) = wr ∧ ∃ k : Nat, gh + k = bs.length ∧ i = .int .i64 k ∧ t = .int .i64 (totW (bs.take k)))
  case atStart => exact ⟨rfl, 0, rfl, rfl, rfl⟩
  case round =>
    obtain ⟨hw, k, hgh, rfl, rfl⟩ := hrel
    have HGH := Kh hgh
    clear hgh
    by_cases hlt : k < bs.length
    · have hlt' : (k : Int) < bs.length := by omega
      obtain ⟨kb, off, kc, e, _, hk1, hk2, hkr⟩ := (H.out.kept (Ga w (.cells #[.slice a bs.length cap] 28) none) (by simp)).some_ (by rw [yB]; omega)
      rw [hw] at hkr
      rw [yB] at e hk1
      simp only [Value.slice.injEq] at e
      obtain ⟨rfl, _, rfl⟩ := e
      have hc := vD hkr k hlt
      have HS2 := Kh (fH bs k hlt)
      obtain ⟨u, hu⟩ : ∃ u, u = bs.getD k ⟨#[]⟩ := ⟨_, rfl⟩
      have hus : u.size ≤ 9223372036854775807 := by
        rw [hu, zG hlt]; have := HS.out k hlt; unfold maxLen at this; omega
      rw [← hu] at hc HS2
      have HW := Kh hw
      clear hkr hu hw
      go_wp2
      go_roundg (bs.length - (k + 1))
      case measure => have := HGH.out; omega
      case rel => exact ⟨HW.out, k + 1, by have := HGH.out; omega, by go_num, by rw [HS2.out]⟩
    · have hkn : k = bs.length := by have := HGH.out; omega
      have HT : Hid (totW (bs.take k) = totW bs) := Kh (by rw [hkn, List.take_length])
      rw [HT.out]
      have hkn' : ¬ (k : Int) < bs.length := by omega
      have HG : Hid (w.grownBy wr none) := Kh (by rw [← hw]; exact Ga _ _ _)
      have hb := heap_alloc_new w (.cells #[.slice a bs.length cap] 28)
      rw [hw] at hb
      have c0 : wr.cell? ⟨w.heap.size, 0, none⟩ = some (.slice a bs.length cap) := by simpa using zJ hb 0 (by simp)
      have HR : Hid (Row B wr (.slice a bs.length cap) (txtV bs)) := Kh (H.out.kept HG.out (by simp))
      clear hkn hw hb HGH
      obtain ⟨tw, htw⟩ : ∃ tw, tw = totW bs := ⟨_, rfl⟩
      rw [← htw]
      have HTW := Kh htw
      clear htw
      by_cases h4 : 64 < tw
      · go_wp2
        go_ret
        exact ⟨yC (by rw [patW, if_neg (by omega), if_neg (by omega), if_pos (by rw [← HTW.out]; omega)]), HG.out⟩
      by_cases h5 : bs.length = 0
      · have h5' : ((bs.length : Int) == 0) = true := by simp [h5]
        have H5 := Kh h5; clear h5
        go_wp2
        go_ret
        exact ⟨yC (by rw [patW, if_neg (by omega), if_neg (by omega), if_neg (by rw [← HTW.out]; omega), if_pos H5.out]), HG.out⟩
      have h5' : ((bs.length : Int) == 0) = false := by rw [beq_eq_false_iff_ne]; omega
      go_wp2
      go_loopg [8, 9, 42] bs.length (fun gh a8 a9 i wq => wr = wq ∧ ∃ k : Nat, gh + k = bs.length ∧ i = .int .i64 k ∧ vH bs.length letters k (bs.drop k) = vH bs.length letters 0 bs)
      case atStart => exact ⟨rfl, 0, rfl, rfl, rfl⟩
      case round =>
        obtain ⟨rfl, j, hgh, rfl, hok⟩ := hrel
        have HGH := Kh hgh; have HOK := Kh hok
        clear hgh hok
        by_cases hj : j < bs.length
        · have hj' : (j : Int) < bs.length := by omega
          obtain ⟨kb, off, kc, e, _, hk1, hk2, hkr⟩ := HR.out.some_ (by rw [yB]; omega)
          rw [yB] at e hk1
          simp only [Value.slice.injEq] at e
          obtain ⟨rfl, _, rfl⟩ := e
          have hc := vD hkr j hj
          obtain ⟨u, hu⟩ : ∃ u, u = bs.getD j ⟨#[]⟩ := ⟨_, rfl⟩
          have hus : u.size ≤ maxLen := by rw [hu, zG hj]; exact HS.out j hj
          rw [← hu] at hc
          have HU : Hid (u = bs[j]) := Kh (by rw [hu, zG hj])
          clear hkr hu
          go_wp2_with (go_at_call 39; refine (pZ u letters _ hus).mono ?_; rintro e w' ⟨rfl, rfl⟩)
          all_goals first
            | (go_ret
               exact ⟨yC (by rw [fZ (by omega) (by omega) (by rw [← HTW.out]; omega) (by omega), bN hj (by rw [← HU.out]; first | exact eI (by assumption) (by assumption) (by assumption) | exact eJ (by assumption)) HOK.out]; rfl), HG.out⟩)
            | (go_roundg (bs.length - (j + 1))
               case rel => exact ⟨rfl, j + 1, by have := HGH.out; omega, by go_num, eE hj (eH (by rw [← HU.out]; assumption) (by rw [← HU.out]; first | (left; omega) | (right; assumption))) HOK.out⟩
               case measure => have := HGH.out; omega)
        · have hj' : ¬ (j : Int) < bs.length := by omega
          have e : vH bs.length letters j (bs.drop j) = true := by rw [List.drop_eq_nil_of_le (by omega)]; rfl
          have HE := Kh e
          clear e
          go_wp2
          go_ret
          exact ⟨yC (by rw [fZ (by omega) (by omega) (by rw [← HTW.out]; omega) (by omega), ← HOK.out, HE.out]; rfl), HG.out⟩
end Go.Proofs.Ytjfdomfendbhfaa
