/- Part 1 of the proof. -/
import Derived.Test.YtobakifdllameaaGreatRows
import Derived.WalkKit
import Derived.WalkSpells
import Derived.WalkLawsBesides
import Derived.Lib.Hide
import Derived.BigQuiet
import Derived.Deep.QuietTactic
import Derived.Deep.LoopGhost
import Derived.OwnWalk
import Derived.ArgAppend
import Derived.Deep.OwnRows
import Derived.Deep.Cut
import Derived.Deep.RegionHeld3
import Derived.Deep.DrawnRows
import Derived.OrdersHeld
set_option linter.unusedVariables false
set_option linter.unusedSimpArgs false
set_option maxRecDepth 100000
set_option maxHeartbeats 16000000
namespace Go.Proofs.YtobakifdllameaaGreat
open Go.RowKit
theorem Nm {α:Sort _}(a:α):∃x,x=a:=⟨a,rfl⟩
theorem K3 {a b c:Prop}(x:a)(y:b)(z:c):Hid a ∧ Hid b ∧ Hid c:=⟨Lib.hid x,Lib.hid y,Lib.hid z⟩
theorem K4 {a b c d:Prop}(x:a)(y:b)(z:c)(u:d):Hid a ∧ Hid b ∧ Hid c ∧ Hid d:=⟨Lib.hid x,K3 y z u⟩
theorem K5 {a b c d e:Prop}(x:a)(y:b)(z:c)(u:d)(v:e):Hid a ∧ Hid b ∧ Hid c ∧ Hid d ∧ Hid e:=⟨Lib.hid x,K4 y z u v⟩
theorem K6 {a b c d e f:Prop}(x:a)(y:b)(z:c)(u:d)(v:e)(w:f):Hid a ∧ Hid b ∧ Hid c ∧ Hid d ∧ Hid e ∧ Hid f:=⟨Lib.hid x,K5 y z u v w⟩
theorem Oj {α:Type _}{a b:α}(h:some a=some b):a=b:=Option.some.inj h
theorem Ga (w:World)(o:Obj)(r:Option Nat):w.grownBy (w.alloc o) r:=World.grownBy_alloc w o r
theorem Kh {p:Prop}(h:p):Hid p:=Lib.hid h
theorem sPa (xs:List Value)(i:Nat)(x:Value):xs.toArray.setIfInBounds i x=(xs.set i x).toArray:=List.setIfInBounds_toArray ..
theorem sPb (a b:Value)(l:List Value):(a::l).set 0 b=b::l:=rfl
theorem sPc (a b:Value)(n:Nat)(l:List Value):(a::l).set (n+1) b=a::l.set n b:=rfl
theorem sPd {α:Type _}{xs:List α}{i:Nat}(h:i<xs.toArray.size):xs.toArray[i]=xs[i]'(by simpa using h):=List.getElem_toArray h
theorem sPe {α:Type _}{a:α}{l:List α}{h:0<(a::l).length}:(a::l)[0]'h=a:=rfl
theorem sPf {α:Type _}{a:α}{l:List α}{i:Nat}{h:i+1<(a::l).length}:(a::l)[i+1]'h=l[i]'(Nat.lt_of_succ_lt_succ h):=rfl
theorem yT {a b:Bool}(h:a=b):Ending.returned (.bool a)=.returned (.bool b):=by rw[h]
theorem yX {k:IntKind}{a b:Int}(h:a=b):Ending.returned (.int k a)=.returned (.int k b):=by rw[h]
def vQ (w:World)(b off:Nat)(xs:List Value):Prop:=b<w.heap.size/\∀i (h:i<xs.length),w.cell? ⟨b,off+i,none⟩=some xs[i]
def Row (B:Nat)(w:World)(v:Value)(xs:List Value):Prop :=
 (∃a cap,v=.slice a 0 cap/\xs=[])\/∃b off cap,v=.slice (some ⟨b,off,none⟩) xs.length cap/\b<B/\xs.length<=cap/\cap<=maxLen/\vQ w b off xs
theorem vQ.kept {w w':World}{b off:Nat}{xs:List Value}{row:Option Nat}(h:vQ w b off xs)(hg:w.grownBy w' row)(hr:row≠some b):vQ w' b off xs :=
 ⟨Nat.lt_of_lt_of_le h.1 hg.size,fun i hi=>(World.cell?_of_block (hg.block b h.1 (fun e=>hr e.symm))).trans (h.2 i hi)⟩
theorem Row.kept {B:Nat}{w w':World}{v:Value}{xs:List Value}{row:Option Nat}(h:Row B w v xs)(hg:w.grownBy w' row)(hr:∀k,row=some k->B<=k):Row B w' v xs:=by
 rcases h with h|⟨b,off,cap,h1,h2,h3,h4,h5⟩
 ·exact .inl h
 ·exact .inr ⟨b,off,cap,h1,h2,h3,h4,h5.kept hg (fun e=>by have:=hr b e;omega)⟩
theorem Row.mono {B B':Nat}{w:World}{v:Value}{xs:List Value}(h:Row B w v xs)(hB:B<=B'):Row B' w v xs:=by
 rcases h with h|⟨b,off,cap,h1,h2,h3⟩
 ·exact .inl h
 ·exact .inr ⟨b,off,cap,h1,by omega,h3⟩
theorem vQ.of_heap {w w':World}{b off:Nat}{xs:List Value}(h:vQ w b off xs)(e:w'.heap=w.heap):vQ w' b off xs :=
 ⟨by rw[e];exact h.1,fun i hi=>(World.cell?_of_block (by rw[e])).trans (h.2 i hi)⟩
theorem Row.of_heap {B:Nat}{w w':World}{v:Value}{xs:List Value}(h:Row B w v xs)(e:w'.heap=w.heap):Row B w' v xs:=by
 rcases h with h|⟨b,off,cap,h1,h2,h3,h4,h5⟩
 ·exact .inl h
 ·exact .inr ⟨b,off,cap,h1,h2,h3,h4,h5.of_heap e⟩
theorem wW {w a b:World}{row:Option Nat}(h:w.grownBy a row)(h1:b.os=a.os)(h2:b.tape=a.tape)(h3:b.output=a.output)(h4:b.heap=a.heap):w.grownBy b row :=
 ⟨h1.trans h.os,h2.trans h.tape,h3.trans h.output,by rw[h4];exact h.size,fun k hk hne=>by rw[h4];exact h.block k hk hne⟩
theorem zU (w:World)(row:Option Nat):w.grownBy w row:=⟨rfl,rfl,rfl,Nat.le_refl _,fun _ _ _=>rfl⟩
theorem zQ (w:World)(n:Nat)(row:Option Nat):w.grownBy (w.drewN n) row:=⟨rfl,rfl,rfl,Nat.le_refl _,fun _ _ _=>rfl⟩
theorem zS (w:World)(row:Option Nat):w.grownBy w.drew row:=⟨rfl,rfl,rfl,Nat.le_refl _,fun _ _ _=>rfl⟩
theorem nY {a b c:World}{r s row:Option Nat}(h:a.grownBy b r)(k:b.grownBy c s)(hr:r=none\/r=row\/∃x,r=some x/\a.heap.size<=x)(hs:s=none\/s=row\/∃x,s=some x/\a.heap.size<=x):a.grownBy c row:=by
 refine⟨k.os.trans h.os,k.tape.trans h.tape,k.output.trans h.output,Nat.le_trans h.size k.size,fun i hi hne=>?_⟩;refine(k.block i (Nat.lt_of_lt_of_le hi h.size) ?_).trans (h.block i hi ?_)
 ·rcases hs with rfl|rfl|⟨x,rfl,hx⟩
  ·simp
  ·exact hne
  ·simp;omega
 ·rcases hr with rfl|rfl|⟨x,rfl,hx⟩
  ·simp
  ·exact hne
  ·simp;omega
theorem zG {a b c:World}{row:Option Nat}(h:a.grownBy b row)(k:b.grownBy c row):a.grownBy c row:=nY h k (.inr (.inl rfl)) (.inr (.inl rfl))
theorem zF (w:World)(p:Addr)(u:Value):w.grownBy (w.setCell p u) (some p.block) :=
 ⟨rfl,rfl,rfl,by simp[World.setCell],fun k _ hk=>Below.heap_setCell _ _ _ _ (fun e=>hk (by rw[e]))⟩
theorem xY {a b:World}{row:Option Nat}(h:a.grownBy b none):a.grownBy b row :=
 ⟨h.os,h.tape,h.output,h.size,fun k hk _=>h.block k hk (by simp)⟩
theorem below_of_grown {a b:World}(h:a.grownBy b none):Below a.heap.size a b:=⟨h.os,h.tape,h.output,h.size,fun k hk=>h.block k hk (by simp)⟩
theorem kP {a b:World}{row:Option Nat}(h:Below a.heap.size a b):a.grownBy b row:=⟨h.os,h.tape,h.output,h.size,fun k hk _=>h.block k hk⟩
section
variable {P:Program} {f:FuncId} {args:Array Value} {w:World} {a n:Nat} {v:Value}
theorem cJ (h:Calls P f args (w.drewN n) fun e w'=>e=.returned v/\w.drewN n=w'):Calls P f args (w.drewN n) fun e w''=>e=.returned v/\∃m,w''=w.drewN m :=
 h.mono fun _ _ ⟨he,hm⟩=>⟨he,n,hm.symm⟩
theorem kO (h:Calls P f args (w.drewN (a+n)) fun e w'=>e=.returned v/\w.drewN (a+n)=w'):
  Calls P f args (w.drewN (a+n)) fun e w''=>e=.returned v/\∃m,w''=w.drewN (a+m) :=
 h.mono fun _ _ ⟨he,hm⟩=>⟨he,n,hm.symm⟩
end
structure ElemOk (P:Program)(t e:TypeId)(z:Value)(bytes:Nat):Prop where
 ht:P.underlying t=some (.slice e)
 hi:(P.info? e).map (fun i=>(i.zero,i.size,i.bytes))=some (some z,1,bytes)
 hz:z.cells.size=1
theorem qU {w:World}{base e size:Nat}{v:Value}{n:Nat}{xs:List Value}(h:w.ownsRow base e size v n xs):∃sa sc,v=.slice sa n sc:=by
 rcases h.2 with ⟨rfl,rfl⟩|⟨g,cap,cur,rfl,_⟩
 ·exact⟨none,0,rfl⟩
 ·exact⟨_,_,rfl⟩
theorem zR {w:World}{b:Nat}{o:Obj}(h:w.heap[b]?=some o):b<w.heap.size:=(Array.getElem?_eq_some_iff.1 h).1
theorem app1 {P:Program}{w:World}{ops:Array Oper}{rest:List Oper}{o:Oper}{a:Act}{Q:Exit->Act->World->Prop}(hgd:o.guard=none)(s x:Operand)(t:TypeId)(ho:o.op=.call { callee:=.builtin .append,args:=#[s,x],argTypes:=#[t,t] }){e:TypeId}{z:Value}{bytes:Nat}(E:ElemOk P t e z bytes)(base:Nat)(v:Value)(n:Nat)(xs:List Value)(hs:a.eval s=v)(hown:w.ownsRow base e 1 v n xs)(u:Value)(hx:a.eval x=.slice (some ⟨w.heap.size,0,none⟩) 1 1)(h1:u.oneCell'=true)(h63:n+1<=maxLen)(hbytes:(n+1)*bytes<=140737488355328)(hbase:base<=w.heap.size)(h:∀sa sc w',w'.ownsRow base e 1 (.slice sa (n+1) sc) (n+1) (xs++[u])->w.grownBy w' v.ownBlock->w.heap.size<w'.heap.size->wpList P ops Q rest (a.put o.dst (.slice sa (n+1) sc)) w'):wpList P ops Q (o::rest) a (w.alloc (.cells #[u] e)):=by
 obtain⟨i,hi,hz,h0,h3⟩:=info_parts E.hi;refine wpList_append_own _ hgd s x t ho base e i z 1 bytes E.ht hi hz h0 h3 E.hz (by decide) v n xs hs (hown.alloc _) ⟨w.heap.size,0,none⟩ 1 1 [u] hx rfl ?_ ?_ h63 hbytes (by simp;omega) ?_
 ·intro j u' hj
  match j,hj with
  | 0,hj=>simp at hj;subst hj;simp[Addr.add]
 ·intro u' hu;simp at hu;subst hu;exact h1
 ·intro v' w' h1 h2 _
  obtain⟨sa,sc,rfl⟩:=qU h1;refine h sa sc w' h1 ?_ (by have:=h2.size;simp at this;omega);refine⟨h2.os,h2.tape,h2.output,by have:=h2.size;simp at this;omega,fun k hk hne=>(h2.block k (by simp;omega) hne).trans ?_⟩;exact Below.heap_alloc w _ k hk
theorem aL {P:Program}{w:World}{base:Nat}{v:Value}{n:Nat}{xs:List Int}(src e:TypeId)(hs:P.underlying src=some (.slice e))(he:P.underlying e=some (.int .u8))(dst:TypeId)(hd:P.underlying dst=some .string)(hown:w.ownsRow base e 1 v n (xs.map (Value.int .u8))):(convert src dst v).run P w=.ok (.string (strOfNums xs)) w:=by
 have hl:xs.length=n:=by have:=hown.1;simpa using this
 rcases hown.2 with ⟨rfl,rfl⟩|⟨g,cap,cur,rfl,_⟩
 ·have:xs=[]:=List.eq_nil_of_length_eq_zero hl
  subst this;exact run_convert_bytes_nil w src e hs he 0 0 dst hd
 ·refine run_convert_bytes_arg w src e hs he g 0 n cap xs hl (fun i hi=>?_) dst hd
  rw[Nat.zero_add,hown.cellAt i (by omega)];simp[List.getD,List.getElem?_eq_getElem (show i<xs.length by omega)]
theorem Row.of_owns {w:World}{base e:Nat}{v:Value}{n:Nat}{xs:List Value}(h:w.ownsRow base e 1 v n xs):Row w.heap.size w v xs:=by
 have hl:xs.length=n:=by have:=h.1;omega
 rcases h.2 with ⟨rfl,rfl⟩|⟨g,cap,cur,rfl,hb,hg,hnc,hcm,hcs,htake⟩
 ·exact .inl ⟨_,_,rfl,List.eq_nil_of_length_eq_zero hl⟩
 ·have h0:=(Array.getElem?_eq_some_iff.1 hg).1
  refine .inr ⟨g,0,cap,by rw[hl],h0,by omega,hcm,h0,fun i hi=>?_⟩;rw[Nat.zero_add,h.cellAt i (by omega),List.getElem?_eq_getElem hi]
theorem wK {w w':World}{base e:Nat}{v:Value}{n:Nat}{xs:List Value}{row:Option Nat}(h:w.ownsRow base e 1 v n xs)(hg:w.grownBy w' row)(hr:∀k,row=some k->k<base):w'.ownsRow base e 1 v n xs:=by
 refine h.kept hg ?_;rcases hv:v.ownBlock with _|k
 ·exact .inl rfl
 ·refine .inr fun e=>?_
  have:=hr k e.symm;have:=(h.lt k hv).1;omega
theorem zV {w:World}{base e size:Nat}{v:Value}{n:Nat}{xs:List Value}{pb e':Nat}{c:Array Value}{m:Nat×Nat}(h:w.ownsRow base e size v n xs)(hp:w.heap[pb]?=some (.cells c e' m))(hne:e≠e'):v.ownBlock≠some pb:=by
 rcases h.2 with ⟨rfl,_⟩|⟨g,cap,cur,rfl,_,hg,_⟩
 ·simp[Value.ownBlock]
 ·intro hv
  simp[Value.ownBlock]at hv;subst hv;rw[hg]at hp;simp at hp;exact hne hp.2.1
theorem zB {w w':World}{row:Option Nat}{pb:Nat}{o:Obj}(h:w.heap[pb]?=some o)(hg:w.grownBy w' row)(hr:row≠some pb:=by simp):w'.heap[pb]?=some o :=
 (hg.block pb (Array.getElem?_eq_some_iff.1 h).1 (fun e=>hr e.symm)).trans h
theorem zH {w:World}{pb e:Nat}{c:Array Value}{m:Nat×Nat}(h:w.heap[pb]?=some (.cells c e m))(i:Nat)(hi:i<c.size:=by simp):w.cell? ⟨pb,i,none⟩=some c[i]:=by
 rw[cell_of_row w pb i _ _ _ h];simp[hi]
theorem zA {w:World}{pb e:Nat}{c:Array Value}(h:w.heap[pb]?=some (.cells c e (0,0)))(i:Nat):w.frozen? ⟨pb,i,none⟩=false:=frozen_of_row w pb i _ _ h
theorem zW (w:World)(o:Obj):(w.alloc o).heap.size=w.heap.size+1:=by simp
theorem nX {w a:World}{row:Option Nat}(h:w.grownBy a row)(o:Obj):w.grownBy (a.alloc o) row:=zG h (Ga a o row)
theorem zC {w a b:World}{row s:Option Nat}(h:w.grownBy a row)(k:a.grownBy b s)(hs:∀x,s=some x->w.heap.size<=x:=by simp):w.grownBy b row :=
 nY h k (.inr (.inl rfl)) (by
  rcases s with _|x
  ·exact .inl rfl
  ·exact .inr (.inr ⟨x,rfl,hs x rfl⟩))
theorem yG {w a b:World}{row:Option Nat}{p:Nat}(h:w.grownBy a row)(k:a.grownBy b (some p))(hp:w.heap.size<=p):w.grownBy b row:=zC h k (fun _ e=>by rw[<-Oj e];exact hp)
theorem vQ.map {α:Type}{f:α->Value}{w:World}{b off:Nat}{xs:List α}(h:vQ w b off (xs.map f))(i:Nat)(hi:i<xs.length):w.cell? ⟨b,off+i,none⟩=some (f xs[i]):=by
 rw[h.2 i (by simpa using hi),List.getElem_map]
def Arr (w:World)(g:Nat)(e:TypeId)(xs:List Value):Prop:=∃cur rest,w.heap[g]?=some (.cells cur e (0,0))/\cur.toList=xs++rest
theorem Arr.lt {w:World}{g:Nat}{e:TypeId}{xs:List Value}(h:Arr w g e xs):g<w.heap.size:=by
 obtain⟨_,_,h,_⟩:=h;exact zR h
theorem Arr.cell {w:World}{g:Nat}{e:TypeId}{xs:List Value}(h:Arr w g e xs)(i:Nat)(hi:i<xs.length):w.cell? ⟨g,i,none⟩=some xs[i]:=by
 obtain⟨cur,rest,h,hc⟩:=h;rw[cell_of_row w g i _ _ _ h,<-Array.getElem?_toList,hc,List.getElem?_append_left hi,List.getElem?_eq_getElem hi]
theorem Arr.frozen {w:World}{g:Nat}{e:TypeId}{xs:List Value}(h:Arr w g e xs)(i:Nat):w.frozen? ⟨g,i,none⟩=false:=by
 obtain⟨cur,rest,h,hc⟩:=h;exact frozen_of_row w g i _ _ h
theorem Arr.set {w:World}{g:Nat}{e:TypeId}{xs:List Value}(h:Arr w g e xs)(i:Nat)(hi:i<xs.length)(u:Value):Arr (w.setCell ⟨g,i,none⟩ u) g e (xs.set i u):=by
 obtain⟨cur,rest,h,hc⟩:=h;refine⟨cur.setIfInBounds i u,rest,heap_setCell_same w g i _ _ _ h,?_⟩;rw[Array.toList_setIfInBounds,hc,List.set_append_left _ _ hi]
theorem Arr.kept {w w':World}{g:Nat}{e:TypeId}{xs:List Value}{row:Option Nat}(h:Arr w g e xs)(hg:w.grownBy w' row)(hr:row≠some g):Arr w' g e xs:=by
 obtain⟨cur,rest,h,hc⟩:=h;exact⟨cur,rest,zB h hg hr,hc⟩
theorem Arr.of_heap {w w':World}{g:Nat}{e:TypeId}{xs:List Value}(h:Arr w g e xs)(he:w'.heap=w.heap):Arr w' g e xs:=by
 obtain⟨cur,rest,h,hc⟩:=h;exact⟨cur,rest,by rw[he];exact h,hc⟩
theorem Arr.of_owns {w:World}{base g n cap:Nat}{e:TypeId}{xs:List Value}(h:w.ownsRow base e 1 (.slice (some ⟨g,0,none⟩) n cap) n xs):Arr w g e xs:=by
 rcases h.2 with ⟨h',_⟩|⟨g',cap',cur,h',hb,hg,hnc,hcm,hcs,htake⟩
 ·simp at h'
 ·simp only[Value.slice.injEq,Option.some.injEq,Addr.mk.injEq,and_true,true_and]at h'
  obtain⟨rfl,rfl⟩:=h';refine⟨cur,cur.toList.drop n,hg,?_⟩;rw[Nat.mul_one]at htake;rw[<-htake,List.take_append_drop]
theorem Arr.row {w:World}{g:Nat}{e:TypeId}{xs:List Value}(h:Arr w g e xs):vQ w g 0 xs:=⟨h.lt,fun i hi=>by rw[Nat.zero_add];exact h.cell i hi⟩
theorem Arr.new (w:World)(e:TypeId)(cs:Array Value):Arr (w.alloc (.cells cs e)) w.heap.size e cs.toList:=⟨cs,[],heap_alloc_new w _,by simp⟩
theorem Arr.front {w:World}{g:Nat}{e:TypeId}{xs ys:List Value}(h:Arr w g e (xs++ys)):Arr w g e xs:=by
 obtain⟨cur,rest,h,hc⟩:=h;exact⟨cur,ys++rest,h,by rw[hc,List.append_assoc]⟩
theorem Arr.type_ne {w:World}{g g':Nat}{e e':TypeId}{xs:List Value}{c:Array Value}{m:Nat×Nat}(h:Arr w g e xs)(hp:w.heap[g']?=some (.cells c e' m))(hne:e≠e'):g≠g':=by
 obtain⟨cur,rest,h,hc⟩:=h;rintro rfl;rw[h]at hp;simp at hp;exact hne hp.2.1
theorem aM {P:Program}{w:World}{g:Nat}{xs:List Int}(src e:TypeId)(hs:P.underlying src=some (.slice e))(he:P.underlying e=some (.int .u8))(dst:TypeId)(hd:P.underlying dst=some .string)(n cap:Nat)(hn:xs.length=n)(h:Arr w g e (xs.map (Value.int .u8))):(convert src dst (.slice (some ⟨g,0,none⟩) n cap)).run P w=.ok (.string (strOfNums xs)) w:=by
 refine run_convert_bytes_arg w src e hs he g 0 n cap xs hn (fun i hi=>?_) dst hd;rw[Nat.zero_add,h.cell i (by simp;omega)];simp[List.getD,List.getElem?_eq_getElem (show i<xs.length by omega)]
theorem Row.of_arg {k:IntKind}{w:World}{a:Option Addr}{len cap:Nat}{zs:List Int}(h:(a=none/\len=0/\cap=0/\zs=[])\/∃x,a=some x/\len<=cap/\cap<=maxLen/\zs.length=cap/\(∀i,i<zs.length->w.cell? (x.add i)=some (.int k (zs.getD i 0)))/\∀n∈zs,(Lit.int k n).wf=true):Row w.heap.size w (.slice a len cap) ((zs.take len).map (Value.int k)):=by
 rcases h with ⟨rfl,rfl,rfl,rfl⟩|⟨x,rfl,h1,h2,h3,h4,_⟩
 ·exact .inl ⟨_,_,rfl,rfl⟩
 ·by_cases hl:len=0
  ·subst hl
   exact .inl ⟨_,_,rfl,by simp⟩
  ·obtain⟨b,off,spot⟩:=x
   have hc:=h4 0 (by omega);have h5:spot=none:=by simpa [Addr.add] using World.cell?_spot hc
   subst h5;have h6:∀i,(⟨b,off,none⟩:Addr).add i=⟨b,off+i,none⟩:=fun i=>by unfold Addr.add;split<;>simp_all
   have hb:b<w.heap.size:=(by rw[h6]at hc;exact World.block_lt_of_cell? w _ hc);have h0:((zs.take len).map (Value.int k)).length=len:=by simp;omega
   refine .inr ⟨b,off,cap,by rw[h0],hb,by rw[h0];exact h1,h2,hb,fun i hi=>?_⟩;rw[h0]at hi;have:=h4 i (by omega);rw[h6]at this;rw[this];simp[List.getD,List.getElem?_eq_getElem (show i<zs.length by omega)]
end Go.Proofs.YtobakifdllameaaGreat
namespace Go.Proofs.YtobakifdllameaaGreat
def ent (t:List (List Int))(x y:Nat):Int:=(t.getD x []).getD y 0
def entN (t:List (List Int))(x y:Nat):Nat:=(ent t x y).toNat
def dI (n:Nat)(r:List Int):Bool:=decide (r.length=n) && r.all fun x=>decide (0<=x/\x<n)
def rD (t:List (List Int)):Int:=if 400<t.length then 3 else if t.length=0 then 4 else if t.all (dI t.length) then 0 else 4
structure Shape (t:List (List Int)):Prop where
 pos:0<t.length
 le:t.length<=400
 row:∀x,x<t.length->(t.getD x []).length=t.length
 lo:∀x y,x<t.length->y<t.length->0<=ent t x y
 hi:∀x y,x<t.length->y<t.length->ent t x y<t.length
theorem oH {n:Nat}{r:List Int}:dI n r=true↔r.length=n/\∀y,y<r.length->0<=r.getD y 0/\r.getD y 0<n:=by
 simp only[dI,Bool.and_eq_true,decide_eq_true_eq,List.all_eq_true];refine and_congr_right fun _=>⟨fun h y hy=>?_,fun h x hx=>?_⟩
 ·have:=h (r[y]) (List.getElem_mem hy)
  simpa [List.getD,List.getElem?_eq_getElem hy] using this
 obtain⟨y,hy,rfl⟩:=List.getElem_of_mem hx;have:=h y hy;simpa [List.getD,List.getElem?_eq_getElem hy] using this
theorem qFM {t:List (List Int)}(h:rD t=0):Shape t:=by
 unfold rD at h
 split at h
 ·omega
 split at h
 ·omega
 split at h
 ·rename_i h1 h2 h3
  rw[List.all_eq_true]at h3
  have hr:∀x,x<t.length->dI t.length (t.getD x [])=true:=fun x hx=>by
   have:=h3 t[x] (List.getElem_mem hx);simpa [List.getD,List.getElem?_eq_getElem hx] using this
  refine⟨by omega,by omega,fun x hx=>(oH.1 (hr x hx)).1,fun x y hx hy=>?_,fun x y hx hy=>?_⟩
  ·obtain⟨e,h⟩:=oH.1 (hr x hx)
   exact(h y (by omega)).1
  obtain⟨e,h⟩:=oH.1 (hr x hx);exact(h y (by omega)).2
 omega
theorem qCX {t:List (List Int)}(h:Shape t){x y:Nat}(hx:x<t.length)(hy:y<t.length):(entN t x y:Int)=ent t x y:=Int.toNat_of_nonneg (h.lo x y hx hy)
theorem pH {t:List (List Int)}(h:Shape t){x y:Nat}(hx:x<t.length)(hy:y<t.length):entN t x y<t.length:=by
 have h1:=qCX h hx hy;have h2:=h.hi x y hx hy;omega
def nV (t:List (List Int))(g:Nat):Prop:=∀x y,x<t.length->y<t.length->entN t (entN t x g) y=entN t x (entN t g y)
def qMH (t:List (List Int)):Prop:=∀g,g<t.length->nV t g
open Classical in
noncomputable def qA (t:List (List Int)):Int:=if rD t≠0 then rD t else if qMH t then 0 else 5
theorem qBB {t:List (List Int)}(h:rD t≠0):qA t=rD t:=by rw[qA,if_pos h]
theorem gJ {t:List (List Int)}(h:rD t=0)(ha:qMH t):qA t=0:=by rw[qA,if_neg (by omega),if_pos ha]
theorem qGL {t:List (List Int)}(h:rD t=0)(ha:¬qMH t):qA t=5:=by rw[qA,if_neg (by omega),if_neg ha]
inductive Gen (t:List (List Int))(gs:List Nat):Nat->Prop where
 | base (g:Nat):g∈gs->Gen t gs g
 | mul (x y:Nat):Gen t gs x->Gen t gs y->Gen t gs (entN t x y)
theorem Gen.mono {t:List (List Int)}{gs hs:List Nat}(h:∀g∈gs,g∈hs){x:Nat}(hx:Gen t gs x):Gen t hs x:=by
 induction hx with
 | base g hg=>exact .base g (h g hg)
 | mul x y _ _ h1 h2=>exact .mul x y h1 h2
theorem qKW {t:List (List Int)}(hs:Shape t){gs:List Nat}(hg:∀g∈gs,g<t.length/\nV t g){x:Nat}(hx:Gen t gs x):x<t.length/\nV t x:=by
 induction hx with
 | base g h=>exact hg g h
 | mul g h _ _ h1 h2 =>
  obtain⟨hg,lg⟩:=h1;obtain⟨hh,lh⟩:=h2;refine⟨pH hs hg hh,fun x y hx hy=>?_⟩;have e1:=lg x h hx hh;have e2:=lh (entN t x g) y (pH hs hx hg) hy;have e3:=lg x (entN t h y) hx (pH hs hh hy);have e4:=lh g y hg hy;rw[<-e1,e2,e3,e4]
theorem dN {t:List (List Int)}(hs:Shape t){gs:List Nat}(a9:∀x,x<t.length->Gen t gs x)(hg:∀g∈gs,g<t.length/\nV t g):qMH t :=
 fun x hx=>(qKW hs hg (a9 x hx)).2
open Go.RowKit
def ints (zs:List Int):List Value:=zs.map (Value.int .i64)
theorem zJ (zs:List Int):(ints zs).length=zs.length:=by simp[ints]
theorem Row.some_ {B:Nat}{w:World}{v:Value}{xs:List Value}(h:Row B w v xs)(hx:0<xs.length):∃b off cap,v=.slice (some ⟨b,off,none⟩) xs.length cap/\b<B/\xs.length<=cap/\cap<=maxLen/\vQ w b off xs:=by
 rcases h with ⟨a,c,rfl,rfl⟩|⟨b,off,cap,rfl,h0,h1,h2,h3⟩
 ·simp at hx
 exact⟨b,off,cap,rfl,h0,h1,h2,h3⟩
theorem Row.nil_ {B:Nat}{w:World}{v:Value}{xs:List Value}(h:Row B w v xs)(hx:xs.length=0):∃a cap,v=.slice a 0 cap:=by
 rcases h with ⟨a,c,rfl,rfl⟩|⟨b,off,cap,rfl,h0,h1,h2,h3⟩
 ·exact⟨a,c,rfl⟩
 exact⟨_,_,by rw[hx]⟩
theorem Row.shape {B:Nat}{w:World}{v:Value}{xs:List Value}(h:Row B w v xs):∃a cap,v=.slice a xs.length cap:=by
 rcases h with ⟨a,c,rfl,rfl⟩|⟨b,off,cap,rfl,h0,h1,h2,h3⟩
 ·exact⟨a,c,rfl⟩
 exact⟨_,_,rfl⟩
theorem Row.len_le {B:Nat}{w:World}{v:Value}{xs:List Value}(h:Row B w v xs):xs.length<=maxLen:=by
 rcases h with ⟨a,c,rfl,rfl⟩|⟨b,off,cap,rfl,h0,h1,h2,h3⟩
 ·simp
 omega
theorem vQ.int {w:World}{b off:Nat}{zs:List Int}(h:vQ w b off (ints zs))(i:Nat)(hi:i<zs.length):w.cell? ⟨b,off+i,none⟩=some (.int .i64 (zs.getD i 0)):=by
 rw[vQ.map h i hi];simp[List.getD,List.getElem?_eq_getElem hi]
structure MatAt (B:Nat)(w:World)(t:List (List Int))(b off:Nat)(A:Nat->Option Addr)(C:Nat->Nat):Prop where
 lt:b<B
 ltw:b<w.heap.size
 hd:∀x,x<t.length->w.cell? ⟨b,off+x,none⟩=some (.slice (A x) (t.getD x []).length (C x))
 row:∀x,x<t.length->Row B w (.slice (A x) (t.getD x []).length (C x)) (ints (t.getD x []))
def Mat (B:Nat)(w:World)(v:Value)(t:List (List Int)):Prop :=
 (∃a cap,v=.slice a 0 cap/\t=[])\/∃b off cap A C,v=.slice (some ⟨b,off,none⟩) t.length cap/\t.length<=cap/\cap<=maxLen/\MatAt B w t b off A C
theorem MatAt.kept {B:Nat}{w w':World}{t:List (List Int)}{b off:Nat}{A:Nat->Option Addr}{C:Nat->Nat}{row:Option Nat}(h:MatAt B w t b off A C)(hg:w.grownBy w' row)(hr:∀k,row=some k->B<=k):MatAt B w' t b off A C :=
 ⟨h.lt,Nat.lt_of_lt_of_le h.ltw hg.size,fun x hx=>(World.cell?_of_block (hg.block b h.ltw (fun e=>by have:=hr b e.symm;have:=h.lt;omega))).trans (h.hd x hx),fun x hx=>(h.row x hx).kept hg hr⟩
theorem MatAt.mono {B B':Nat}{w:World}{t:List (List Int)}{b off:Nat}{A:Nat->Option Addr}{C:Nat->Nat}(h:MatAt B w t b off A C)(hB:B<=B'):MatAt B' w t b off A C :=
 ⟨Nat.lt_of_lt_of_le h.lt hB,h.ltw,h.hd,fun x hx=>(h.row x hx).mono hB⟩
theorem MatAt.of_heap {B:Nat}{w w':World}{t:List (List Int)}{b off:Nat}{A:Nat->Option Addr}{C:Nat->Nat}(h:MatAt B w t b off A C)(e:w'.heap=w.heap):MatAt B w' t b off A C :=
 ⟨h.lt,by rw[e];exact h.ltw,fun x hx=>(World.cell?_of_block (by rw[e])).trans (h.hd x hx),fun x hx=>(h.row x hx).of_heap e⟩
section
variable {B B':Nat} {w w':World} {v:Value} {t:List (List Int)} {row:Option Nat}
theorem Mat.kept (h:Mat B w v t)(hg:w.grownBy w' row)(hr:∀k,row=some k->B<=k):Mat B w' v t:=by
 rcases h with h|⟨b,off,cap,A,C,h1,h2,h3,h4⟩
 ·exact .inl h
 exact .inr ⟨b,off,cap,A,C,h1,h2,h3,h4.kept hg hr⟩
theorem Mat.mono (h:Mat B w v t)(hB:B<=B'):Mat B' w v t:=by
 rcases h with h|⟨b,off,cap,A,C,h1,h2,h3,h4⟩
 ·exact .inl h
 exact .inr ⟨b,off,cap,A,C,h1,h2,h3,h4.mono hB⟩
theorem Mat.of_heap (h:Mat B w v t)(e:w'.heap=w.heap):Mat B w' v t:=by
 rcases h with h|⟨b,off,cap,A,C,h1,h2,h3,h4⟩
 ·exact .inl h
 exact .inr ⟨b,off,cap,A,C,h1,h2,h3,h4.of_heap e⟩
theorem Mat.some_ (h:Mat B w v t)(hx:0<t.length):∃b off cap A C,v=.slice (some ⟨b,off,none⟩) t.length cap/\t.length<=cap/\cap<=maxLen/\MatAt B w t b off A C:=by
 rcases h with ⟨_,_,_,rfl⟩|h
 ·simp at hx
 exact h
theorem Mat.shape (h:Mat B w v t):∃a cap,v=.slice a t.length cap:=by
 rcases h with ⟨a,c,rfl,rfl⟩|⟨b,off,cap,A,C,rfl,_⟩
 ·exact⟨a,c,rfl⟩
 exact⟨_,_,rfl⟩
theorem Mat.len_le (h:Mat B w v t):t.length<=maxLen:=by
 rcases h with ⟨a,c,rfl,rfl⟩|⟨b,off,cap,A,C,rfl,h1,h2,_⟩
 ·simp
 omega
end
structure Sq (B:Nat)(w:World)(t:List (List Int))(b off:Nat)(RB RO RC:Nat->Nat):Prop where
 lt:b<B
 ltw:b<w.heap.size
 hd:∀x,x<t.length->w.cell? ⟨b,off+x,none⟩=some (.slice (some ⟨RB x,RO x,none⟩) t.length (RC x))
 el:∀x y,x<t.length->y<t.length->w.cell? ⟨RB x,RO x+y,none⟩=some (.int .i64 (entN t x y))
 ltr:∀x,x<t.length->RB x<B/\RB x<w.heap.size
 cap:∀x,x<t.length->t.length<=RC x/\RC x<=maxLen
theorem Sq.kept {B:Nat}{w w':World}{t:List (List Int)}{b off:Nat}{RB RO RC:Nat->Nat}{row:Option Nat}(h:Sq B w t b off RB RO RC)(hg:w.grownBy w' row)(hr:∀k,row=some k->B<=k):Sq B w' t b off RB RO RC :=
 ⟨h.lt,Nat.lt_of_lt_of_le h.ltw hg.size,fun x hx=>(World.cell?_of_block (hg.block b h.ltw (fun e=>by have:=hr b e.symm;have:=h.lt;omega))).trans (h.hd x hx),
  fun x y hx hy=>(World.cell?_of_block (hg.block (RB x) (h.ltr x hx).2 (fun e=>by have:=hr _ e.symm;have:=(h.ltr x hx).1;omega))).trans (h.el x y hx hy),fun x hx=>⟨(h.ltr x hx).1,Nat.lt_of_lt_of_le (h.ltr x hx).2 hg.size⟩,h.cap⟩
theorem Mat.sq {B:Nat}{w:World}{v:Value}{t:List (List Int)}(h:Mat B w v t)(hs:Shape t):∃b off cap RB RO RC,v=.slice (some ⟨b,off,none⟩) t.length cap/\t.length<=cap/\cap<=maxLen/\Sq B w t b off RB RO RC:=by
 obtain⟨b,off,cap,A,C,rfl,h1,h2,h3⟩:=h.some_ hs.pos
 have hr:∀x,∃rb ro,x<t.length->A x=some ⟨rb,ro,none⟩/\rb<B/\t.length<=C x/\C x<=maxLen/\vQ w rb ro (ints (t.getD x [])):=by
  intro x;by_cases hx:x<t.length
  ·have hl:=hs.row x hx
   obtain⟨rb,ro,c,e,h4,h5,h6,h7⟩:=(h3.row x hx).some_ (by rw[zJ,hl];exact hs.pos);simp only[Value.slice.injEq]at e;rw[zJ,hl]at h5;exact⟨rb,ro,fun _=>⟨e.1,h4,by rw[e.2.2];exact h5,by rw[e.2.2];exact h6,h7⟩⟩
  exact⟨0,0,fun h=>absurd h hx⟩
 obtain⟨RB,h8⟩:=Classical.axiomOfChoice hr;obtain⟨RO,h0⟩:=Classical.axiomOfChoice h8;refine⟨b,off,cap,RB,RO,C,rfl,h1,h2,h3.lt,h3.ltw,fun x hx=>?_,fun x y hx hy=>?_,fun x hx=>?_,fun x hx=>?_⟩
 ·have:=h0 x hx
  rw[h3.hd x hx,this.1,hs.row x hx]
 ·have:=h0 x hx
  rw[this.2.2.2.2.int y (by rw[hs.row x hx];exact hy),qCX hs hx hy];rfl
 ·have:=h0 x hx
  exact⟨this.2.1,this.2.2.2.2.1⟩
 have:=h0 x hx;exact⟨this.2.2.1,this.2.2.2.1⟩
def qMF (n:Nat)(r:List Int)(j:Nat):Prop:=∀y,y<j->0<=r.getD y 0/\r.getD y 0<n
theorem yH:ElemOk Tryz.prog 22 3 (.int .i64 0) 8:=⟨Tryz.underlying22,by kernel_rfl,rfl⟩
theorem wF:ElemOk Tryz.prog 26 4 (.bool false) 1:=⟨Tryz.underlying26,by kernel_rfl,rfl⟩
theorem wG:ElemOk Tryz.prog 27 22 (.slice none 0 0) 24:=⟨Tryz.underlying27,by kernel_rfl,rfl⟩
theorem pE {z:Value}(hz:z.cells=#[z]):∀(n:Nat),(madeCells z.cells (n*1)).toList=List.replicate n z:=by
 intro n;rw[Nat.mul_one,hz];apply List.ext_getElem
 ·simp[madeCells]
 intro i h1 h2;simp[madeCells,Nat.mod_one]
theorem qG {P:Program}{w:World}{ops:Array Oper}{a8:List Oper}{o:Oper}{a:Act}{Q:Exit->Act->World->Prop}(a7:o.guard=none)(l c:Operand)(t:TypeId)(ho:o.op=.makeSlice t l c){e:TypeId}{z:Value}{a9:Nat}(E:ElemOk P t e z a9)(hz:z.cells=#[z])(kl kc:IntKind)(L C:Int)(n:Nat)(hl:a.eval l=.int kl L)(hc:a.eval c=.int kc C)(hL:L=(n:Int))(hC:C=(n:Int))(hb:a9*n<=281474976710656)(a6:n<=maxLen)(h:∀w',Arr w' w.heap.size e (List.replicate n z)->w.grownBy w' none->w.heap.size<w'.heap.size->wpList P ops Q a8 (a.put o.dst (.slice (some ⟨w.heap.size,0,none⟩) n n)) w'):wpList P ops Q (o::a8) a w:=by
 obtain⟨i,hi,h1,h2,h3⟩:=info_parts E.hi;refine wpList_make_full w a7 l c t ho w.heap.size e i z 1 E.ht hi h1 h2 kl kc L C n hl hc hL hC (by rw[h3];exact hb) a6 (Nat.le_refl _) ?_;intro w' h0 hg;have ha:=Arr.of_owns h0;rw[pE hz]at ha;exact h w' ha hg ha.lt
theorem wV {w:World}{base base' e size:Nat}{v:Value}{n:Nat}{xs:List Value}(h:w.ownsRow base e size v n xs)(hb:base'<=base):w.ownsRow base' e size v n xs:=by
 refine⟨h.1,?_⟩;rcases h.2 with h2|⟨g,cap,cur,h1,h2,h3⟩
 ·exact .inl h2
 exact .inr ⟨g,cap,cur,h1,Nat.le_trans hb h2,h3⟩
theorem yZ {w:World}{base e n sc:Nat}{sa:Option Addr}{xs:List Value}(h:w.ownsRow base e 1 (.slice sa n sc) n xs)(hn:0<n):∃kb,sa=some ⟨kb,0,none⟩/\n<=sc/\sc<=maxLen/\Arr w kb e xs:=by
 rcases h.2 with ⟨h',h0⟩|⟨g,cap,cur,h1,hb,hg,hnc,hcm,_⟩
 ·omega
 simp only[Value.slice.injEq]at h1;obtain⟨rfl,-,rfl⟩:=h1;exact⟨g,rfl,hnc,hcm,Arr.of_owns h⟩
def jJ (w w':World)(v v':Value):Prop:=v'.ownBlock=v.ownBlock\/(w.grownBy w' none/\∀k,v'.ownBlock=some k->w.heap.size<=k)
theorem iI {P:Program}{w:World}{ops:Array Oper}{a6:List Oper}{o:Oper}{a:Act}{Q:Exit->Act->World->Prop}(a5:o.guard=none)(s x:Operand)(t:TypeId)(ho:o.op=.call { callee:=.builtin .append,args:=#[s,x],argTypes:=#[t,t] }){e:TypeId}{z:Value}{a9:Nat}(E:ElemOk P t e z a9)(base:Nat)(v:Value)(n:Nat)(xs:List Value)(hs:a.eval s=v)(a8:w.ownsRow base e 1 v n xs)(u:Value)(hx:a.eval x=.slice (some ⟨w.heap.size,0,none⟩) 1 1)(h1:u.oneCell'=true)(a3:n+1<=maxLen)(a7:(n+1)*a9<=140737488355328)(a4:base<=w.heap.size)(h:∀sa sc w',w'.ownsRow base e 1 (.slice sa (n+1) sc) (n+1) (xs++[u])->w.grownBy w' v.ownBlock->w.heap.size<w'.heap.size->jJ w w' v (.slice sa (n+1) sc)->wpList P ops Q a6 (a.put o.dst (.slice sa (n+1) sc)) w'):wpList P ops Q (o::a6) a (w.alloc (.cells #[u] e)):=by
 obtain⟨i,hi,hz,h6,h9⟩:=info_parts E.hi
 have h0:∀j u',[u][j]?=some u'->(w.alloc (.cells #[u] e)).cell? ((⟨w.heap.size,0,none⟩:Addr).add j)=some u':=by
  intro j u' hj
  match j,hj with
  | 0,hj=>simp at hj;subst hj;simp[Addr.add]
 have h5:∀u'∈[u],u'.oneCell'=true:=by intro u' hu;simp at hu;subst hu;exact h1
 have hA:=Ga w (.cells #[u] e) none
 have fin:∀v' w',w'.ownsRow base e 1 v' (n+1) (xs++[u])->(w.alloc (.cells #[u] e)).grownBy w' v.ownBlock->(v'.ownBlock=v.ownBlock\/((w.alloc (.cells #[u] e)).grownBy w' none/\∀k,v'.ownBlock=some k->w.heap.size<=k))->wpList P ops Q a6 (a.put o.dst v') w':=by
  intro v' w' h1 h2 h3;obtain⟨sa,sc,rfl⟩:=qU h1;refine h sa sc w' h1 ?_ (by have:=h2.size;simp at this;omega) ?_
  ·exact⟨h2.os,h2.tape,h2.output,by have:=h2.size;simp at this;omega,fun k hk hne=>(h2.block k (by simp;omega) hne).trans (Below.heap_alloc w _ k hk)⟩
  rcases h3 with h3|⟨h3,h4⟩
  ·exact .inl h3
  exact .inr ⟨zG hA h3,h4⟩
 rcases a8.2 with ⟨rfl,rfl⟩|⟨g,cap,cur,rfl,hb,hg,hnc,hcm,hcs,htake⟩
 ·have hl:xs=[]:=List.eq_nil_of_length_eq_zero (by have:=a8.1;omega)
  subst hl;refine wpList_append_grows _ a5 s x t ho e i z 1 a9 E.ht hi hz h6 h9 E.hz (by decide) none 0 0 [] hs (fun _=>⟨rfl,rfl⟩) rfl (fun b hb=>by cases hb) ⟨w.heap.size,0,none⟩ 1 1 [u] hx rfl h0 h5 (by omega) a3 a7 ?_;intro v' w' h1 h2;exact fin v' w' (wV h1 (by simp;omega)) (xY h2) (.inr ⟨h2,fun k hk=>by have:=(h1.lt k hk).1;simp at this;omega⟩)
 by_cases hroom:n+1<=cap
 ·refine wpList_append_fits _ a5 s x t ho base e i 1 E.ht hi h6 g n cap xs hs (a8.alloc _) ⟨w.heap.size,0,none⟩ 1 1 [u] hx rfl h0 h5 hroom ?_
  intro w' h1 h2;exact fin _ w' h1 h2 (.inl rfl)
 refine wpList_append_grows _ a5 s x t ho e i z 1 a9 E.ht hi hz h6 h9 E.hz (by decide) (some ⟨g,0,none⟩) n cap xs hs (fun h=>by cases h) a8.1 (fun b hb j u' hj=>?_) ⟨w.heap.size,0,none⟩ 1 1 [u] hx rfl h0 h5 (by omega) a3 a7 ?_
 ·simp at hb
  subst hb
  have h8:j<xs.length:=by
   rcases Nat.lt_or_ge j xs.length with h|h
   ·exact h
   rw[List.getElem?_eq_none h]at hj;cases hj
  have:=(Arr.of_owns (a8.alloc (.cells #[u] e))).cell j h8;rw[List.getElem?_eq_getElem h8]at hj;have h7:(⟨g,0,none⟩:Addr).add j=⟨g,j,none⟩:=by unfold Addr.add;split<;>simp_all
  rw[h7,this];exact hj
 intro v' w' h1 h2;exact fin v' w' (wV h1 (by simp;omega)) (xY h2) (.inr ⟨h2,fun k hk=>by have:=(h1.lt k hk).1;simp at this;omega⟩)
def bls (bs:List Bool):List Value:=bs.map Value.bool
def nats (l:List Nat):List Value:=l.map fun(x:Nat)=>Value.int .i64 (x:Int)
theorem zX (bs:List Bool):(bls bs).length=bs.length:=by simp[bls]
theorem zT (l:List Nat):(nats l).length=l.length:=by simp[nats]
theorem Arr.bool {w:World}{g:Nat}{e:TypeId}{bs:List Bool}(h:Arr w g e (bls bs))(i:Nat)(hi:i<bs.length):w.cell? ⟨g,i,none⟩=some (.bool (bs.getD i false)):=by
 rw[h.cell i (by rw[zX];exact hi)];simp[bls,List.getD,List.getElem?_eq_getElem hi]
theorem Arr.int {w:World}{g:Nat}{e:TypeId}{zs:List Int}(h:Arr w g e (ints zs))(i:Nat)(hi:i<zs.length):w.cell? ⟨g,i,none⟩=some (.int .i64 (zs.getD i 0)):=by
 rw[h.cell i (by rw[zJ];exact hi)];simp[ints,List.getD,List.getElem?_eq_getElem hi]
theorem Arr.nat {w:World}{g:Nat}{e:TypeId}{l:List Nat}(h:Arr w g e (nats l))(i:Nat)(hi:i<l.length):w.cell? ⟨g,i,none⟩=some (.int .i64 ((l.getD i 0:Nat):Int)):=by
 rw[h.cell i (by rw[zT];exact hi)];simp[nats,List.getD,List.getElem?_eq_getElem hi]
theorem vQ.nat {w:World}{b off:Nat}{l:List Nat}(h:vQ w b off (nats l))(i:Nat)(hi:i<l.length):w.cell? ⟨b,off+i,none⟩=some (.int .i64 ((l.getD i 0:Nat):Int)):=by
 rw[vQ.map h i hi];simp[List.getD,List.getElem?_eq_getElem hi]
theorem Arr.bool_set {w:World}{g:Nat}{e:TypeId}{bs:List Bool}(h:Arr w g e (bls bs))(i:Nat)(hi:i<bs.length)(c:Bool):Arr (w.setCell ⟨g,i,none⟩ (.bool c)) g e (bls (bs.set i c)):=by
 have:=h.set i (by rw[zX];exact hi) (.bool c)
 rwa [bls,List.map_set]
theorem Arr.int_set {w:World}{g:Nat}{e:TypeId}{zs:List Int}(h:Arr w g e (ints zs))(i:Nat)(hi:i<zs.length)(c:Int):Arr (w.setCell ⟨g,i,none⟩ (.int .i64 c)) g e (ints (zs.set i c)):=by
 have:=h.set i (by rw[zJ];exact hi) (.int .i64 c)
 rwa [ints,List.map_set]
theorem Arr.nat_set {w:World}{g:Nat}{e:TypeId}{l:List Nat}(h:Arr w g e (nats l))(i:Nat)(hi:i<l.length)(c:Nat):Arr (w.setCell ⟨g,i,none⟩ (.int .i64 (c:Int))) g e (nats (l.set i c)):=by
 have:=h.set i (by rw[zT];exact hi) (.int .i64 (c:Int))
 rwa [nats,List.map_set]
theorem qQ (n:Nat)(c:Bool):bls (List.replicate n c)=List.replicate n (.bool c):=by simp[bls]
theorem yN (n:Nat):nats (List.replicate n 0)=List.replicate n (.int .i64 0):=by simp[nats]
theorem rY (n:Nat):ints (List.replicate n 0)=List.replicate n (.int .i64 0):=by simp[ints]
theorem eM (l m:List Nat):nats (l++m)=nats l++nats m:=by simp[nats]
theorem qF (l:List Nat)(x:Nat):nats (l++[x])=nats l++[.int .i64 (x:Int)]:=by simp[nats]
theorem sK (l:List Nat):nats l=ints (l.map fun(x:Nat)=>(x:Int)):=by simp[nats,ints]
theorem qRS {l:List Nat}{n i:Nat}(h:∀x∈l,x<n)(hi:i<l.length):l.getD i 0<n:=by
 simp only[List.getD,List.getElem?_eq_getElem hi];exact h _ (List.getElem_mem hi)
theorem qEM {α:Type}(l:List α)(i:Nat)(c d:α)(hi:i<l.length):(l.set i c).getD i d=c:=by simp[List.getD,hi]
theorem getD_set_ne {α:Type}(l:List α)(i j:Nat)(c d:α)(a9:i≠j):(l.set i c).getD j d=l.getD j d:=by simp[List.getD,List.getElem?_set_ne a9]
theorem yB {α:Type}{l:List α}{k:Nat}{d:α}(h:k<l.length):l.take (k+1)=l.take k++[l.getD k d]:=by
 rw[List.take_succ_eq_append_getElem h];simp[List.getD,List.getElem?_eq_getElem h]
theorem qB (w:World)(c1 c2:Array Value)(e:Nat):((w.alloc (.cells c1 e)).alloc (.cells c2 e)).heap[w.heap.size]?=some (.cells c1 e (0,0))/\((w.alloc (.cells c1 e)).alloc (.cells c2 e)).heap[w.heap.size+1]?=some (.cells c2 e (0,0))/\w.grownBy ((w.alloc (.cells c1 e)).alloc (.cells c2 e)) none/\((w.alloc (.cells c1 e)).alloc (.cells c2 e)).heap.size=w.heap.size+2:=by
 refine⟨zB (heap_alloc_new w _) (Ga _ _ none),?_,nX (Ga w _ none) _,by rw[zW,zW]⟩;have:=heap_alloc_new (w.alloc (.cells c1 e)) (.cells c2 e);rw[zW]at this;exact this
theorem qEE (n:Nat)(h:n<=4096):∀w:World,(Instr.makeSlice 26 (.int .i64 (n:Int)) (.int .i64 (n:Int))).run Tryz.prog w=.ok (.slice (some ⟨w.heap.size,0,none⟩) n n) (w.alloc (.cells (madeCells #[.bool false] n) 4)) :=
 fun w=>run_make_row' 26 4 (.bool false) 1 Tryz.underlying26 (by kernel_rfl) rfl .i64 .i64 n (by omega) (by omega) w
theorem qCR (n:Nat):(madeCells #[.bool false] n).toList=bls (List.replicate n false):=by
 have:=pE (z:=.bool false) rfl n;rw[Nat.mul_one]at this;rw[show bls (List.replicate n false)=List.replicate n (.bool false) by simp[bls]];exact this
theorem xJ {x:Int}(h:-9223372036854775808<=x/\x<=9223372036854775807):IntKind.i64.wrap x=x:=by
 unfold IntKind.wrap;simp[IntKind.bits,IntKind.signed];omega
structure CntV where
 idx:List Int
 per:List Int
 acc:List Bool
def vN (idx per:List Int):Nat->Option Nat
 | 0=>some 1
 | a+1=>match vN idx per a with
  | none=>none
  | some c=>if 2000<idx.getD a 0\/2000<per.getD a 0\/2000<c*(idx.getD a 0+per.getD a 0).toNat then none else some (c*(idx.getD a 0+per.getD a 0).toNat)
def kJ (idx per:List Int):Int:=match vN idx per idx.length with
 | some c=>c
 | none=>0
def jD (idx per:List Int):Bool:=(vN idx per idx.length).isSome
def PosC (idx per:List Int):Prop:=∀a,a<idx.length->0<=idx.getD a 0/\1<=per.getD a 0
theorem iX {idx per:List Int}{a c i p:Nat}(h:vN idx per a=some c)(hi:idx.getD a 0=(i:Int))(hp:per.getD a 0=(p:Int)):vN idx per (a+1)=if 2000<i\/2000<p\/2000<c*(i+p) then none else some (c*(i+p)):=by
 rw[vN,h];simp only[hi,hp];rw[show ((i:Int)+(p:Int)).toNat=i+p by omega];by_cases h1:2000<i\/2000<p\/2000<c*(i+p)
 ·rw[if_pos h1,if_pos (by omega)]
 rw[if_neg h1,if_neg (by omega)]
theorem iY {idx per:List Int}{a:Nat}(h:vN idx per a=none):∀b,vN idx per (a+b)=none
 | 0=>h
 | b+1=>by rw[Nat.add_succ,vN,iY h b]
theorem qP {idx per:List Int}:∀ {a c:Nat},vN idx per a=some c->c<=2000
 | 0,c,h=>by rw[vN]at h;have:=Oj h;omega
 | a+1,c,h=>by
  rw[vN]at h
  split at h
  ·cases h
  ·split at h
   ·cases h
   ·have:=Oj h;omega
theorem eX {idx per:List Int}{a:Nat}(h:vN idx per a=none)(ha:a<=idx.length):kJ idx per=0/\jD idx per=false:=by
 have:=iY h (idx.length-a);rw[show a+(idx.length-a)=idx.length by omega]at this;exact⟨by rw[kJ,this],by rw[jD,this];rfl⟩
theorem iH {idx per:List Int}{c:Nat}(h:vN idx per idx.length=some c):kJ idx per=c/\jD idx per=true :=
 ⟨by rw[kJ,h],by rw[jD,h];rfl⟩
def posB (idx per:List Int):Bool:=(List.range idx.length).all fun a=>decide (0<=idx.getD a 0/\1<=per.getD a 0)
theorem fL {idx per:List Int}:posB idx per=true↔PosC idx per:=by
 rw[posB,List.all_eq_true];exact⟨fun h a ha=>of_decide_eq_true (h a (List.mem_range.2 ha)),fun h a ha=>decide_eq_true (h a (List.mem_range.1 ha))⟩
def cntE (c:CntV):Int:=if c.idx.length<1\/6<c.idx.length then 1 else if c.per.length≠c.idx.length then 22 else if posB c.idx c.per=false then 22 else if jD c.idx c.per=false then 3 else if (c.acc.length:Int)≠kJ c.idx c.per then 22 else 0
structure CntOk (c:CntV):Prop where
 k1:1<=c.idx.length
 k6:c.idx.length<=6
 pl:c.per.length=c.idx.length
 pos:PosC c.idx c.per
 size:vN c.idx c.per c.idx.length=some c.acc.length
theorem gU {c:CntV}:cntE c=0↔CntOk c:=by
 unfold cntE;constructor
 ·intro h
  split at h
  ·cases h
  split at h
  ·cases h
  split at h
  ·cases h
  rename_i h1 h2 h3
  split at h
  ·cases h
  split at h
  ·cases h
  rename_i h4 h5
  refine⟨by omega,by omega,by omega,fL.1 (by simpa using h3),?_⟩;have h5:(c.acc.length:Int)=kJ c.idx c.per:=by simpa using h5
  unfold jD at h4;unfold kJ at h5;rcases hc:vN c.idx c.per c.idx.length with _|x
  ·rw[hc]at h4;simp at h4
  rw[hc]at h5;simp only at h5;congr 1;omega
 intro h;have h4:=iH h.size;rw[if_neg (by have:=h.k1;have:=h.k6;omega),if_neg (by have:=h.pl;omega),if_neg (by rw[fL.2 h.pos];simp),if_neg (by rw[h4.2];simp),if_neg (by rw[h4.1];simp)]
def rV (B:Nat)(w:World)(v:Value)(c:CntV):Prop:=∃vi vp va,v=.agg #[vi,vp,va]/\Row B w vi (ints c.idx)/\Row B w vp (ints c.per)/\Row B w va (bls c.acc)
theorem rV.kept {B:Nat}{w w':World}{v:Value}{c:CntV}(h:rV B w v c)(hg:w.grownBy w' none):rV B w' v c:=by
 obtain⟨vi,vp,va,rfl,h1,h2,h3⟩:=h;exact⟨vi,vp,va,rfl,h1.kept hg (by simp),h2.kept hg (by simp),h3.kept hg (by simp)⟩
theorem xW {w:World}{p e:Nat}{x0 x1 x2:Value}{m:Nat×Nat}(h:w.heap[p]?=some (.cells #[x0,x1,x2] e m)):w.cell? ⟨p,0,none⟩=some x0/\w.cell? ⟨p,1,none⟩=some x1/\w.cell? ⟨p,2,none⟩=some x2:=by
 have c0:=zH h 0;have c1:=zH h 1;have c2:=zH h 2;exact⟨by simpa using c0,by simpa using c1,by simpa using c2⟩
theorem vQ.boolQ {w:World}{b off:Nat}{bs:List Bool}(h:vQ w b off (bls bs))(i:Nat)(hi:i<bs.length):w.cell? ⟨b,off+i,none⟩=some (.bool (bs.getD i false)):=by
 rw[h.map (f:=Value.bool) i hi,List.getD_eq_getElem?_getD,List.getElem?_eq_getElem hi];rfl
theorem nQ {c r:Nat}(h1:c<=2000)(h2:r<=4000):IntKind.i64.wrap ((c:Int)*(r:Int))=((c*r:Nat):Int)/\wrap64 ((c:Int)*(r:Int))=((c*r:Nat):Int)/\c*r<=8000000:=by
 have h3:=Nat.mul_le_mul h1 h2;have e:(c:Int)*(r:Int)=((c*r:Nat):Int):=by simp
 rw[e];exact⟨xJ (by omega),IntWalk.wrap64_in _ (by omega),by omega⟩
theorem zK {w w':World}{p:Addr}{u:Value}(h:w.cell? p=some u)(hg:w.grownBy w' none):w'.cell? p=some u:=(World.cell?_of_block (hg.block p.block (World.block_lt_of_cell? w p h) (by simp))).trans h
theorem qFJ (a b:List Int):strOfNums a++strOfNums b=strOfNums (a++b):=by
 apply ByteArray.ext;simp[strOfNums]
theorem qGA (B:Nat)(w:World)(vi vp va:Value)(idx per:List Int)(hi:Row B w vi (ints idx))(hp:Row B w vp (ints per))(hl:per.length=idx.length)(a8:PosC idx per)(a7:1<=idx.length):Calls Tryz.prog 38 #[.agg #[vi,vp,va]] w fun e w'=>e=.returned (.tuple #[.int .i64 (kJ idx per),.bool (jD idx per)])/\w.grownBy w' none:=by
 obtain⟨ib,io,ic,rfl,_,i1,i2,ir⟩:=hi.some_ (by rw[zJ];omega);obtain⟨pb,po,pc,rfl,_,p1,p2,pr⟩:=hp.some_ (by rw[zJ];omega);rw[zJ]at i1 p1⊢;rw[zJ,hl];rw[hl]at p1;unfold maxLen at i2 p2;obtain⟨n,hn⟩:=Nm idx.length;rw[<-hn]at i1 p1⊢;obtain⟨w1,h4⟩:=Nm (w.alloc (.cells #[.slice (some ⟨ib,io,none⟩) n ic,.slice (some ⟨pb,po,none⟩) n pc,va] 35));have h7:w.grownBy w1 none:=by rw[h4];exact Ga w _ none
 have H0:=heap_alloc_new w (.cells #[.slice (some ⟨ib,io,none⟩) n ic,.slice (some ⟨pb,po,none⟩) n pc,va] 35);obtain⟨P,hP⟩:=Nm w.heap.size;rw[<-h4,<-hP]at H0;obtain⟨q0,q1,q2⟩:=xW H0
 have a6:Hid (∀a,a<n->∃i p:Nat,w1.cell? ⟨ib,io+a,none⟩=some (.int .i64 (i:Int))/\w1.cell? ⟨pb,po+a,none⟩=some (.int .i64 (p:Int))/\idx.getD a 0=(i:Int)/\per.getD a 0=(p:Int)):=Kh (fun a ha=>by
  have h1:=a8 a (by omega);have h2:=zK (ir.int a (by omega)) h7;have h3:=zK (pr.int a (by omega)) h7;obtain⟨i,ei⟩:∃i:Nat,idx.getD a 0=(i:Int):=⟨(idx.getD a 0).toNat,by omega⟩;obtain⟨p,ep⟩:∃p:Nat,per.getD a 0=(p:Int):=⟨(per.getD a 0).toNat,by omega⟩;rw[ei]at h2;rw[ep]at h3
  exact⟨i,p,h2,h3,ei,ep⟩)
 obtain⟨h9,H9,a3,HN⟩:=K4 h7 h4 hP hn;obtain⟨rn,h5⟩:=Nm (kJ idx per);obtain⟨rb,h6⟩:=Nm (jD idx per);rw[<-h5,<-h6];have a1:=Kh h5;have a2:=Kh h6
 have H2:Hid (∀a,a<=n->vN idx per a=none->rn=0/\rb=false):=Kh (fun a ha h=>by
  obtain⟨h1,h2⟩:=eX h (by omega)
  exact⟨by rw[h5,h1],by rw[h6,h2]⟩)
 clear hi hp hl a8 ir pr hn h4 h7 H0 hP q2 h5 h6;go_enter Tryz.func38,Tryz.ntmps38;go_upto_region 1 with fail;rw[<-H9.out,<-a3.out];go_wp2
 go_loopg [4,5,9] n (fun gh a4 a5 a9 wr=>∃a c q:Nat,gh+a=n/\a9=.int .i64 a/\a4=.int .i64 (c:Int)/\vN idx per a=some c/\wr=w1.drewN q)
 case atStart=>exact⟨0,1,0,rfl,rfl,rfl,rfl,rfl⟩
 obtain⟨a,c,q,H5,rfl,rfl,hc,rfl⟩:=hrel;have H3:=Kh H5;have HC:=Kh hc;have H6:=qP hc;clear H5 hc;by_cases ha:a<n
 ·have H7:(a:Int)<n:=by omega
  obtain⟨i,p,ci,cp,ei,ep⟩:=a6.out a ha;have h8:=Kh (iX HC.out ei ep);clear ei ep;by_cases h1:2000<(i:Int)
  ·have HF:=Kh (H2.out (a+1) (by omega) (by rw[h8.out,if_pos (by omega)]))
   go_wp2;refine bodyPost_ret (v:=.tuple #[.int .i64 0,.bool false]) (by simp[results,Tryz.results38,go_sem]) rfl ?_;exact⟨by rw[HF.out.1,HF.out.2],zC h9.out (zQ w1 _ none)⟩
  by_cases h2:2000<(p:Int)
  ·have HF:=Kh (H2.out (a+1) (by omega) (by rw[h8.out,if_pos (by omega)]))
   go_wp2;refine bodyPost_ret (v:=.tuple #[.int .i64 0,.bool false]) (by simp[results,Tryz.results38,go_sem]) rfl ?_;exact⟨by rw[HF.out.1,HF.out.2],zC h9.out (zQ w1 _ none)⟩
  obtain⟨r,hr⟩:=Nm (i+p);have e0:(i:Int)+(p:Int)=(r:Int):=by omega
  have H4:r<=4000:=by omega
  obtain⟨m,hm⟩:=Nm (c*r);have b0:m<=8000000:=by rw[hm];exact(nQ H6 H4).2.2
  have h0:Hid (vN idx per (a+1)=if 2000<m then none else some m):=Kh (by
   rw[h8.out,<-hr,<-hm];by_cases h:2000<m
   ·rw[if_pos h,if_pos (.inr (.inr h))]
   rw[if_neg h,if_neg (by omega)])
  have H1:=Kh (H2.out (a+1) (by omega));have e1:IntKind.i64.wrap ((i:Int)+(p:Int))=(r:Int):=by rw[e0];exact xJ (by omega)
  have e34:=nQ H6 H4;rw[<-hm]at e34;have e3:=e34.1;clear e34 hm hr h8 e0;by_cases h3:2000<m
  ·have HF:=Kh (H1.out (by rw[h0.out,if_pos h3]))
   have H8:2000<(m:Int):=(by clear e1 e3;omega);go_wp2
   go_quiet (fail)
   go_wp2;refine bodyPost_ret (v:=.tuple #[.int .i64 0,.bool false]) (by simp[results,Tryz.results38,go_sem]) rfl ?_;exact⟨by rw[HF.out.1,HF.out.2],zC h9.out (by first|exact zQ w1 _ none|exact zC (zQ w1 _ none) (zQ _ _ none))⟩
  have a0:Hid (vN idx per (a+1)=some m):=Kh (by rw[h0.out,if_neg h3]);have H8:¬2000<(m:Int):=(by clear e1 e3;omega);clear h0;go_wp2
  go_quiet (fail)
  clear e1 e3;go_wp2;go_roundg (n-(a+1))
  case measure=>have:=H3.out;omega
  exact⟨a+1,m,_,by have:=H3.out;omega,by go_num,rfl,a0.out,by first|rfl|exact World.drewN_drewN _ _ _⟩
 have H7:¬(a:Int)<n:=by omega
 have HE:Hid (rn=c/\rb=true):=Kh (by
  have:=HC.out;rw[show a=idx.length by have:=H3.out;have:=HN.out;omega]at this;obtain⟨h1,h2⟩:=iH this
  exact⟨by rw[a1.out,h1],by rw[a2.out,h2]⟩)
 go_wp2;refine bodyPost_ret (v:=.tuple #[.int .i64 (c:Int),.bool true]) (by simp[results,Tryz.results38,go_sem]) rfl ?_;exact⟨by rw[HE.out.1,HE.out.2],zC h9.out (zQ w1 _ none)⟩
def qPX (idx per:List Int)(a:Nat):Prop:=∀x,x<a->0<=idx.getD x 0/\1<=per.getD x 0
theorem qQK {c:CntV}(h:c.idx.length<1\/6<c.idx.length):cntE c=1:=by rw[cntE,if_pos h]
theorem qQJ {c:CntV}(h:¬(c.idx.length<1\/6<c.idx.length))(h2:c.per.length≠c.idx.length):cntE c=22:=by rw[cntE,if_neg h,if_pos h2]
theorem qQI {c:CntV}(h:¬(c.idx.length<1\/6<c.idx.length))(h2:c.per.length=c.idx.length)(h3:¬PosC c.idx c.per):cntE c=22:=by
 rw[cntE,if_neg h,if_neg (by omega),if_pos];rw[<-Bool.not_eq_true,fL];exact h3
theorem qQH {c:CntV}(h:¬(c.idx.length<1\/6<c.idx.length))(h2:c.per.length=c.idx.length)(h3:PosC c.idx c.per):cntE c=if jD c.idx c.per=false then 3 else if (c.acc.length:Int)≠kJ c.idx c.per then 22 else 0:=by
 rw[cntE,if_neg h,if_neg (by omega),if_neg (by rw[fL.2 h3];simp)]
theorem kE (B:Nat)(w:World)(v:Value)(c:CntV)(h:rV B w v c):Calls Tryz.prog 19 #[v] w fun e w'=>e=.returned (.int .i64 (cntE c))/\w.grownBy w' none:=by
 obtain⟨vi,vp,va,rfl,hi,hp,ha⟩:=h;obtain⟨iA,iC,rfl⟩:=hi.shape;obtain⟨pA,pC,rfl⟩:=hp.shape;obtain⟨aA,aC,rfl⟩:=ha.shape;obtain⟨n,hn⟩:=Nm ((ints c.idx).length);obtain⟨pn,h0⟩:=Nm ((ints c.per).length);obtain⟨an,H0⟩:=Nm ((bls c.acc).length);rw[<-hn]at hi;rw[<-h0]at hp;rw[<-hn,<-h0,<-H0];rw[zJ]at hn h0;rw[zX]at H0;obtain⟨w1,h7⟩:=Nm (w.alloc (.cells #[.slice iA n iC,.slice pA pn pC,.slice aA an aC] 35));have h8:w.grownBy w1 none:=by rw[h7];exact Ga w _ none
 have h9:=heap_alloc_new w (.cells #[.slice iA n iC,.slice pA pn pC,.slice aA an aC] 35);obtain⟨P,hP⟩:=Nm w.heap.size;rw[<-h7,<-hP]at h9;obtain⟨q0,q1,q2⟩:=xW h9;obtain⟨E,hE⟩:=Nm (cntE c);rw[<-hE];have H7:Hid (n<1\/6<n->E=1):=Kh (fun h=>by rw[hE];exact qQK (by rw[<-hn];exact h));have a9:Hid (¬(n<1\/6<n)->pn≠n->E=22):=Kh (fun h h2=>by rw[hE];exact qQJ (by rw[<-hn];exact h) (by rw[<-hn,<-h0];exact h2));have a8:Hid (¬(n<1\/6<n)->pn=n->¬PosC c.idx c.per->E=22):=Kh (fun h h2 h3=>by rw[hE];exact qQI (by rw[<-hn];exact h) (by rw[<-hn,<-h0];exact h2) h3);have a7:Hid (¬(n<1\/6<n)->pn=n->PosC c.idx c.per->E=if jD c.idx c.per=false then 3 else if (an:Int)≠kJ c.idx c.per then 22 else 0):=Kh (fun h h2 h3=>by rw[hE,H0];exact qQH (by rw[<-hn];exact h) (by rw[<-hn,<-h0];exact h2) h3);have HI:=Kh (hi.kept h8 (by simp));have HP:=Kh (hp.kept h8 (by simp));obtain⟨h4,b6,b4,b5,HN,H1⟩:=K6 h8 h9 h7 hP hn h0;clear hi hp ha hn h0 H0 h8 h9 h7 hP hE;go_enter Tryz.func19,Tryz.ntmps19;go_upto_region 1 with fail;rw[<-b4.out,<-b5.out];by_cases h1:(n:Int)<1
 ·go_wp2
  go_ret;exact⟨yX (H7.out (by omega)).symm,h4.out⟩
 by_cases h2:6<(n:Int)
 ·go_wp2
  go_ret;exact⟨yX (H7.out (by omega)).symm,h4.out⟩
 by_cases h3:pn=n
 case neg =>
  have e3:((pn:Int) != (n:Int))=true:=by rw[bne_iff_ne];omega
  go_wp2;go_ret;exact⟨yX (a9.out (by omega) h3).symm,h4.out⟩
 have e3:((pn:Int) != (n:Int))=false:=by rw[bne_eq_false_iff_eq];omega
 have h6:=Kh (a8.out (by omega) h3);have H6:=Kh (a7.out (by omega) h3);clear H7 a9 a8 a7;subst h3;obtain⟨ib,io,ic,ei,_,i1,i2,ir⟩:=HI.out.some_ (by rw[zJ];have:=HN.out;omega);obtain⟨pb,po,pc,ep,_,p1,p2,pr⟩:=HP.out.some_ (by rw[zJ];have:=H1.out;omega);simp only[Value.slice.injEq]at ei ep;obtain⟨rfl,b1,rfl⟩:=ei;obtain⟨rfl,b0,rfl⟩:=ep;rw[zJ,<-HN.out]at i1;rw[zJ,<-H1.out]at p1;unfold maxLen at i2 p2;have IR:=Kh ir;have PR:=Kh pr;clear ir pr b1 b0;go_wp2
 go_loopg [3,26] pn (fun gh a3 a26 wr=>∃a:Nat,gh+a=pn/\a26=.int .i64 a/\qPX c.idx c.per a/\wr=w1)
 case atStart=>exact⟨0,rfl,rfl,fun x hx=>by omega,rfl⟩
 obtain⟨a,a2,rfl,a1,rfl⟩:=hrel;have H4:=Kh a2;have a4:=Kh a1;clear a2 a1;by_cases ha:a<pn
 ·have b2:(a:Int)<pn:=by omega
  have c1:=IR.out.int a (by rw[<-HN.out];exact ha);have c2:=PR.out.int a (by rw[<-H1.out];exact ha);obtain⟨x,hx⟩:=Nm (c.idx.getD a 0);obtain⟨y,hy⟩:=Nm (c.per.getD a 0);rw[<-hx]at c1;rw[<-hy]at c2;have a6:Hid (x<0\/y<1->¬PosC c.idx c.per):=Kh (fun h hp=>by have:=hp a (by rw[<-HN.out];exact ha);omega)
  have b3:Hid (0<=x->1<=y->qPX c.idx c.per (a+1)):=Kh (fun h1 h2 z hz=>by
   rcases Nat.lt_or_ge z a with h|h
   ·exact a4.out z h
   have:z=a:=by omega
   subst this;rw[<-hx,<-hy];exact⟨h1,h2⟩)
  clear hx hy;by_cases hx0:x<0
  ·go_wp2
   go_ret;exact⟨yX (h6.out (a6.out (.inl hx0))).symm,h4.out⟩
  by_cases hy1:y<1
  ·go_wp2
   go_ret;exact⟨yX (h6.out (a6.out (.inr hy1))).symm,h4.out⟩
  go_wp2;go_roundg (pn-(a+1))
  case measure=>have:=H4.out;omega
  exact⟨a+1,by have:=H4.out;omega,by go_num,b3.out (by omega) (by omega),rfl⟩
 have b2:¬(a:Int)<pn:=by omega
 have a5:Hid (PosC c.idx c.per):=Kh (fun z hz=>a4.out z (by have:=H4.out;have:=HN.out;omega));have H8:=Kh (qGA B wr _ _ (.slice aA an aC) c.idx c.per HI.out HP.out (by rw[<-HN.out,<-H1.out]) a5.out (by have:=HN.out;omega));have H2:=Kh (H6.out a5.out);obtain⟨rn,H9⟩:=Nm (kJ c.idx c.per);obtain⟨rb,a0⟩:=Nm (jD c.idx c.per);rw[<-H9,<-a0]at H8 H2;clear H9 a0;go_wp2_with fail;refine H8.out.mono ?_;rintro e w2 ⟨rfl,H3⟩;obtain⟨q0,q1,q2⟩:=xW (zB b6.out H3);have H5:=Kh (zC h4.out H3);clear H3 H8;cases rb with
 | false =>
  go_wp2;go_ret;exact⟨yX (by rw[H2.out];simp),H5.out⟩
 | true =>
  by_cases h5:(an:Int)=rn
  ·have e5:((an:Int) != rn)=false:=by rw[bne_eq_false_iff_eq];exact h5
   have HZ:Hid (E=0):=Kh (by rw[H2.out,if_neg (by simp),if_neg (by simpa using h5)]);clear h5;go_wp2;go_ret;exact⟨yX HZ.out.symm,H5.out⟩
  have e5:((an:Int) != rn)=true:=by rw[bne_iff_ne];exact h5
  have HZ:Hid (E=22):=Kh (by rw[H2.out,if_neg (by simp),if_pos h5]);clear h5;go_wp2;go_ret;exact⟨yX HZ.out.symm,H5.out⟩
theorem iO {P:Program}{w:World}(base:Nat)(t ty e:TypeId)(i:TypeInfo)(size:Nat)(ht:P.underlying t=some (.slice e))(hi:P.info? e=some i)(v:Value)(n:Nat)(xs:List Value)(a9:w.ownsRow base e size v n xs)(c:Nat):(Builtin.append_ #[t,t] ty #[v,.slice none 0 c]).run P w=.ok v w:=by
 rcases a9.2 with ⟨rfl,rfl⟩|⟨g,cap,cur,rfl,_,_,hnc,_⟩
 ·simp[Builtin.append_,run_underlying ht,sizeOf,typeInfo,hi,Builtin.lenOf,Builtin.firstCells]
 simp[Builtin.append_,run_underlying ht,sizeOf,typeInfo,hi,Builtin.lenOf,Builtin.firstCells,hnc,storeCells]
theorem gM {w:World}{base e size n:Nat}{v:Value}{xs:List Value}(h:w.ownsRow base e size v n xs):∃sa sc,v=.slice sa n sc:=by
 rcases h.2 with ⟨rfl,rfl⟩|⟨g,cap,cur,rfl,_⟩
 ·exact⟨none,0,rfl⟩
 exact⟨_,_,rfl⟩
theorem qQR {P:Program}{w:World}{o:Oper}{a:Act}{K:Act->World->Prop}{Q:Exit->Act->World->Prop}(s x:Operand)(t:TypeId)(ho:o.op=.call { callee:=.builtin .append,args:=#[s,x],argTypes:=#[t,t] }){e:TypeId}{z:Value}{a8:Nat}(E:ElemOk P t e z a8)(base:Nat)(v:Value)(n:Nat)(xs:List Value)(hs:a.eval s=v)(a6:w.ownsRow base e 1 v n xs)(sv:Value)(a9:List Value)(hx:a.eval x=sv)(a4:∃B,Row B w sv a9)(h1:∀u∈a9,u.oneCell'=true)(N:Nat)(hN:n+a9.length=N)(a3:N<=maxLen)(a7:N*a8<=140737488355328)(a5:base<=w.heap.size)(h:∀sa sc w',w'.ownsRow base e 1 (.slice sa N sc) N (xs++a9)->w.grownBy w' v.ownBlock->K (a.put o.dst (.slice sa N sc)) w'):o.wp P a w K Q:=by
 obtain⟨i,hi,hz,h4,h6⟩:=info_parts E.hi;subst hN
 have fin:∀v' w',w'.ownsRow base e 1 v' (n+a9.length) (xs++a9)->w.grownBy w' v.ownBlock->K (a.put o.dst v') w':=by
  intro v' w' h1 h2;obtain⟨sa,sc,rfl⟩:=gM h1;exact h sa sc w' h1 h2
 obtain⟨B,a4⟩:=a4;rcases a4 with ⟨a',cap,rfl,rfl⟩|⟨b,off,cap,rfl,_,h2,h3,hra⟩
 ·cases a' with
  | none =>
   have hr:=iO (P:=P) (w:=w) base t o.type e i 1 E.ht hi v n xs a6 cap;unfold Oper.wp execOp;simp only[ho,resolve,invoke,builtin,Sem.run_bind,Sem.run_pure,Result.andThen_ok,List.map_toArray,List.map_cons,List.map_nil,hs,hx,hr];exact fin v w (by simpa using a6) (World.grownBy.refl w _)
  | some ad =>
   refine wp_append_own w s x t ho base e i z 1 a8 E.ht hi hz h4 h6 E.hz (by decide) v n xs hs a6 ad 0 cap [] hx rfl (fun j u hj=>by simp at hj) (fun u hu=>by simp at hu) a3 a7 a5 ?_;intro v' w' h1 h2 _;exact fin v' w' h1 h2
 refine wp_append_own w s x t ho base e i z 1 a8 E.ht hi hz h4 h6 E.hz (by decide) v n xs hs a6 ⟨b,off,none⟩ a9.length cap a9 hx (by simp) (fun j u' hj=>?_) h1 a3 a7 a5 ?_
 ·have h5:j<a9.length:=by
   rcases Nat.lt_or_ge j a9.length with h|h
   ·exact h
   ·rw[List.getElem?_eq_none h]at hj;cases hj
  have h0:(⟨b,off,none⟩:Addr).add j=⟨b,off+j,none⟩:=by unfold Addr.add;split<;>simp_all
  rw[List.getElem?_eq_getElem h5]at hj;rw[h0,hra.2 j h5,hj]
 intro v' w' h1 h2 _;exact fin v' w' h1 h2
theorem appR {P:Program}{w:World}{ops:Array Oper}{a6:List Oper}{o:Oper}{a:Act}{Q:Exit->Act->World->Prop}(a2:o.guard=none)(s x:Operand)(t:TypeId)(ho:o.op=.call { callee:=.builtin .append,args:=#[s,x],argTypes:=#[t,t] }){e:TypeId}{z:Value}{a8:Nat}(E:ElemOk P t e z a8)(base:Nat)(v:Value)(n:Nat)(xs:List Value)(hs:a.eval s=v)(a3:w.ownsRow base e 1 v n xs)(sv:Value)(a9:List Value)(hx:a.eval x=sv)(a4:∃B,Row B w sv a9)(h1:∀u∈a9,u.oneCell'=true)(N:Nat)(hN:n+a9.length=N)(a1:N<=maxLen)(a7:N*a8<=140737488355328)(a5:base<=w.heap.size)(h:∀sa sc w',w'.ownsRow base e 1 (.slice sa N sc) N (xs++a9)->w.grownBy w' v.ownBlock->wpList P ops Q a6 (a.put o.dst (.slice sa N sc)) w'):wpList P ops Q (o::a6) a w :=
 wpList_plain a2 fun _ hK=>qQR s x t ho E base v n xs hs a3 sv a9 hx a4 h1 N hN a1 a7 a5 fun sa sc w' h2 h3=>hK _ _ (h sa sc w' h2 h3)
theorem qBZ {W:World}{e base g:Nat}(h:W.heap[g]?=some (.cells #[] e (0,0)))(hb:base<=g):W.ownsRow base e 1 (.slice (some ⟨g,0,none⟩) 0 0) 0 [] :=
 ⟨by simp,.inr ⟨g,0,#[],rfl,hb,h,Nat.le_refl _,Nat.zero_le _,by simp,by simp⟩⟩
theorem bM (w:World)(o o':Obj):((w.alloc o).alloc o').heap[w.heap.size]?=some o:=zB (heap_alloc_new w o) (Ga _ _ none)
theorem bF (w:World)(o o':Obj):((w.alloc o).alloc o').heap[w.heap.size+1]?=some o':=by
 have:=heap_alloc_new (w.alloc o) o'
 rwa [zW]at this
theorem vQ.take {w:World}{b off:Nat}{xs:List Value}(h:vQ w b off xs)(k:Nat):vQ w b off (xs.take k) :=
 ⟨h.1,fun i hi=>by rw[List.length_take]at hi;rw[h.2 i (by omega),List.getElem_take]⟩
theorem vQ.drop {w:World}{b off:Nat}{xs:List Value}(h:vQ w b off xs)(k:Nat):vQ w b (off+k) (xs.drop k) :=
 ⟨h.1,fun i hi=>by rw[List.length_drop]at hi;rw[Nat.add_assoc,h.2 (k+i) (by omega),List.getElem_drop]⟩
theorem qNQ (l:List Nat):∀u∈nats l,u.oneCell'=true:=by
 intro u hu;obtain⟨x,_,rfl⟩:=List.mem_map.1 hu;rfl
def RowT (B:Nat)(e:TypeId)(w:World)(v:Value)(xs:List Value):Prop :=
 (v=.slice none 0 0/\xs=[])\/∃b off cap cur m,v=.slice (some ⟨b,off,none⟩) xs.length cap/\b<B/\xs.length<=cap/\cap<=maxLen/\w.heap[b]?=some (.cells cur e m)/\∀i (h:i<xs.length),cur[off+i]?=some xs[i]
theorem RowT.row {B:Nat}{e:TypeId}{w:World}{v:Value}{xs:List Value}(h:RowT B e w v xs):Row B w v xs:=by
 rcases h with h|⟨b,off,cap,cur,m,h1,h2,h3,h4,h5,h6⟩
 ·exact .inl ⟨_,_,h⟩
 exact .inr ⟨b,off,cap,h1,h2,h3,h4,zR h5,fun i hi=>by rw[cell_of_row w b (off+i) _ _ _ h5];exact h6 i hi⟩
theorem RowT.mono {B B':Nat}{e:TypeId}{w:World}{v:Value}{xs:List Value}(h:RowT B e w v xs)(hB:B<=B'):RowT B' e w v xs:=by
 rcases h with h|⟨b,off,cap,cur,m,h1,h2,h3⟩
 ·exact .inl h
 exact .inr ⟨b,off,cap,cur,m,h1,by omega,h3⟩
def xG (w:World)(e:TypeId)(k:Nat):Prop:=∃cur e' m,w.heap[k]?=some (.cells cur e' m)/\e'≠e
theorem RowT.kept {B:Nat}{e:TypeId}{w w':World}{v:Value}{xs:List Value}{row:Option Nat}(h:RowT B e w v xs)(hg:w.grownBy w' row)(hr:∀k,row=some k->B<=k\/xG w e k):RowT B e w' v xs:=by
 rcases h with h|⟨b,off,cap,cur,m,h1,h2,h3,h4,h5,h6⟩
 ·exact .inl h
 refine .inr ⟨b,off,cap,cur,m,h1,h2,h3,h4,zB h5 hg (fun eq=>?_),h6⟩;rcases hr b eq with hk|⟨cur',e',m',hk,hne⟩
 ·omega
 rw[h5]at hk;simp at hk;exact hne hk.2.1.symm
theorem RowT.of_heap {B:Nat}{e:TypeId}{w w':World}{v:Value}{xs:List Value}(h:RowT B e w v xs)(he:w'.heap=w.heap):RowT B e w' v xs:=by
 rcases h with h|⟨b,off,cap,cur,m,h1,h2,h3,h4,h5,h6⟩
 ·exact .inl h
 exact .inr ⟨b,off,cap,cur,m,h1,h2,h3,h4,by rw[he];exact h5,h6⟩
theorem RowT.of_owns {w:World}{base e:Nat}{v:Value}{n:Nat}{xs:List Value}(h:w.ownsRow base e 1 v n xs):RowT w.heap.size e w v xs:=by
 have hl:xs.length=n:=by have:=h.1;omega
 rcases h.2 with ⟨rfl,rfl⟩|⟨g,cap,cur,rfl,hb,hg,hnc,hcm,hcs,htake⟩
 ·exact .inl ⟨rfl,List.eq_nil_of_length_eq_zero hl⟩
 refine .inr ⟨g,0,cap,cur,(0,0),by rw[hl],zR hg,by omega,hcm,hg,fun i hi=>?_⟩;have:=h.cellAt i (by omega);rw[cell_of_row w g i _ _ _ hg]at this;rw[Nat.zero_add,this,List.getElem?_eq_getElem hi]
theorem vV {w:World}{base e e' size:Nat}{v:Value}{n:Nat}{xs:List Value}(h:w.ownsRow base e size v n xs)(a9:e≠e'):∀k,v.ownBlock=some k->xG w e' k:=by
 intro k hk;rcases h.2 with ⟨rfl,_⟩|⟨g,cap,cur,rfl,_,hg,_⟩
 ·simp[Value.ownBlock]at hk
 simp[Value.ownBlock]at hk;subst hk;exact⟨cur,e,(0,0),hg,a9⟩
def tP {α:Type}(B:Nat)(e:TypeId)(f:α->List Value)(w:World)(svs:List Value)(ps:List α):Prop :=
 svs.length=ps.length/\∀i (h:i<svs.length) (h':i<ps.length),RowT B e w svs[i] (f ps[i])
section
variable {α:Type} {B:Nat} {e:TypeId} {f:α->List Value} {w:World} {svs:List Value} {ps:List α}
theorem tP.nil:tP B e f w [] []:=⟨rfl,fun i h=>by simp at h⟩
theorem tP.kept {w':World}{row:Option Nat}(h:tP B e f w svs ps)(hg:w.grownBy w' row)(hr:∀k,row=some k->B<=k\/xG w e k):tP B e f w' svs ps :=
 ⟨h.1,fun i h1 h2=>(h.2 i h1 h2).kept hg hr⟩
theorem tP.mono {B':Nat}(h:tP B e f w svs ps)(hB:B<=B'):tP B' e f w svs ps:=⟨h.1,fun i h1 h2=>(h.2 i h1 h2).mono hB⟩
theorem tP.snoc {sv:Value}{p:α}(h:tP B e f w svs ps)(hs:RowT B e w sv (f p)):tP B e f w (svs++[sv]) (ps++[p]):=by
 refine⟨by simp[h.1],fun i h1 h2=>?_⟩;by_cases hi:i<svs.length
 ·rw[List.getElem_append_left hi,List.getElem_append_left (by rw[<-h.1];exact hi)]
  exact h.2 i hi _
 have:i=svs.length:=by simp at h1;omega
 subst this;rw[List.getElem_append_right (Nat.le_refl _),List.getElem_append_right (by rw[h.1];exact Nat.le_refl _)];simpa [h.1] using hs
end
theorem eD {P:Program}{W:World}{g:Nat}{c:Int}(src e:TypeId)(hs:P.underlying src=some (.slice e))(he:P.underlying e=some (.int .u8))(a9:TypeId)(hd:P.underlying a9=some .string)(h:W.cell? ⟨g,0,none⟩=some (.int .u8 c)):(convert src a9 (.slice (some ⟨g,0,none⟩) 1 1)).run P W=.ok (.string (strOfNums [c])) W:=by
 refine run_convert_bytes_arg W src e hs he g 0 1 1 [c] rfl (fun i hi=>?_) a9 hd;have:i=0:=by simp at hi;omega
 subst this;simpa using h
section
variable {P:Program} {md:Region.Mode} {ops:Array Oper} {Q:Exit->Act->World->Prop}
def tG (P:Program)(md:Region.Mode)(ops:Array Oper)(Q:Exit->Act->World->Prop)(G:Array Bool->World->Prop):Nat->Array Bool->Act->World->Prop
 | 0,listed,a,w=>Region.ready md ops listed=[]/\Q .normal a w
 | fuel+1,listed,a,w =>
  (Region.ready md ops listed=[]->Q .normal a w) /\
  ∀i∈Region.ready md ops listed,wpOp P ops Q i (fun a' w'=>G (listed.setIfInBounds i true) w'/\tG P md ops Q G fuel (listed.setIfInBounds i true) a' w') a w
variable {G:Array Bool->World->Prop}
theorem dP:∀(fuel:Nat) (listed:Array Bool) (a:Act) (w:World),tG P md ops Q G fuel listed a w->wpAny P md ops Q fuel listed a w
 | 0,_,_,_,h=>h
 | fuel+1,_,_,_,h=>⟨h.1,fun i hi=>wpOp_mono (fun a' w' h'=>dP fuel _ a' w' h'.2) (h.2 i hi)⟩
theorem gG {S:World->Prop}{U:Array Bool->Prop}{i:Nat}{oi:Oper}{v:Value}(hi:ops[i]?=some oi)(a9:∀(j:Nat) (o:Oper) cs b,ops[j]?=some o->o.op≠.select cs b)(hQ:∀c a w,Q (.panic c) (a.put oi.dst v) w->Q (.panic c) a w)(hU:∀listed j,U listed->i∈Region.ready md ops listed->j∈Region.ready md ops listed->j≠i->U (listed.setIfInBounds j true))(hG:∀listed w,U listed->G listed w->S w)(a8:∀listed w,U listed->i∈Region.ready md ops listed->G listed w->G (listed.setIfInBounds i true) w)(a7:∀listed j w,U listed->i∈Region.ready md ops listed->j∈Region.ready md ops listed->j≠i->G ((listed.setIfInBounds i true).setIfInBounds j true) w->G (listed.setIfInBounds j true) w):∀(fuel:Nat) (listed:Array Bool) (a:Act) (w:World),(∀j oj,ops[j]?=some oj->j≠i->listed.getD j true=false->(∀e∈oj.after,Region.binds md e=true->e.on≠i)->oi.apart ops oj=true)->i∈Region.ready md ops listed->U listed->YieldsIf P ops S oi v a->G listed w->tG P md ops Q G fuel (listed.setIfInBounds i true) (a.put oi.dst v) w->tG P md ops Q G (fuel+1) listed a w:=by
 intro fuel
 induction fuel with
 | zero =>
  intro listed a w _ hr hu hy hS H;refine⟨fun h=>(by rw[h]at hr;cases hr),fun j hj=>?_⟩;by_cases hji:j=i
  ·subst hji;exact hy.wpOp hi (hG _ _ hu hS) ⟨a8 _ _ hu hr hS,H⟩
  have:=ready_mono hj hji;rw[H.1]at this;cases this
 | succ fuel ih =>
  intro listed a w h4 hr hu hy hS H;refine⟨fun h=>(by rw[h]at hr;cases hr),fun j hj=>?_⟩;by_cases hji:j=i
  ·subst hji;exact hy.wpOp hi (hG _ _ hu hS) ⟨a8 _ _ hu hr hS,H⟩
  have h1:=H.2 j (ready_mono hj hji);obtain⟨h6,oj,h7,h9⟩:=mem_ready.1 hj
  have h8:∀e∈oj.after,Region.binds md e=true->e.on≠i:=fun e he hb heq=>by
   have h1:=h9 e he hb;have h0:=(mem_ready.1 hr).1;rw[heq]at h1;rcases Nat.lt_or_ge i listed.size with h'|h'
   ·simp[h']at h0 h1;rw[h0]at h1;cases h1
   simp[Array.getElem?_eq_none h']at h1
  have h2:=wpOp_putIf h7 (h4 j oj h7 hji h6 h8) (fun cs b=>a9 i oi cs b hi) (fun cs b=>a9 j oj cs b h7) hQ hy h1
  have h5:∀k ok,ops[k]?=some ok->k≠i->(listed.setIfInBounds j true).getD k true=false ->
    (∀e∈ok.after,Region.binds md e=true->e.on≠i)->oi.apart ops ok=true:=fun k ok hk hki hun hno=>by
   refine h4 k ok hk hki ?_ hno;by_cases hjk:j=k
   ·subst hjk;exact h6
   ·rw[Go.getD_set_ne true hjk]at hun;exact hun
  have H1:=hU listed j hu hr hj hji;refine wpOp_mono (fun a' w' h3=>?_) h2;have H0:=a7 listed j w' hu hr hj hji h3.2.1;refine⟨H0,ih (listed.setIfInBounds j true) a' w' h5 (ready_mono hr (Ne.symm hji)) H1 h3.1 H0 ?_⟩;rw[Array.setIfInBounds_comm _ _ hji];exact h3.2.2
def wH (s:Nat)(A B:World->Prop)(listed:Array Bool)(w:World):Prop:=A w/\(listed.getD s true=false->B w)
theorem uU {l:Array Bool}{i:Nat}:(l.setIfInBounds i true).getD i true=true:=by
 rcases Nat.lt_or_ge i l.size with h|h
 ·simp[h]
 simp[h]
theorem qBE {s j:Nat}{A B:World->Prop}{listed:Array Bool}{w:World}(h:wH s A B listed w):wH s A B (listed.setIfInBounds j true) w:=by
 refine⟨h.1,fun hs=>h.2 ?_⟩;by_cases e:j=s
 ·subst e;rw[uU]at hs;cases hs
 rwa [Go.getD_set_ne true e]at hs
theorem fV {s i j:Nat}{A B:World->Prop}{listed:Array Bool}{w:World}(a9:i≠s)(h:wH s A B ((listed.setIfInBounds i true).setIfInBounds j true) w):wH s A B (listed.setIfInBounds j true) w:=by
 refine⟨h.1,fun hs=>h.2 ?_⟩;by_cases e:j=s
 ·subst e;rw[uU]at hs;cases hs
 rw[Go.getD_set_ne true e]at hs⊢
 rwa [Go.getD_set_ne true a9]
variable {s:Nat} {A B:World->Prop}
theorem qSM {i:Nat}{oi:Oper}{v:Value}{a9:Nat}{listed:Array Bool}{a:Act}{w:World}(hi:ops[i]?=some oi)(a8:(i == s)=false)(hs:Region.noSelect ops=true)(hf:Region.free md ops listed i=true)(hr:(Region.ready md ops listed).contains i=true)(hQ:∀c a w,Q (.panic c) (a.put oi.dst v) w->Q (.panic c) a w)(hy:YieldsIf P ops A oi v a)(hG:wH s A B listed w)(h:tG P md ops Q (wH s A B) a9 (listed.setIfInBounds i true) (a.put oi.dst v) w):tG P md ops Q (wH s A B) (a9+1) listed a w :=
 gG (S:=A) (U:=fun _=>True) hi (Region.noSelect_spec hs) hQ (fun _ _ _ _ _ _=>trivial) (fun _ _ _ h=>h.1) (fun _ _ _ _ h=>qBE h)
  (fun _ _ _ _ _ _ _ h=>fV (by simpa using a8) h) a9 listed a w (Region.free_spec hi hf) (by simpa using hr) trivial hy hG h
theorem qTU {i:Nat}{oi:Oper}{v:Value}{a9:Nat}{listed:Array Bool}{a:Act}{w:World}(hi:ops[i]?=some oi)(a7:(i == s)=false)(hw:(match ops[s]? with|some os=>os.after.any fun e=>Region.binds md e && (e.on == i)|none=>false)=true)(a8:listed.getD s true=false)(hs:Region.noSelect ops=true)(hf:Region.free md ops listed i=true)(hr:(Region.ready md ops listed).contains i=true)(hQ:∀c a w,Q (.panic c) (a.put oi.dst v) w->Q (.panic c) a w)(hy:YieldsIf P ops (fun w=>A w/\B w) oi v a)(hG:wH s A B listed w)(h:tG P md ops Q (wH s A B) a9 (listed.setIfInBounds i true) (a.put oi.dst v) w):tG P md ops Q (wH s A B) (a9+1) listed a w:=by
 refine gG (S:=fun w=>A w/\B w) (U:=fun l=>l.getD s true=false) hi (Region.noSelect_spec hs) hQ (fun l j hu hir hj hji=>?_) (fun l w hu h=>⟨h.1,h.2 hu⟩) (fun _ _ _ _ h=>qBE h)
  (fun _ _ _ _ _ _ _ h=>fV (by simpa using a7) h) a9 listed a w (Region.free_spec hi hf) (by simpa using hr) a8 hy hG h
 by_cases e:j=s
 ·subst e
  exfalso;obtain⟨h4,oj,h3,h2⟩:=mem_ready.1 hj;rw[h3]at hw;simp only[Array.any_eq_true,Bool.and_eq_true,beq_iff_eq]at hw;obtain⟨k,hk,hb,he⟩:=hw;have h1:=h2 _ (Array.getElem_mem hk) hb;have h0:=(mem_ready.1 hir).1;rw[he]at h1;rcases Nat.lt_or_ge i l.size with h'|h'
  ·simp[h']at h0 h1;rw[h0]at h1;cases h1
  simp[Array.getElem?_eq_none h']at h1
 rw[Go.getD_set_ne true e];exact hu
theorem zO (i:Nat){oi:Oper}{v:Value}{a9:Nat}{listed:Array Bool}{a a':Act}{w:World}(hG:wH s A B listed w)(h:tG P md ops Q (wH s A B) a9 (listed.setIfInBounds i true) a' w)(hi:ops[i]?=some oi:=by rfl)(a8:(i == s)=false:=by rfl)(hs:Region.noSelect ops=true:=by kernel_rfl)(hf:Region.free md ops listed i=true:=by kernel_rfl)(hr:(Region.ready md ops listed).contains i=true:=by kernel_rfl)(hw:Region.wanted oi (yielded ops a.tmps)=true:=by rfl)(hv:∀w,A w->(execOp a.eval oi).run P w=.ok (.value v) w:=by(intro wz hz;(try dsimp only at hz);(repeat obtain⟨_,hz⟩:=hz);go_simp;(try with_reducible rfl)))(hQ:∀c a w,Q (.panic c) (a.put oi.dst v) w->Q (.panic c) a w:=by exact fun _ _ _ h=>h)(ha:a.put oi.dst v=a':=by((try simp only[Act.put,sPd,sPe,sPf,sPa,sPb,sPc]);with_reducible rfl)):
  tG P md ops Q (wH s A B) (a9+1) listed a w:=qSM hi a8 hs hf hr hQ (Or.inl ⟨hw,hv⟩) hG (by rw[ha];exact h)
theorem yY (i:Nat){oi:Oper}{v:Value}{a9:Nat}{listed:Array Bool}{a a':Act}{w:World}(hG:wH s A B listed w)(h:tG P md ops Q (wH s A B) a9 (listed.setIfInBounds i true) a' w)(hi:ops[i]?=some oi:=by rfl)(a6:(i == s)=false:=by rfl)(a8:(match ops[s]? with|some os=>os.after.any fun e=>Region.binds md e && (e.on == i)|none=>false)=true:=by kernel_rfl)(a7:listed.getD s true=false:=by rfl)(hs:Region.noSelect ops=true:=by kernel_rfl)(hf:Region.free md ops listed i=true:=by kernel_rfl)(hr:(Region.ready md ops listed).contains i=true:=by kernel_rfl)(hw:Region.wanted oi (yielded ops a.tmps)=true:=by rfl)(hv:∀w,A w/\B w->(execOp a.eval oi).run P w=.ok (.value v) w:=by(rintro wz ⟨hy,hz⟩;(try dsimp only at hz);(try dsimp only at hy);(repeat obtain⟨_,hz⟩:=hz);(repeat obtain⟨_,hy⟩:=hy);go_simp;(try with_reducible rfl)))(hQ:∀c a w,Q (.panic c) (a.put oi.dst v) w->Q (.panic c) a w:=by exact fun _ _ _ h=>h)(ha:a.put oi.dst v=a':=by((try simp only[Act.put,sPd,sPe,sPf,sPa,sPb,sPc]);with_reducible rfl)):
  tG P md ops Q (wH s A B) (a9+1) listed a w:=qTU hi a6 a8 a7 hs hf hr hQ (Or.inl ⟨hw,hv⟩) hG (by rw[ha];exact h)
theorem tT {listed:Array Bool}{a:Act}{w:World}(hr:Region.ready md ops listed=[])(h:Q .normal a w):∀fuel,tG P md ops Q G fuel listed a w
 | 0=>⟨hr,h⟩
 | _+1=>⟨fun _=>h,by rw[hr];simp⟩
theorem oneG {i:Nat}{o:Oper}{a9:Nat}{listed:Array Bool}{a:Act}{w:World}(hr:Region.ready md ops listed=[i])(ho:ops[i]?=some o)(h:∀K':Act->World->Prop,Shut (∀a w,G (listed.setIfInBounds i true) w->tG P md ops Q G a9 (listed.setIfInBounds i true) a w->K' a w)->if Region.wanted o (yielded ops a.tmps)=true then Oper.wp P o a w K' Q else K' (a.put o.dst undef) w):tG P md ops Q G (a9+1) listed a w:=by
 refine⟨fun h0=>(by rw[hr]at h0;cases h0),fun j hj=>?_⟩;rw[hr]at hj;have:j=i:=by simpa using hj
 subst this;exact wpOp_step ho (fun K' hK=>h K' (fun a w hG hW=>hK a w ⟨hG,hW⟩))
theorem twoG {i j:Nat}{o o':Oper}{a9:Nat}{listed:Array Bool}{a:Act}{w:World}(hr:Region.ready md ops listed=[i,j])(ho:ops[i]?=some o)(a8:ops[j]?=some o')(h:∀K':Act->World->Prop,Shut (∀a w,G (listed.setIfInBounds i true) w->tG P md ops Q G a9 (listed.setIfInBounds i true) a w->K' a w)->if Region.wanted o (yielded ops a.tmps)=true then Oper.wp P o a w K' Q else K' (a.put o.dst undef) w)(h':∀K':Act->World->Prop,Shut (∀a w,G (listed.setIfInBounds j true) w->tG P md ops Q G a9 (listed.setIfInBounds j true) a w->K' a w)->if Region.wanted o' (yielded ops a.tmps)=true then Oper.wp P o' a w K' Q else K' (a.put o'.dst undef) w):tG P md ops Q G (a9+1) listed a w:=by
 refine⟨fun h0=>(by rw[hr]at h0;cases h0),fun k hk=>?_⟩;rw[hr]at hk;rcases (by simpa using hk:k=i\/k=j) with rfl|rfl
 ·exact wpOp_step ho (fun K' hK=>h K' (fun a w hG hW=>hK a w ⟨hG,hW⟩))
 exact wpOp_step a8 (fun K' hK=>h' K' (fun a w hG hW=>hK a w ⟨hG,hW⟩))
theorem yM {id:Nat}{a:Act}{w:World}(hm:P.follows .mixedOrders=true)(h:tG P .any ops Q G ops.size (Array.replicate ops.size false) a w.drew):(Code.region id ops true).wp P Q a w :=
 wp_region_any hm (dP _ _ _ _ h)
end
end Go.Proofs.YtobakifdllameaaGreat
