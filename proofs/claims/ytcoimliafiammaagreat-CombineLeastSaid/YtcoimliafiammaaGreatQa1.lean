/- Part 1 of the proof. -/
import Derived.Test.YtcoimliafiammaaGreatRows
import Derived.WalkKit
import Derived.WalkSpells
import Derived.WalkLawsBesides
import Derived.Lib.Hide
import Derived.BigQuiet
import Derived.Deep.QuietTactic
import Derived.Deep.LoopGhost
import Derived.OwnWalk
import Derived.ArgAppend
import Derived.Deep.RegionHeld3
import Derived.Deep.DrawnRows
import Derived.OrdersHeld
set_option linter.unusedVariables false
set_option linter.unusedSimpArgs false
set_option maxRecDepth 100000
set_option maxHeartbeats 16000000
namespace Go.Proofs.YtcoimliafiammaaGreat
open Go.RowKit
theorem Nm {α:Sort _}(a:α):∃x,x=a:=⟨a,rfl⟩
theorem K3 {a b c:Prop}(x:a)(y:b)(z:c):Hid a ∧ Hid b ∧ Hid c:=⟨Lib.hid x,Lib.hid y,Lib.hid z⟩
theorem K4 {a b c d:Prop}(x:a)(y:b)(z:c)(u:d):Hid a ∧ Hid b ∧ Hid c ∧ Hid d:=⟨Lib.hid x,K3 y z u⟩
theorem K5 {a b c d e:Prop}(x:a)(y:b)(z:c)(u:d)(v:e):Hid a ∧ Hid b ∧ Hid c ∧ Hid d ∧ Hid e:=⟨Lib.hid x,K4 y z u v⟩
theorem K6 {a b c d e f:Prop}(x:a)(y:b)(z:c)(u:d)(v:e)(w:f):Hid a ∧ Hid b ∧ Hid c ∧ Hid d ∧ Hid e ∧ Hid f:=⟨Lib.hid x,K5 y z u v w⟩
theorem Oj {α:Type _}{a b:α}(h:some a=some b):a=b:=Option.some.inj h
theorem Ga (w:World)(o:Obj)(r:Option Nat):w.grownBy (w.alloc o) r:=World.grownBy_alloc w o r
theorem Kh {p:Prop}(h:p):Hid p:=Lib.hid h
theorem sPa (xs:List Value)(i:Nat)(x:Value):xs.toArray.setIfInBounds i x=(xs.set i x).toArray:=List.setIfInBounds_toArray ..
theorem sPb (a b:Value)(l:List Value):(a::l).set 0 b=b::l:=rfl
theorem sPc (a b:Value)(n:Nat)(l:List Value):(a::l).set (n+1) b=a::l.set n b:=rfl
theorem sPd {α:Type _}{xs:List α}{i:Nat}(h:i<xs.toArray.size):xs.toArray[i]=xs[i]'(by simpa using h):=List.getElem_toArray h
theorem sPe {α:Type _}{a:α}{l:List α}{h:0<(a::l).length}:(a::l)[0]'h=a:=rfl
theorem sPf {α:Type _}{a:α}{l:List α}{i:Nat}{h:i+1<(a::l).length}:(a::l)[i+1]'h=l[i]'(Nat.lt_of_succ_lt_succ h):=rfl
theorem zW {a b:Bool}(h:a=b):Ending.returned (.bool a)=.returned (.bool b):=by rw[h]
theorem yA {k:IntKind}{a b:Int}(h:a=b):Ending.returned (.int k a)=.returned (.int k b):=by rw[h]
def uQ (w:World)(b off:Nat)(xs:List Value):Prop:=b<w.heap.size/\∀i (h:i<xs.length),w.cell? ⟨b,off+i,none⟩=some xs[i]
def Row (B:Nat)(w:World)(v:Value)(xs:List Value):Prop :=
 (∃a cap,v=.slice a 0 cap/\xs=[])\/∃b off cap,v=.slice (some ⟨b,off,none⟩) xs.length cap/\b<B/\xs.length<=cap/\cap<=maxLen/\uQ w b off xs
theorem uQ.kept {w w':World}{b off:Nat}{xs:List Value}{row:Option Nat}(h:uQ w b off xs)(hg:w.grownBy w' row)(hr:row≠some b):uQ w' b off xs :=
 ⟨Nat.lt_of_lt_of_le h.1 hg.size,fun i hi=>(World.cell?_of_block (hg.block b h.1 (fun e=>hr e.symm))).trans (h.2 i hi)⟩
theorem Row.kept {B:Nat}{w w':World}{v:Value}{xs:List Value}{row:Option Nat}(h:Row B w v xs)(hg:w.grownBy w' row)(hr:∀k,row=some k->B<=k):Row B w' v xs:=by
 rcases h with h|⟨b,off,cap,h1,h2,h3,h4,h5⟩
 ·exact .inl h
 ·exact .inr ⟨b,off,cap,h1,h2,h3,h4,h5.kept hg (fun e=>by have:=hr b e;omega)⟩
theorem Row.mono {B B':Nat}{w:World}{v:Value}{xs:List Value}(h:Row B w v xs)(hB:B<=B'):Row B' w v xs:=by
 rcases h with h|⟨b,off,cap,h1,h2,h3⟩
 ·exact .inl h
 ·exact .inr ⟨b,off,cap,h1,by omega,h3⟩
theorem uQ.of_heap {w w':World}{b off:Nat}{xs:List Value}(h:uQ w b off xs)(e:w'.heap=w.heap):uQ w' b off xs :=
 ⟨by rw[e];exact h.1,fun i hi=>(World.cell?_of_block (by rw[e])).trans (h.2 i hi)⟩
theorem Row.of_heap {B:Nat}{w w':World}{v:Value}{xs:List Value}(h:Row B w v xs)(e:w'.heap=w.heap):Row B w' v xs:=by
 rcases h with h|⟨b,off,cap,h1,h2,h3,h4,h5⟩
 ·exact .inl h
 ·exact .inr ⟨b,off,cap,h1,h2,h3,h4,h5.of_heap e⟩
theorem wS {w a b:World}{row:Option Nat}(h:w.grownBy a row)(h1:b.os=a.os)(h2:b.tape=a.tape)(h3:b.output=a.output)(h4:b.heap=a.heap):w.grownBy b row :=
 ⟨h1.trans h.os,h2.trans h.tape,h3.trans h.output,by rw[h4];exact h.size,fun k hk hne=>by rw[h4];exact h.block k hk hne⟩
theorem zH (w:World)(row:Option Nat):w.grownBy w row:=⟨rfl,rfl,rfl,Nat.le_refl _,fun _ _ _=>rfl⟩
theorem zK (w:World)(n:Nat)(row:Option Nat):w.grownBy (w.drewN n) row:=⟨rfl,rfl,rfl,Nat.le_refl _,fun _ _ _=>rfl⟩
theorem zN (w:World)(row:Option Nat):w.grownBy w.drew row:=⟨rfl,rfl,rfl,Nat.le_refl _,fun _ _ _=>rfl⟩
theorem sQ {a b c:World}{r s row:Option Nat}(h:a.grownBy b r)(k:b.grownBy c s)(hr:r=none\/r=row\/∃x,r=some x/\a.heap.size<=x)(hs:s=none\/s=row\/∃x,s=some x/\a.heap.size<=x):a.grownBy c row:=by
 refine⟨k.os.trans h.os,k.tape.trans h.tape,k.output.trans h.output,Nat.le_trans h.size k.size,fun i hi hne=>?_⟩;refine(k.block i (Nat.lt_of_lt_of_le hi h.size) ?_).trans (h.block i hi ?_)
 ·rcases hs with rfl|rfl|⟨x,rfl,hx⟩
  ·simp
  ·exact hne
  ·simp;omega
 ·rcases hr with rfl|rfl|⟨x,rfl,hx⟩
  ·simp
  ·exact hne
  ·simp;omega
theorem zC {a b c:World}{row:Option Nat}(h:a.grownBy b row)(k:b.grownBy c row):a.grownBy c row:=sQ h k (.inr (.inl rfl)) (.inr (.inl rfl))
theorem zD (w:World)(p:Addr)(u:Value):w.grownBy (w.setCell p u) (some p.block) :=
 ⟨rfl,rfl,rfl,by simp[World.setCell],fun k _ hk=>Below.heap_setCell _ _ _ _ (fun e=>hk (by rw[e]))⟩
theorem wP {a b:World}{row:Option Nat}(h:a.grownBy b none):a.grownBy b row :=
 ⟨h.os,h.tape,h.output,h.size,fun k hk _=>h.block k hk (by simp)⟩
theorem below_of_grown {a b:World}(h:a.grownBy b none):Below a.heap.size a b:=⟨h.os,h.tape,h.output,h.size,fun k hk=>h.block k hk (by simp)⟩
theorem kK {a b:World}{row:Option Nat}(h:Below a.heap.size a b):a.grownBy b row:=⟨h.os,h.tape,h.output,h.size,fun k hk _=>h.block k hk⟩
section
variable {P:Program} {f:FuncId} {args:Array Value} {w:World} {a n:Nat} {v:Value}
theorem qMN (h:Calls P f args (w.drewN n) fun e w'=>e=.returned v/\w.drewN n=w'):Calls P f args (w.drewN n) fun e w''=>e=.returned v/\∃m,w''=w.drewN m :=
 h.mono fun _ _ ⟨he,hm⟩=>⟨he,n,hm.symm⟩
theorem rI (h:Calls P f args (w.drewN (a+n)) fun e w'=>e=.returned v/\w.drewN (a+n)=w'):
  Calls P f args (w.drewN (a+n)) fun e w''=>e=.returned v/\∃m,w''=w.drewN (a+m) :=
 h.mono fun _ _ ⟨he,hm⟩=>⟨he,n,hm.symm⟩
theorem qPZ (h:Calls P f args (w.drewN (a+n)) fun e w'=>e=.returned v/\∃m,w'=(w.drewN (a+n)).drewN m):
  Calls P f args (w.drewN (a+n)) fun e w''=>e=.returned v/\∃m,w''=w.drewN (a+m) :=
 h.mono fun _ _ ⟨he,m,hm⟩=>⟨he,n+m,by rw[hm,World.drewN_drewN,Nat.add_assoc]⟩
end
structure ElemOk (P:Program)(t e:TypeId)(z:Value)(bytes:Nat):Prop where
 ht:P.underlying t=some (.slice e)
 hi:(P.info? e).map (fun i=>(i.zero,i.size,i.bytes))=some (some z,1,bytes)
 hz:z.cells.size=1
theorem rD {w:World}{base e size:Nat}{v:Value}{n:Nat}{xs:List Value}(h:w.ownsRow base e size v n xs):∃sa sc,v=.slice sa n sc:=by
 rcases h.2 with ⟨rfl,rfl⟩|⟨g,cap,cur,rfl,_⟩
 ·exact⟨none,0,rfl⟩
 ·exact⟨_,_,rfl⟩
theorem zM {w:World}{b:Nat}{o:Obj}(h:w.heap[b]?=some o):b<w.heap.size:=(Array.getElem?_eq_some_iff.1 h).1
theorem app1 {P:Program}{w:World}{ops:Array Oper}{rest:List Oper}{o:Oper}{a:Act}{Q:Exit->Act->World->Prop}(hgd:o.guard=none)(s x:Operand)(t:TypeId)(ho:o.op=.call { callee:=.builtin .append,args:=#[s,x],argTypes:=#[t,t] }){e:TypeId}{z:Value}{bytes:Nat}(E:ElemOk P t e z bytes)(base:Nat)(v:Value)(n:Nat)(xs:List Value)(hs:a.eval s=v)(hown:w.ownsRow base e 1 v n xs)(u:Value)(hx:a.eval x=.slice (some ⟨w.heap.size,0,none⟩) 1 1)(h1:u.oneCell'=true)(h63:n+1<=maxLen)(hbytes:(n+1)*bytes<=140737488355328)(hbase:base<=w.heap.size)(h:∀sa sc w',w'.ownsRow base e 1 (.slice sa (n+1) sc) (n+1) (xs++[u])->w.grownBy w' v.ownBlock->w.heap.size<w'.heap.size->wpList P ops Q rest (a.put o.dst (.slice sa (n+1) sc)) w'):wpList P ops Q (o::rest) a (w.alloc (.cells #[u] e)):=by
 obtain⟨i,hi,hz,h0,h3⟩:=info_parts E.hi;refine wpList_append_own _ hgd s x t ho base e i z 1 bytes E.ht hi hz h0 h3 E.hz (by decide) v n xs hs (hown.alloc _) ⟨w.heap.size,0,none⟩ 1 1 [u] hx rfl ?_ ?_ h63 hbytes (by simp;omega) ?_
 ·intro j u' hj
  match j,hj with
  | 0,hj=>simp at hj;subst hj;simp[Addr.add]
 ·intro u' hu;simp at hu;subst hu;exact h1
 ·intro v' w' h1 h2 _
  obtain⟨sa,sc,rfl⟩:=rD h1;refine h sa sc w' h1 ?_ (by have:=h2.size;simp at this;omega);refine⟨h2.os,h2.tape,h2.output,by have:=h2.size;simp at this;omega,fun k hk hne=>(h2.block k (by simp;omega) hne).trans ?_⟩;exact Below.heap_alloc w _ k hk
theorem oX {P:Program}{w:World}{base:Nat}{v:Value}{n:Nat}{xs:List Int}(src e:TypeId)(hs:P.underlying src=some (.slice e))(he:P.underlying e=some (.int .u8))(dst:TypeId)(hd:P.underlying dst=some .string)(hown:w.ownsRow base e 1 v n (xs.map (Value.int .u8))):(convert src dst v).run P w=.ok (.string (strOfNums xs)) w:=by
 have hl:xs.length=n:=by have:=hown.1;simpa using this
 rcases hown.2 with ⟨rfl,rfl⟩|⟨g,cap,cur,rfl,_⟩
 ·have:xs=[]:=List.eq_nil_of_length_eq_zero hl
  subst this;exact run_convert_bytes_nil w src e hs he 0 0 dst hd
 ·refine run_convert_bytes_arg w src e hs he g 0 n cap xs hl (fun i hi=>?_) dst hd
  rw[Nat.zero_add,hown.cellAt i (by omega)];simp[List.getD,List.getElem?_eq_getElem (show i<xs.length by omega)]
theorem Row.of_owns {w:World}{base e:Nat}{v:Value}{n:Nat}{xs:List Value}(h:w.ownsRow base e 1 v n xs):Row w.heap.size w v xs:=by
 have hl:xs.length=n:=by have:=h.1;omega
 rcases h.2 with ⟨rfl,rfl⟩|⟨g,cap,cur,rfl,hb,hg,hnc,hcm,hcs,htake⟩
 ·exact .inl ⟨_,_,rfl,List.eq_nil_of_length_eq_zero hl⟩
 ·have h0:=(Array.getElem?_eq_some_iff.1 hg).1
  refine .inr ⟨g,0,cap,by rw[hl],h0,by omega,hcm,h0,fun i hi=>?_⟩;rw[Nat.zero_add,h.cellAt i (by omega),List.getElem?_eq_getElem hi]
theorem zX {w w':World}{base e:Nat}{v:Value}{n:Nat}{xs:List Value}{row:Option Nat}(h:w.ownsRow base e 1 v n xs)(hg:w.grownBy w' row)(hr:∀k,row=some k->k<base):w'.ownsRow base e 1 v n xs:=by
 refine h.kept hg ?_;rcases hv:v.ownBlock with _|k
 ·exact .inl rfl
 ·refine .inr fun e=>?_
  have:=hr k e.symm;have:=(h.lt k hv).1;omega
theorem zO {w:World}{base e size:Nat}{v:Value}{n:Nat}{xs:List Value}{pb e':Nat}{c:Array Value}{m:Nat×Nat}(h:w.ownsRow base e size v n xs)(hp:w.heap[pb]?=some (.cells c e' m))(hne:e≠e'):v.ownBlock≠some pb:=by
 rcases h.2 with ⟨rfl,_⟩|⟨g,cap,cur,rfl,_,hg,_⟩
 ·simp[Value.ownBlock]
 ·intro hv
  simp[Value.ownBlock]at hv;subst hv;rw[hg]at hp;simp at hp;exact hne hp.2.1
theorem zB {w w':World}{row:Option Nat}{pb:Nat}{o:Obj}(h:w.heap[pb]?=some o)(hg:w.grownBy w' row)(hr:row≠some pb:=by simp):w'.heap[pb]?=some o :=
 (hg.block pb (Array.getElem?_eq_some_iff.1 h).1 (fun e=>hr e.symm)).trans h
theorem zJ {w:World}{pb e:Nat}{c:Array Value}{m:Nat×Nat}(h:w.heap[pb]?=some (.cells c e m))(i:Nat)(hi:i<c.size:=by simp):w.cell? ⟨pb,i,none⟩=some c[i]:=by
 rw[cell_of_row w pb i _ _ _ h];simp[hi]
theorem zF {w:World}{pb e:Nat}{c:Array Value}(h:w.heap[pb]?=some (.cells c e (0,0)))(i:Nat):w.frozen? ⟨pb,i,none⟩=false:=frozen_of_row w pb i _ _ h
theorem zL (w:World)(o:Obj):(w.alloc o).heap.size=w.heap.size+1:=by simp
theorem vC {w a:World}{row:Option Nat}(h:w.grownBy a row)(o:Obj):w.grownBy (a.alloc o) row:=zC h (Ga a o row)
theorem zA {w a b:World}{row s:Option Nat}(h:w.grownBy a row)(k:a.grownBy b s)(hs:∀x,s=some x->w.heap.size<=x:=by simp):w.grownBy b row :=
 sQ h k (.inr (.inl rfl)) (by
  rcases s with _|x
  ·exact .inl rfl
  ·exact .inr (.inr ⟨x,rfl,hs x rfl⟩))
theorem zY {w a b:World}{row:Option Nat}{p:Nat}(h:w.grownBy a row)(k:a.grownBy b (some p))(hp:w.heap.size<=p):w.grownBy b row:=zA h k (fun _ e=>by rw[<-Oj e];exact hp)
theorem uQ.map {α:Type}{f:α->Value}{w:World}{b off:Nat}{xs:List α}(h:uQ w b off (xs.map f))(i:Nat)(hi:i<xs.length):w.cell? ⟨b,off+i,none⟩=some (f xs[i]):=by
 rw[h.2 i (by simpa using hi),List.getElem_map]
def Arr (w:World)(g:Nat)(e:TypeId)(xs:List Value):Prop:=∃cur rest,w.heap[g]?=some (.cells cur e (0,0))/\cur.toList=xs++rest
theorem Arr.lt {w:World}{g:Nat}{e:TypeId}{xs:List Value}(h:Arr w g e xs):g<w.heap.size:=by
 obtain⟨_,_,h,_⟩:=h;exact zM h
theorem Arr.cell {w:World}{g:Nat}{e:TypeId}{xs:List Value}(h:Arr w g e xs)(i:Nat)(hi:i<xs.length):w.cell? ⟨g,i,none⟩=some xs[i]:=by
 obtain⟨cur,rest,h,hc⟩:=h;rw[cell_of_row w g i _ _ _ h,<-Array.getElem?_toList,hc,List.getElem?_append_left hi,List.getElem?_eq_getElem hi]
theorem Arr.frozen {w:World}{g:Nat}{e:TypeId}{xs:List Value}(h:Arr w g e xs)(i:Nat):w.frozen? ⟨g,i,none⟩=false:=by
 obtain⟨cur,rest,h,hc⟩:=h;exact frozen_of_row w g i _ _ h
theorem Arr.set {w:World}{g:Nat}{e:TypeId}{xs:List Value}(h:Arr w g e xs)(i:Nat)(hi:i<xs.length)(u:Value):Arr (w.setCell ⟨g,i,none⟩ u) g e (xs.set i u):=by
 obtain⟨cur,rest,h,hc⟩:=h;refine⟨cur.setIfInBounds i u,rest,heap_setCell_same w g i _ _ _ h,?_⟩;rw[Array.toList_setIfInBounds,hc,List.set_append_left _ _ hi]
theorem Arr.kept {w w':World}{g:Nat}{e:TypeId}{xs:List Value}{row:Option Nat}(h:Arr w g e xs)(hg:w.grownBy w' row)(hr:row≠some g):Arr w' g e xs:=by
 obtain⟨cur,rest,h,hc⟩:=h;exact⟨cur,rest,zB h hg hr,hc⟩
theorem Arr.of_heap {w w':World}{g:Nat}{e:TypeId}{xs:List Value}(h:Arr w g e xs)(he:w'.heap=w.heap):Arr w' g e xs:=by
 obtain⟨cur,rest,h,hc⟩:=h;exact⟨cur,rest,by rw[he];exact h,hc⟩
theorem Arr.of_owns {w:World}{base g n cap:Nat}{e:TypeId}{xs:List Value}(h:w.ownsRow base e 1 (.slice (some ⟨g,0,none⟩) n cap) n xs):Arr w g e xs:=by
 rcases h.2 with ⟨h',_⟩|⟨g',cap',cur,h',hb,hg,hnc,hcm,hcs,htake⟩
 ·simp at h'
 ·simp only[Value.slice.injEq,Option.some.injEq,Addr.mk.injEq,and_true,true_and]at h'
  obtain⟨rfl,rfl⟩:=h';refine⟨cur,cur.toList.drop n,hg,?_⟩;rw[Nat.mul_one]at htake;rw[<-htake,List.take_append_drop]
theorem Arr.row {w:World}{g:Nat}{e:TypeId}{xs:List Value}(h:Arr w g e xs):uQ w g 0 xs:=⟨h.lt,fun i hi=>by rw[Nat.zero_add];exact h.cell i hi⟩
theorem Arr.new (w:World)(e:TypeId)(cs:Array Value):Arr (w.alloc (.cells cs e)) w.heap.size e cs.toList:=⟨cs,[],heap_alloc_new w _,by simp⟩
theorem Arr.front {w:World}{g:Nat}{e:TypeId}{xs ys:List Value}(h:Arr w g e (xs++ys)):Arr w g e xs:=by
 obtain⟨cur,rest,h,hc⟩:=h;exact⟨cur,ys++rest,h,by rw[hc,List.append_assoc]⟩
theorem Arr.type_ne {w:World}{g g':Nat}{e e':TypeId}{xs:List Value}{c:Array Value}{m:Nat×Nat}(h:Arr w g e xs)(hp:w.heap[g']?=some (.cells c e' m))(hne:e≠e'):g≠g':=by
 obtain⟨cur,rest,h,hc⟩:=h;rintro rfl;rw[h]at hp;simp at hp;exact hne hp.2.1
theorem qD {P:Program}{w:World}{g:Nat}{xs:List Int}(src e:TypeId)(hs:P.underlying src=some (.slice e))(he:P.underlying e=some (.int .u8))(dst:TypeId)(hd:P.underlying dst=some .string)(n cap:Nat)(hn:xs.length=n)(h:Arr w g e (xs.map (Value.int .u8))):(convert src dst (.slice (some ⟨g,0,none⟩) n cap)).run P w=.ok (.string (strOfNums xs)) w:=by
 refine run_convert_bytes_arg w src e hs he g 0 n cap xs hn (fun i hi=>?_) dst hd;rw[Nat.zero_add,h.cell i (by simp;omega)];simp[List.getD,List.getElem?_eq_getElem (show i<xs.length by omega)]
theorem Row.of_arg {k:IntKind}{w:World}{a:Option Addr}{len cap:Nat}{zs:List Int}(h:(a=none/\len=0/\cap=0/\zs=[])\/∃x,a=some x/\len<=cap/\cap<=maxLen/\zs.length=cap/\(∀i,i<zs.length->w.cell? (x.add i)=some (.int k (zs.getD i 0)))/\∀n∈zs,(Lit.int k n).wf=true):Row w.heap.size w (.slice a len cap) ((zs.take len).map (Value.int k)):=by
 rcases h with ⟨rfl,rfl,rfl,rfl⟩|⟨x,rfl,h1,h2,h3,h4,_⟩
 ·exact .inl ⟨_,_,rfl,rfl⟩
 ·by_cases hl:len=0
  ·subst hl
   exact .inl ⟨_,_,rfl,by simp⟩
  ·obtain⟨b,off,spot⟩:=x
   have hc:=h4 0 (by omega);have h5:spot=none:=by simpa [Addr.add] using World.cell?_spot hc
   subst h5;have h6:∀i,(⟨b,off,none⟩:Addr).add i=⟨b,off+i,none⟩:=fun i=>by unfold Addr.add;split<;>simp_all
   have hb:b<w.heap.size:=(by rw[h6]at hc;exact World.block_lt_of_cell? w _ hc);have h0:((zs.take len).map (Value.int k)).length=len:=by simp;omega
   refine .inr ⟨b,off,cap,by rw[h0],hb,by rw[h0];exact h1,h2,hb,fun i hi=>?_⟩;rw[h0]at hi;have:=h4 i (by omega);rw[h6]at this;rw[this];simp[List.getD,List.getElem?_eq_getElem (show i<zs.length by omega)]
end Go.Proofs.YtcoimliafiammaaGreat
namespace Go.Proofs.YtcoimliafiammaaGreat
def ent (t:List (List Int))(x y:Nat):Int:=(t.getD x []).getD y 0
def entN (t:List (List Int))(x y:Nat):Nat:=(ent t x y).toNat
open Go.RowKit
def ints (zs:List Int):List Value:=zs.map (Value.int .i64)
theorem yF (zs:List Int):(ints zs).length=zs.length:=by simp[ints]
theorem Row.some_ {B:Nat}{w:World}{v:Value}{xs:List Value}(h:Row B w v xs)(hx:0<xs.length):∃b off cap,v=.slice (some ⟨b,off,none⟩) xs.length cap/\b<B/\xs.length<=cap/\cap<=maxLen/\uQ w b off xs:=by
 rcases h with ⟨a,c,rfl,rfl⟩|⟨b,off,cap,rfl,h0,h1,h2,h3⟩
 ·simp at hx
 exact⟨b,off,cap,rfl,h0,h1,h2,h3⟩
theorem Row.shape {B:Nat}{w:World}{v:Value}{xs:List Value}(h:Row B w v xs):∃a cap,v=.slice a xs.length cap:=by
 rcases h with ⟨a,c,rfl,rfl⟩|⟨b,off,cap,rfl,h0,h1,h2,h3⟩
 ·exact⟨a,c,rfl⟩
 exact⟨_,_,rfl⟩
theorem Row.len_le {B:Nat}{w:World}{v:Value}{xs:List Value}(h:Row B w v xs):xs.length<=maxLen:=by
 rcases h with ⟨a,c,rfl,rfl⟩|⟨b,off,cap,rfl,h0,h1,h2,h3⟩
 ·simp
 omega
theorem uQ.int {w:World}{b off:Nat}{zs:List Int}(h:uQ w b off (ints zs))(i:Nat)(hi:i<zs.length):w.cell? ⟨b,off+i,none⟩=some (.int .i64 (zs.getD i 0)):=by
 rw[uQ.map h i hi];simp[List.getD,List.getElem?_eq_getElem hi]
structure MatAt (B:Nat)(w:World)(t:List (List Int))(b off:Nat)(A:Nat->Option Addr)(C:Nat->Nat):Prop where
 lt:b<B
 ltw:b<w.heap.size
 hd:∀x,x<t.length->w.cell? ⟨b,off+x,none⟩=some (.slice (A x) (t.getD x []).length (C x))
 row:∀x,x<t.length->Row B w (.slice (A x) (t.getD x []).length (C x)) (ints (t.getD x []))
def Mat (B:Nat)(w:World)(v:Value)(t:List (List Int)):Prop :=
 (∃a cap,v=.slice a 0 cap/\t=[])\/∃b off cap A C,v=.slice (some ⟨b,off,none⟩) t.length cap/\t.length<=cap/\cap<=maxLen/\MatAt B w t b off A C
theorem MatAt.kept {B:Nat}{w w':World}{t:List (List Int)}{b off:Nat}{A:Nat->Option Addr}{C:Nat->Nat}{row:Option Nat}(h:MatAt B w t b off A C)(hg:w.grownBy w' row)(hr:∀k,row=some k->B<=k):MatAt B w' t b off A C :=
 ⟨h.lt,Nat.lt_of_lt_of_le h.ltw hg.size,fun x hx=>(World.cell?_of_block (hg.block b h.ltw (fun e=>by have:=hr b e.symm;have:=h.lt;omega))).trans (h.hd x hx),fun x hx=>(h.row x hx).kept hg hr⟩
theorem MatAt.mono {B B':Nat}{w:World}{t:List (List Int)}{b off:Nat}{A:Nat->Option Addr}{C:Nat->Nat}(h:MatAt B w t b off A C)(hB:B<=B'):MatAt B' w t b off A C :=
 ⟨Nat.lt_of_lt_of_le h.lt hB,h.ltw,h.hd,fun x hx=>(h.row x hx).mono hB⟩
theorem MatAt.of_heap {B:Nat}{w w':World}{t:List (List Int)}{b off:Nat}{A:Nat->Option Addr}{C:Nat->Nat}(h:MatAt B w t b off A C)(e:w'.heap=w.heap):MatAt B w' t b off A C :=
 ⟨h.lt,by rw[e];exact h.ltw,fun x hx=>(World.cell?_of_block (by rw[e])).trans (h.hd x hx),fun x hx=>(h.row x hx).of_heap e⟩
section
variable {B B':Nat} {w w':World} {v:Value} {t:List (List Int)} {row:Option Nat}
theorem Mat.kept (h:Mat B w v t)(hg:w.grownBy w' row)(hr:∀k,row=some k->B<=k):Mat B w' v t:=by
 rcases h with h|⟨b,off,cap,A,C,h1,h2,h3,h4⟩
 ·exact .inl h
 exact .inr ⟨b,off,cap,A,C,h1,h2,h3,h4.kept hg hr⟩
theorem Mat.mono (h:Mat B w v t)(hB:B<=B'):Mat B' w v t:=by
 rcases h with h|⟨b,off,cap,A,C,h1,h2,h3,h4⟩
 ·exact .inl h
 exact .inr ⟨b,off,cap,A,C,h1,h2,h3,h4.mono hB⟩
theorem Mat.of_heap (h:Mat B w v t)(e:w'.heap=w.heap):Mat B w' v t:=by
 rcases h with h|⟨b,off,cap,A,C,h1,h2,h3,h4⟩
 ·exact .inl h
 exact .inr ⟨b,off,cap,A,C,h1,h2,h3,h4.of_heap e⟩
theorem Mat.some_ (h:Mat B w v t)(hx:0<t.length):∃b off cap A C,v=.slice (some ⟨b,off,none⟩) t.length cap/\t.length<=cap/\cap<=maxLen/\MatAt B w t b off A C:=by
 rcases h with ⟨_,_,_,rfl⟩|h
 ·simp at hx
 exact h
theorem Mat.shape (h:Mat B w v t):∃a cap,v=.slice a t.length cap:=by
 rcases h with ⟨a,c,rfl,rfl⟩|⟨b,off,cap,A,C,rfl,_⟩
 ·exact⟨a,c,rfl⟩
 exact⟨_,_,rfl⟩
theorem Mat.len_le (h:Mat B w v t):t.length<=maxLen:=by
 rcases h with ⟨a,c,rfl,rfl⟩|⟨b,off,cap,A,C,rfl,h1,h2,_⟩
 ·simp
 omega
end
def qYW (n:Nat)(r:List Int)(j:Nat):Prop:=∀y,y<j->0<=r.getD y 0/\r.getD y 0<n
theorem yP:ElemOk Tryz.prog 22 3 (.int .i64 0) 8:=⟨Tryz.underlying22,by kernel_rfl,rfl⟩
theorem xL:ElemOk Tryz.prog 27 4 (.bool false) 1:=⟨Tryz.underlying27,by kernel_rfl,rfl⟩
theorem vX:ElemOk Tryz.prog 28 22 (.slice none 0 0) 24:=⟨Tryz.underlying28,by kernel_rfl,rfl⟩
theorem mU {z:Value}(hz:z.cells=#[z]):∀(n:Nat),(madeCells z.cells (n*1)).toList=List.replicate n z:=by
 intro n;rw[Nat.mul_one,hz];apply List.ext_getElem
 ·simp[madeCells]
 intro i h1 h2;simp[madeCells,Nat.mod_one]
theorem kW {P:Program}{w:World}{ops:Array Oper}{a9:List Oper}{o:Oper}{a:Act}{Q:Exit->Act->World->Prop}(a8:o.guard=none)(l c:Operand)(t:TypeId)(ho:o.op=.makeSlice t l c){e:TypeId}{z:Value}{bytes:Nat}(E:ElemOk P t e z bytes)(hz:z.cells=#[z])(kl kc:IntKind)(L C:Int)(n:Nat)(hl:a.eval l=.int kl L)(hc:a.eval c=.int kc C)(hL:L=(n:Int))(hC:C=(n:Int))(hb:bytes*n<=281474976710656)(a7:n<=maxLen)(h:∀w',Arr w' w.heap.size e (List.replicate n z)->w.grownBy w' none->w.heap.size<w'.heap.size->wpList P ops Q a9 (a.put o.dst (.slice (some ⟨w.heap.size,0,none⟩) n n)) w'):wpList P ops Q (o::a9) a w:=by
 obtain⟨i,hi,h1,h2,h3⟩:=info_parts E.hi;refine wpList_make_full w a8 l c t ho w.heap.size e i z 1 E.ht hi h1 h2 kl kc L C n hl hc hL hC (by rw[h3];exact hb) a7 (Nat.le_refl _) ?_;intro w' h0 hg;have ha:=Arr.of_owns h0;rw[mU hz]at ha;exact h w' ha hg ha.lt
theorem yU {w:World}{base base' e size:Nat}{v:Value}{n:Nat}{xs:List Value}(h:w.ownsRow base e size v n xs)(hb:base'<=base):w.ownsRow base' e size v n xs:=by
 refine⟨h.1,?_⟩;rcases h.2 with h2|⟨g,cap,cur,h1,h2,h3⟩
 ·exact .inl h2
 exact .inr ⟨g,cap,cur,h1,Nat.le_trans hb h2,h3⟩
theorem yH {w:World}{base e n sc:Nat}{sa:Option Addr}{xs:List Value}(h:w.ownsRow base e 1 (.slice sa n sc) n xs)(hn:0<n):∃kb,sa=some ⟨kb,0,none⟩/\n<=sc/\sc<=maxLen/\Arr w kb e xs:=by
 rcases h.2 with ⟨h',h0⟩|⟨g,cap,cur,h1,hb,hg,hnc,hcm,_⟩
 ·omega
 simp only[Value.slice.injEq]at h1;obtain⟨rfl,-,rfl⟩:=h1;exact⟨g,rfl,hnc,hcm,Arr.of_owns h⟩
def pG (w w':World)(v v':Value):Prop:=v'.ownBlock=v.ownBlock\/(w.grownBy w' none/\∀k,v'.ownBlock=some k->w.heap.size<=k)
theorem qGF {P:Program}{w:World}{ops:Array Oper}{a7:List Oper}{o:Oper}{a:Act}{Q:Exit->Act->World->Prop}(a6:o.guard=none)(s x:Operand)(t:TypeId)(ho:o.op=.call { callee:=.builtin .append,args:=#[s,x],argTypes:=#[t,t] }){e:TypeId}{z:Value}{bytes:Nat}(E:ElemOk P t e z bytes)(base:Nat)(v:Value)(n:Nat)(xs:List Value)(hs:a.eval s=v)(a9:w.ownsRow base e 1 v n xs)(u:Value)(hx:a.eval x=.slice (some ⟨w.heap.size,0,none⟩) 1 1)(h1:u.oneCell'=true)(a4:n+1<=maxLen)(a8:(n+1)*bytes<=140737488355328)(a5:base<=w.heap.size)(h:∀sa sc w',w'.ownsRow base e 1 (.slice sa (n+1) sc) (n+1) (xs++[u])->w.grownBy w' v.ownBlock->w.heap.size<w'.heap.size->pG w w' v (.slice sa (n+1) sc)->wpList P ops Q a7 (a.put o.dst (.slice sa (n+1) sc)) w'):wpList P ops Q (o::a7) a (w.alloc (.cells #[u] e)):=by
 obtain⟨i,hi,hz,h6,h9⟩:=info_parts E.hi
 have h0:∀j u',[u][j]?=some u'->(w.alloc (.cells #[u] e)).cell? ((⟨w.heap.size,0,none⟩:Addr).add j)=some u':=by
  intro j u' hj
  match j,hj with
  | 0,hj=>simp at hj;subst hj;simp[Addr.add]
 have h5:∀u'∈[u],u'.oneCell'=true:=by intro u' hu;simp at hu;subst hu;exact h1
 have hA:=Ga w (.cells #[u] e) none
 have fin:∀v' w',w'.ownsRow base e 1 v' (n+1) (xs++[u])->(w.alloc (.cells #[u] e)).grownBy w' v.ownBlock->(v'.ownBlock=v.ownBlock\/((w.alloc (.cells #[u] e)).grownBy w' none/\∀k,v'.ownBlock=some k->w.heap.size<=k))->wpList P ops Q a7 (a.put o.dst v') w':=by
  intro v' w' h1 h2 h3;obtain⟨sa,sc,rfl⟩:=rD h1;refine h sa sc w' h1 ?_ (by have:=h2.size;simp at this;omega) ?_
  ·exact⟨h2.os,h2.tape,h2.output,by have:=h2.size;simp at this;omega,fun k hk hne=>(h2.block k (by simp;omega) hne).trans (Below.heap_alloc w _ k hk)⟩
  rcases h3 with h3|⟨h3,h4⟩
  ·exact .inl h3
  exact .inr ⟨zC hA h3,h4⟩
 rcases a9.2 with ⟨rfl,rfl⟩|⟨g,cap,cur,rfl,hb,hg,hnc,hcm,hcs,htake⟩
 ·have hl:xs=[]:=List.eq_nil_of_length_eq_zero (by have:=a9.1;omega)
  subst hl;refine wpList_append_grows _ a6 s x t ho e i z 1 bytes E.ht hi hz h6 h9 E.hz (by decide) none 0 0 [] hs (fun _=>⟨rfl,rfl⟩) rfl (fun b hb=>by cases hb) ⟨w.heap.size,0,none⟩ 1 1 [u] hx rfl h0 h5 (by omega) a4 a8 ?_;intro v' w' h1 h2;exact fin v' w' (yU h1 (by simp;omega)) (wP h2) (.inr ⟨h2,fun k hk=>by have:=(h1.lt k hk).1;simp at this;omega⟩)
 by_cases hroom:n+1<=cap
 ·refine wpList_append_fits _ a6 s x t ho base e i 1 E.ht hi h6 g n cap xs hs (a9.alloc _) ⟨w.heap.size,0,none⟩ 1 1 [u] hx rfl h0 h5 hroom ?_
  intro w' h1 h2;exact fin _ w' h1 h2 (.inl rfl)
 refine wpList_append_grows _ a6 s x t ho e i z 1 bytes E.ht hi hz h6 h9 E.hz (by decide) (some ⟨g,0,none⟩) n cap xs hs (fun h=>by cases h) a9.1 (fun b hb j u' hj=>?_) ⟨w.heap.size,0,none⟩ 1 1 [u] hx rfl h0 h5 (by omega) a4 a8 ?_
 ·simp at hb
  subst hb
  have h8:j<xs.length:=by
   rcases Nat.lt_or_ge j xs.length with h|h
   ·exact h
   rw[List.getElem?_eq_none h]at hj;cases hj
  have:=(Arr.of_owns (a9.alloc (.cells #[u] e))).cell j h8;rw[List.getElem?_eq_getElem h8]at hj;have h7:(⟨g,0,none⟩:Addr).add j=⟨g,j,none⟩:=by unfold Addr.add;split<;>simp_all
  rw[h7,this];exact hj
 intro v' w' h1 h2;exact fin v' w' (yU h1 (by simp;omega)) (wP h2) (.inr ⟨h2,fun k hk=>by have:=(h1.lt k hk).1;simp at this;omega⟩)
def bls (bs:List Bool):List Value:=bs.map Value.bool
def nats (l:List Nat):List Value:=l.map fun(x:Nat)=>Value.int .i64 (x:Int)
theorem yV (bs:List Bool):(bls bs).length=bs.length:=by simp[bls]
theorem zV (l:List Nat):(nats l).length=l.length:=by simp[nats]
theorem Arr.bool {w:World}{g:Nat}{e:TypeId}{bs:List Bool}(h:Arr w g e (bls bs))(i:Nat)(hi:i<bs.length):w.cell? ⟨g,i,none⟩=some (.bool (bs.getD i false)):=by
 rw[h.cell i (by rw[yV];exact hi)];simp[bls,List.getD,List.getElem?_eq_getElem hi]
theorem Arr.int {w:World}{g:Nat}{e:TypeId}{zs:List Int}(h:Arr w g e (ints zs))(i:Nat)(hi:i<zs.length):w.cell? ⟨g,i,none⟩=some (.int .i64 (zs.getD i 0)):=by
 rw[h.cell i (by rw[yF];exact hi)];simp[ints,List.getD,List.getElem?_eq_getElem hi]
theorem Arr.nat {w:World}{g:Nat}{e:TypeId}{l:List Nat}(h:Arr w g e (nats l))(i:Nat)(hi:i<l.length):w.cell? ⟨g,i,none⟩=some (.int .i64 ((l.getD i 0:Nat):Int)):=by
 rw[h.cell i (by rw[zV];exact hi)];simp[nats,List.getD,List.getElem?_eq_getElem hi]
theorem uQ.nat {w:World}{b off:Nat}{l:List Nat}(h:uQ w b off (nats l))(i:Nat)(hi:i<l.length):w.cell? ⟨b,off+i,none⟩=some (.int .i64 ((l.getD i 0:Nat):Int)):=by
 rw[uQ.map h i hi];simp[List.getD,List.getElem?_eq_getElem hi]
theorem Arr.bool_set {w:World}{g:Nat}{e:TypeId}{bs:List Bool}(h:Arr w g e (bls bs))(i:Nat)(hi:i<bs.length)(c:Bool):Arr (w.setCell ⟨g,i,none⟩ (.bool c)) g e (bls (bs.set i c)):=by
 have:=h.set i (by rw[yV];exact hi) (.bool c)
 rwa [bls,List.map_set]
theorem Arr.int_set {w:World}{g:Nat}{e:TypeId}{zs:List Int}(h:Arr w g e (ints zs))(i:Nat)(hi:i<zs.length)(c:Int):Arr (w.setCell ⟨g,i,none⟩ (.int .i64 c)) g e (ints (zs.set i c)):=by
 have:=h.set i (by rw[yF];exact hi) (.int .i64 c)
 rwa [ints,List.map_set]
theorem Arr.nat_set {w:World}{g:Nat}{e:TypeId}{l:List Nat}(h:Arr w g e (nats l))(i:Nat)(hi:i<l.length)(c:Nat):Arr (w.setCell ⟨g,i,none⟩ (.int .i64 (c:Int))) g e (nats (l.set i c)):=by
 have:=h.set i (by rw[zV];exact hi) (.int .i64 (c:Int))
 rwa [nats,List.map_set]
theorem nQ (n:Nat)(c:Bool):bls (List.replicate n c)=List.replicate n (.bool c):=by simp[bls]
theorem xJ (n:Nat):nats (List.replicate n 0)=List.replicate n (.int .i64 0):=by simp[nats]
theorem oB (n:Nat):ints (List.replicate n 0)=List.replicate n (.int .i64 0):=by simp[ints]
theorem uE (l:List Nat)(x:Nat):nats (l++[x])=nats l++[.int .i64 (x:Int)]:=by simp[nats]
theorem pM (l:List Nat):nats l=ints (l.map fun(x:Nat)=>(x:Int)):=by simp[nats,ints]
theorem dX {α:Type}(l:List α)(i:Nat)(c d:α)(hi:i<l.length):(l.set i c).getD i d=c:=by simp[List.getD,hi]
theorem getD_set_ne {α:Type}(l:List α)(i j:Nat)(c d:α)(a9:i≠j):(l.set i c).getD j d=l.getD j d:=by simp[List.getD,List.getElem?_set_ne a9]
theorem zT {α:Type}{l:List α}{k:Nat}{d:α}(h:k<l.length):l.take (k+1)=l.take k++[l.getD k d]:=by
 rw[List.take_succ_eq_append_getElem h];simp[List.getD,List.getElem?_eq_getElem h]
theorem rL (w:World)(c1 c2:Array Value)(e:Nat):((w.alloc (.cells c1 e)).alloc (.cells c2 e)).heap[w.heap.size]?=some (.cells c1 e (0,0))/\((w.alloc (.cells c1 e)).alloc (.cells c2 e)).heap[w.heap.size+1]?=some (.cells c2 e (0,0))/\w.grownBy ((w.alloc (.cells c1 e)).alloc (.cells c2 e)) none/\((w.alloc (.cells c1 e)).alloc (.cells c2 e)).heap.size=w.heap.size+2:=by
 refine⟨zB (heap_alloc_new w _) (Ga _ _ none),?_,vC (Ga w _ none) _,by rw[zL,zL]⟩;have:=heap_alloc_new (w.alloc (.cells c1 e)) (.cells c2 e);rw[zL]at this;exact this
theorem iY {P:Program}{w:World}(base:Nat)(t ty e:TypeId)(i:TypeInfo)(size:Nat)(ht:P.underlying t=some (.slice e))(hi:P.info? e=some i)(v:Value)(n:Nat)(xs:List Value)(a9:w.ownsRow base e size v n xs)(c:Nat):(Builtin.append_ #[t,t] ty #[v,.slice none 0 c]).run P w=.ok v w:=by
 rcases a9.2 with ⟨rfl,rfl⟩|⟨g,cap,cur,rfl,_,_,hnc,_⟩
 ·simp[Builtin.append_,run_underlying ht,sizeOf,typeInfo,hi,Builtin.lenOf,Builtin.firstCells]
 simp[Builtin.append_,run_underlying ht,sizeOf,typeInfo,hi,Builtin.lenOf,Builtin.firstCells,hnc,storeCells]
theorem pJ {w:World}{base e size n:Nat}{v:Value}{xs:List Value}(h:w.ownsRow base e size v n xs):∃sa sc,v=.slice sa n sc:=by
 rcases h.2 with ⟨rfl,rfl⟩|⟨g,cap,cur,rfl,_⟩
 ·exact⟨none,0,rfl⟩
 exact⟨_,_,rfl⟩
theorem qON {P:Program}{w:World}{o:Oper}{a:Act}{K:Act->World->Prop}{Q:Exit->Act->World->Prop}(s x:Operand)(t:TypeId)(ho:o.op=.call { callee:=.builtin .append,args:=#[s,x],argTypes:=#[t,t] }){e:TypeId}{z:Value}{bytes:Nat}(E:ElemOk P t e z bytes)(base:Nat)(v:Value)(n:Nat)(xs:List Value)(hs:a.eval s=v)(a7:w.ownsRow base e 1 v n xs)(sv:Value)(a9:List Value)(hx:a.eval x=sv)(a5:∃B,Row B w sv a9)(h1:∀u∈a9,u.oneCell'=true)(N:Nat)(hN:n+a9.length=N)(a4:N<=maxLen)(a8:N*bytes<=140737488355328)(a6:base<=w.heap.size)(h:∀sa sc w',w'.ownsRow base e 1 (.slice sa N sc) N (xs++a9)->w.grownBy w' v.ownBlock->K (a.put o.dst (.slice sa N sc)) w'):o.wp P a w K Q:=by
 obtain⟨i,hi,hz,h4,h6⟩:=info_parts E.hi;subst hN
 have fin:∀v' w',w'.ownsRow base e 1 v' (n+a9.length) (xs++a9)->w.grownBy w' v.ownBlock->K (a.put o.dst v') w':=by
  intro v' w' h1 h2;obtain⟨sa,sc,rfl⟩:=pJ h1;exact h sa sc w' h1 h2
 obtain⟨B,a5⟩:=a5;rcases a5 with ⟨a',cap,rfl,rfl⟩|⟨b,off,cap,rfl,_,h2,h3,hra⟩
 ·cases a' with
  | none =>
   have hr:=iY (P:=P) (w:=w) base t o.type e i 1 E.ht hi v n xs a7 cap;unfold Oper.wp execOp;simp only[ho,resolve,invoke,builtin,Sem.run_bind,Sem.run_pure,Result.andThen_ok,List.map_toArray,List.map_cons,List.map_nil,hs,hx,hr];exact fin v w (by simpa using a7) (World.grownBy.refl w _)
  | some ad =>
   refine wp_append_own w s x t ho base e i z 1 bytes E.ht hi hz h4 h6 E.hz (by decide) v n xs hs a7 ad 0 cap [] hx rfl (fun j u hj=>by simp at hj) (fun u hu=>by simp at hu) a4 a8 a6 ?_;intro v' w' h1 h2 _;exact fin v' w' h1 h2
 refine wp_append_own w s x t ho base e i z 1 bytes E.ht hi hz h4 h6 E.hz (by decide) v n xs hs a7 ⟨b,off,none⟩ a9.length cap a9 hx (by simp) (fun j u' hj=>?_) h1 a4 a8 a6 ?_
 ·have h5:j<a9.length:=by
   rcases Nat.lt_or_ge j a9.length with h|h
   ·exact h
   ·rw[List.getElem?_eq_none h]at hj;cases hj
  have h0:(⟨b,off,none⟩:Addr).add j=⟨b,off+j,none⟩:=by unfold Addr.add;split<;>simp_all
  rw[List.getElem?_eq_getElem h5]at hj;rw[h0,hra.2 j h5,hj]
 intro v' w' h1 h2 _;exact fin v' w' h1 h2
theorem qDE {P:Program}{ops:Array Oper}{w:World}{o:Oper}{a:Act}{K:Act->World->Prop}{Q:Exit->Act->World->Prop}{R:Prop}(a4:o.guard=none)(s x:Operand)(t:TypeId)(ho:o.op=.call { callee:=.builtin .append,args:=#[s,x],argTypes:=#[t,t] }){e:TypeId}{z:Value}{bytes:Nat}(E:ElemOk P t e z bytes)(base:Nat)(v:Value)(n:Nat)(xs:List Value)(hs:a.eval s=v)(a5:w.ownsRow base e 1 v n xs)(sv:Value)(a9:List Value)(hx:a.eval x=sv)(a6:∃B,Row B w sv a9)(h1:∀u∈a9,u.oneCell'=true)(N:Nat)(hN:n+a9.length=N)(a3:N<=maxLen)(a8:N*bytes<=140737488355328)(a7:base<=w.heap.size)(h:∀sa sc w',w'.ownsRow base e 1 (.slice sa N sc) N (xs++a9)->w.grownBy w' v.ownBlock->K (a.put o.dst (.slice sa N sc)) w'):if Region.wanted o (yielded ops a.tmps)=true then Oper.wp P o a w K Q else R:=by
 have hw:Region.wanted o (yielded ops a.tmps)=true:=by simp[Region.wanted,a4]
 rw[if_pos hw];exact qON s x t ho E base v n xs hs a5 sv a9 hx a6 h1 N hN a3 a8 a7 h
theorem appR {P:Program}{w:World}{ops:Array Oper}{a7:List Oper}{o:Oper}{a:Act}{Q:Exit->Act->World->Prop}(a3:o.guard=none)(s x:Operand)(t:TypeId)(ho:o.op=.call { callee:=.builtin .append,args:=#[s,x],argTypes:=#[t,t] }){e:TypeId}{z:Value}{bytes:Nat}(E:ElemOk P t e z bytes)(base:Nat)(v:Value)(n:Nat)(xs:List Value)(hs:a.eval s=v)(a4:w.ownsRow base e 1 v n xs)(sv:Value)(a9:List Value)(hx:a.eval x=sv)(a5:∃B,Row B w sv a9)(h1:∀u∈a9,u.oneCell'=true)(N:Nat)(hN:n+a9.length=N)(a2:N<=maxLen)(a8:N*bytes<=140737488355328)(a6:base<=w.heap.size)(h:∀sa sc w',w'.ownsRow base e 1 (.slice sa N sc) N (xs++a9)->w.grownBy w' v.ownBlock->wpList P ops Q a7 (a.put o.dst (.slice sa N sc)) w'):wpList P ops Q (o::a7) a w :=
 wpList_plain a3 fun _ hK=>qON s x t ho E base v n xs hs a4 sv a9 hx a5 h1 N hN a2 a8 a6 fun sa sc w' h2 h3=>hK _ _ (h sa sc w' h2 h3)
theorem qR {W:World}{e base g:Nat}(h:W.heap[g]?=some (.cells #[] e (0,0)))(hb:base<=g):W.ownsRow base e 1 (.slice (some ⟨g,0,none⟩) 0 0) 0 [] :=
 ⟨by simp,.inr ⟨g,0,#[],rfl,hb,h,Nat.le_refl _,Nat.zero_le _,by simp,by simp⟩⟩
theorem oO (w:World)(o o':Obj):((w.alloc o).alloc o').heap[w.heap.size]?=some o:=zB (heap_alloc_new w o) (Ga _ _ none)
theorem oL (w:World)(o o':Obj):((w.alloc o).alloc o').heap[w.heap.size+1]?=some o':=by
 have:=heap_alloc_new (w.alloc o) o'
 rwa [zL]at this
theorem uQ.take {w:World}{b off:Nat}{xs:List Value}(h:uQ w b off xs)(k:Nat):uQ w b off (xs.take k) :=
 ⟨h.1,fun i hi=>by rw[List.length_take]at hi;rw[h.2 i (by omega),List.getElem_take]⟩
theorem uQ.drop {w:World}{b off:Nat}{xs:List Value}(h:uQ w b off xs)(k:Nat):uQ w b (off+k) (xs.drop k) :=
 ⟨h.1,fun i hi=>by rw[List.length_drop]at hi;rw[Nat.add_assoc,h.2 (k+i) (by omega),List.getElem_drop]⟩
def RowT (B:Nat)(e:TypeId)(w:World)(v:Value)(xs:List Value):Prop :=
 (v=.slice none 0 0/\xs=[])\/∃b off cap cur m,v=.slice (some ⟨b,off,none⟩) xs.length cap/\b<B/\xs.length<=cap/\cap<=maxLen/\w.heap[b]?=some (.cells cur e m)/\∀i (h:i<xs.length),cur[off+i]?=some xs[i]
theorem RowT.row {B:Nat}{e:TypeId}{w:World}{v:Value}{xs:List Value}(h:RowT B e w v xs):Row B w v xs:=by
 rcases h with h|⟨b,off,cap,cur,m,h1,h2,h3,h4,h5,h6⟩
 ·exact .inl ⟨_,_,h⟩
 exact .inr ⟨b,off,cap,h1,h2,h3,h4,zM h5,fun i hi=>by rw[cell_of_row w b (off+i) _ _ _ h5];exact h6 i hi⟩
theorem RowT.mono {B B':Nat}{e:TypeId}{w:World}{v:Value}{xs:List Value}(h:RowT B e w v xs)(hB:B<=B'):RowT B' e w v xs:=by
 rcases h with h|⟨b,off,cap,cur,m,h1,h2,h3⟩
 ·exact .inl h
 exact .inr ⟨b,off,cap,cur,m,h1,by omega,h3⟩
def yC (w:World)(e:TypeId)(k:Nat):Prop:=∃cur e' m,w.heap[k]?=some (.cells cur e' m)/\e'≠e
theorem RowT.kept {B:Nat}{e:TypeId}{w w':World}{v:Value}{xs:List Value}{row:Option Nat}(h:RowT B e w v xs)(hg:w.grownBy w' row)(hr:∀k,row=some k->B<=k\/yC w e k):RowT B e w' v xs:=by
 rcases h with h|⟨b,off,cap,cur,m,h1,h2,h3,h4,h5,h6⟩
 ·exact .inl h
 refine .inr ⟨b,off,cap,cur,m,h1,h2,h3,h4,zB h5 hg (fun eq=>?_),h6⟩;rcases hr b eq with hk|⟨cur',e',m',hk,hne⟩
 ·omega
 rw[h5]at hk;simp at hk;exact hne hk.2.1.symm
theorem RowT.of_heap {B:Nat}{e:TypeId}{w w':World}{v:Value}{xs:List Value}(h:RowT B e w v xs)(he:w'.heap=w.heap):RowT B e w' v xs:=by
 rcases h with h|⟨b,off,cap,cur,m,h1,h2,h3,h4,h5,h6⟩
 ·exact .inl h
 exact .inr ⟨b,off,cap,cur,m,h1,h2,h3,h4,by rw[he];exact h5,h6⟩
theorem RowT.of_owns {w:World}{base e:Nat}{v:Value}{n:Nat}{xs:List Value}(h:w.ownsRow base e 1 v n xs):RowT w.heap.size e w v xs:=by
 have hl:xs.length=n:=by have:=h.1;omega
 rcases h.2 with ⟨rfl,rfl⟩|⟨g,cap,cur,rfl,hb,hg,hnc,hcm,hcs,htake⟩
 ·exact .inl ⟨rfl,List.eq_nil_of_length_eq_zero hl⟩
 refine .inr ⟨g,0,cap,cur,(0,0),by rw[hl],zM hg,by omega,hcm,hg,fun i hi=>?_⟩;have:=h.cellAt i (by omega);rw[cell_of_row w g i _ _ _ hg]at this;rw[Nat.zero_add,this,List.getElem?_eq_getElem hi]
theorem zZ {w:World}{base e e' size:Nat}{v:Value}{n:Nat}{xs:List Value}(h:w.ownsRow base e size v n xs)(a9:e≠e'):∀k,v.ownBlock=some k->yC w e' k:=by
 intro k hk;rcases h.2 with ⟨rfl,_⟩|⟨g,cap,cur,rfl,_,hg,_⟩
 ·simp[Value.ownBlock]at hk
 simp[Value.ownBlock]at hk;subst hk;exact⟨cur,e,(0,0),hg,a9⟩
def wO {α:Type}(B:Nat)(e:TypeId)(f:α->List Value)(w:World)(svs:List Value)(ps:List α):Prop :=
 svs.length=ps.length/\∀i (h:i<svs.length) (h':i<ps.length),RowT B e w svs[i] (f ps[i])
section
variable {α:Type} {B:Nat} {e:TypeId} {f:α->List Value} {w:World} {svs:List Value} {ps:List α}
theorem wO.nil:wO B e f w [] []:=⟨rfl,fun i h=>by simp at h⟩
theorem wO.kept {w':World}{row:Option Nat}(h:wO B e f w svs ps)(hg:w.grownBy w' row)(hr:∀k,row=some k->B<=k\/yC w e k):wO B e f w' svs ps :=
 ⟨h.1,fun i h1 h2=>(h.2 i h1 h2).kept hg hr⟩
theorem wO.mono {B':Nat}(h:wO B e f w svs ps)(hB:B<=B'):wO B' e f w svs ps:=⟨h.1,fun i h1 h2=>(h.2 i h1 h2).mono hB⟩
theorem wO.snoc {sv:Value}{p:α}(h:wO B e f w svs ps)(hs:RowT B e w sv (f p)):wO B e f w (svs++[sv]) (ps++[p]):=by
 refine⟨by simp[h.1],fun i h1 h2=>?_⟩;by_cases hi:i<svs.length
 ·rw[List.getElem_append_left hi,List.getElem_append_left (by rw[<-h.1];exact hi)]
  exact h.2 i hi _
 have:i=svs.length:=by simp at h1;omega
 subst this;rw[List.getElem_append_right (Nat.le_refl _),List.getElem_append_right (by rw[h.1];exact Nat.le_refl _)];simpa [h.1] using hs
end
theorem mI {P:Program}{W:World}{g:Nat}{c:Int}(src e:TypeId)(hs:P.underlying src=some (.slice e))(he:P.underlying e=some (.int .u8))(a9:TypeId)(hd:P.underlying a9=some .string)(h:W.cell? ⟨g,0,none⟩=some (.int .u8 c)):(convert src a9 (.slice (some ⟨g,0,none⟩) 1 1)).run P W=.ok (.string (strOfNums [c])) W:=by
 refine run_convert_bytes_arg W src e hs he g 0 1 1 [c] rfl (fun i hi=>?_) a9 hd;have:i=0:=by simp at hi;omega
 subst this;simpa using h
structure ElemN (P:Program)(t e:TypeId)(sz:Nat)(z:Value)(bytes:Nat):Prop where
 ht:P.underlying t=some (.slice e)
 hi:(P.info? e).map (fun i=>(i.zero,i.size,i.bytes))=some (some z,sz,bytes)
 hz:z.cells.size=sz
 pos:0<sz
theorem ElemOk.toN {P:Program}{t e:TypeId}{z:Value}{bytes:Nat}(E:ElemOk P t e z bytes):ElemN P t e 1 z bytes:=⟨E.ht,E.hi,E.hz,by decide⟩
theorem nW {P:Program}{w:World}(base:Nat)(t ty:TypeId){e:TypeId}{z:Value}{bytes:Nat}(E:ElemOk P t e z bytes)(v:Value)(n:Nat)(xs:List Value)(a8:w.ownsRow base e 1 v n xs)(g c:Nat)(u:Value)(hu:w.cell? ⟨g,0,none⟩=some u)(h1:u.oneCell'=true)(a6:n+1<=maxLen)(a9:(n+1)*bytes<=140737488355328)(a7:base<=w.heap.size):∃v' w',(Builtin.append_ #[t,t] ty #[v,.slice (some ⟨g,0,none⟩) 1 c]).run P w=.ok v' w'/\w'.ownsRow base e 1 v' (n+1) (xs++[u])/\w.grownBy w' v.ownBlock/\pG w w' v v':=by
 obtain⟨i,hi,hz,h5,H0⟩:=info_parts E.hi
 have h0:∀j u',[u][j]?=some u'->w.cell? ((⟨g,0,none⟩:Addr).add j)=some u':=by
  intro j u' hj
  match j,hj with
  | 0,hj=>simp at hj;subst hj;simpa [Addr.add] using hu
 have h7:∀u'∈[u],u'.oneCell'=true:=by intro u' hu;simp at hu;subst hu;exact h1
 obtain⟨v',w',hr,h2,h3,h4⟩:=run_append_own (P:=P) w base t ty e i z 1 bytes E.ht hi hz h5 H0 E.hz (by decide) v n xs a8 ⟨g,0,none⟩ 1 c [u] rfl h0 h7 a6 a9 a7;refine⟨v',w',hr,h2,h3,?_⟩;have h9:n+1<=9223372036854775807:=by simp only[maxLen]at a6;omega
 rcases a8.2 with ⟨rfl,rfl⟩|⟨b,cap,cur,rfl,hb,hg,hnc,hcm,hcs,htake⟩
 ·have h6:=run_append_nil (P:=P) w t ty e i z E.ht hi hz ⟨g,0,none⟩ 1 c [u] (by simp[h5]) h0 (by omega) (by omega) (by rw[H0];simp at a9;omega)
  rw[h6]at hr;injection hr with e1 e2;subst e1;subst e2;refine .inr ⟨wS (Ga w _ none) rfl rfl rfl rfl,fun k hk=>?_⟩;have:w.heap.size=k:=by simpa [Value.ownBlock] using hk
  omega
 by_cases hroom:n+1<=cap
 ·obtain⟨w2,h6,_⟩:=run_append_fits (P:=P) w base t ty e i 1 E.ht hi h5 b n cap xs a8 ⟨g,0,none⟩ 1 c [u] rfl h0 h7 hroom
  rw[h6]at hr;injection hr with e1 e2;subst e1;exact .inl rfl
 have h8:∀j u,xs[j]?=some u->w.cell? ((⟨b,0,none⟩:Addr).add j)=some u:=a8.cells (g:=b) rfl;have H1:xs.length=n*i.size:=by rw[h5];exact a8.1
 have h6:=run_append_grow (P:=P) w t ty e i z E.ht hi hz ⟨b,0,none⟩ n cap xs H1 h8 ⟨g,0,none⟩ 1 c [u] (by simp[h5]) h0 (by omega) (by omega) (growslice_fits (by omega) (by rw[H0];exact a9));rw[h6]at hr;injection hr with e1 e2;subst e1;subst e2;refine .inr ⟨wS (Ga w _ none) rfl rfl rfl rfl,fun k hk=>?_⟩;have:w.heap.size=k:=by simpa [Value.ownBlock] using hk
 omega
structure RowS where
 base:Nat
 e:TypeId
 v:Value
 n:Nat
 xs:List Value
 sz:Nat
structure GrownBut (w w':World)(F:Nat->Prop):Prop where
 os:w'.os=w.os
 tape:w'.tape=w.tape
 output:w'.output=w.output
 size:w.heap.size<=w'.heap.size
 block:∀k,k<w.heap.size->¬F k->w'.heap[k]?=w.heap[k]?
theorem GrownBut.refl (w:World)(F:Nat->Prop):GrownBut w w F:=⟨rfl,rfl,rfl,Nat.le_refl _,fun _ _ _=>rfl⟩
theorem GrownBut.step {w w' a9:World}{F:Nat->Prop}{row:Option Nat}(h:GrownBut w w' F)(hg:w'.grownBy a9 row)(hr:∀k,row=some k->F k\/w.heap.size<=k):GrownBut w a9 F :=
 ⟨hg.os.trans h.os,hg.tape.trans h.tape,hg.output.trans h.output,Nat.le_trans h.size hg.size,fun k hk hf=>by
  refine(hg.block k (Nat.lt_of_lt_of_le hk h.size) fun e=>?_).trans (h.block k hk hf)
  rcases hr k e.symm with h|h
  ·exact hf h
  ·omega⟩
theorem GrownBut.grown {w0 w w':World}{F:Nat->Prop}{row:Option Nat}(h:GrownBut w w' F)(h0:w0.grownBy w row)(hF:∀k,F k->row=some k\/w0.heap.size<=k):w0.grownBy w' row :=
 ⟨h.os.trans h0.os,h.tape.trans h0.tape,h.output.trans h0.output,Nat.le_trans h0.size h.size,fun k hk hne=>by
  refine(h.block k (Nat.lt_of_lt_of_le hk h0.size) fun hf=>?_).trans (h0.block k hk hne)
  rcases hF k hf with e|e
  ·exact hne e.symm
  ·omega⟩
theorem GrownBut.cell {w w':World}{F:Nat->Prop}(h:GrownBut w w' F){p:Addr}{u:Value}(hc:w.cell? p=some u)(hf:¬F p.block):w'.cell? p=some u :=
 (World.cell?_of_block (h.block p.block (World.block_lt_of_cell? w p hc) hf)).trans hc
theorem GrownBut.heap {w w':World}{F:Nat->Prop}(h:GrownBut w w' F){p:Nat}{o:Obj}(hc:w.heap[p]?=some o)(hf:¬F p):w'.heap[p]?=some o :=
 (h.block p (zM hc) hf).trans hc
structure Many (w0:World)(F:Nat->Prop)(W:World)(rs:List RowS)(ls:List (Nat×Obj))(ps:List (Nat×TypeId×List Value)):Prop where
 own:∀(j:Nat) (r:RowS),rs[j]?=some r->W.ownsRow r.base r.e r.sz r.v r.n r.xs
 mine:∀(j:Nat) (r:RowS),rs[j]?=some r->∀k,r.v.ownBlock=some k->F k\/w0.heap.size<=k
 apart:∀(i j:Nat) (r s:RowS),i≠j->rs[i]?=some r->rs[j]?=some s->∀k,r.v.ownBlock=some k->s.v.ownBlock≠some k
 lit:∀p∈ls,W.heap[p.1]?=some p.2/\(∀(j:Nat) (r:RowS),rs[j]?=some r->r.v.ownBlock≠some p.1)/\w0.heap.size<=p.1
 pre:∀p∈ps,Arr W p.1 p.2.1 p.2.2/\∀(j:Nat) (r:RowS),rs[j]?=some r->r.v.ownBlock=some p.1->p.2.2 <+: r.xs/\r.e=p.2.1/\r.sz=1
 but:GrownBut w0 W F
section
variable {w0 W:World} {F:Nat->Prop} {rs:List RowS} {ls:List (Nat×Obj)} {ps:List (Nat×TypeId×List Value)}
theorem qQQ {w:World}{base e n sz:Nat}{v:Value}{xs:List Value}(h:w.ownsRow base e sz v n xs){k:Nat}(hk:v.ownBlock=some k):k<w.heap.size:=(h.lt k hk).2
theorem zP {w w':World}{base e sz:Nat}{v:Value}{n:Nat}{xs:List Value}(h:w.ownsRow base e sz v n xs)(hg:w.grownBy w' none):w'.ownsRow base e sz v n xs:=by
 refine h.kept hg ?_;rcases hv:v.ownBlock with _|k
 ·exact .inl rfl
 exact .inr (by simp)
theorem Many.grow {W':World}(h:Many w0 F W rs ls ps)(hg:W.grownBy W' none):Many w0 F W' rs ls ps where
 own:=fun j r hr=>zP (h.own j r hr) hg
 mine:=h.mine
 apart:=h.apart
 lit:=fun p hp=>⟨zB (h.lit p hp).1 hg (by simp),(h.lit p hp).2⟩
 pre:=fun p hp=>⟨(h.pre p hp).1.kept hg (by simp),(h.pre p hp).2⟩
 but:=h.but.step hg (by simp)
theorem Many.drew (h:Many w0 F W rs ls ps):Many w0 F W.drew rs ls ps:=h.grow (zN W none)
theorem Many.alloc (h:Many w0 F W rs ls ps)(o:Obj):Many w0 F (W.alloc o) rs ((W.heap.size,o)::ls) ps where
 own:=fun j r hr=>(h.own j r hr).alloc o
 mine:=h.mine
 apart:=h.apart
 lit:=fun p hp=>by
  rcases List.mem_cons.1 hp with rfl|hp
  ·exact⟨heap_alloc_new W o,fun j r hr e=>(by have:=qQQ (h.own j r hr) e;simp only at this;omega),h.but.size⟩
  ·exact⟨zB (h.lit p hp).1 (Ga W o none) (by simp),(h.lit p hp).2⟩
 pre:=fun p hp=>⟨(h.pre p hp).1.kept (Ga W o none) (by simp),(h.pre p hp).2⟩
 but:=h.but.step (Ga W o none) (by simp)
theorem eV {α:Type}{l:List α}{j i:Nat}{x r:α}(h:(l.set j x)[i]?=some r):(i=j/\r=x/\j<l.length)\/(i≠j/\l[i]?=some r):=by
 by_cases e:i=j
 ·subst e
  left;rw[List.getElem?_set]at h;simp only[if_true]at h
  split at h
  ·exact⟨rfl,(Oj h).symm,by assumption⟩
  cases h
 exact .inr ⟨e,by rwa [List.getElem?_set_ne (Ne.symm e)]at h⟩
theorem Many.append {W':World}(h:Many w0 F W rs ls ps){j:Nat}{r:RowS}(hr:rs[j]?=some r){v':Value}{n':Nat}{us:List Value}(ho:W'.ownsRow r.base r.e r.sz v' n' (r.xs++us))(hg:W.grownBy W' r.v.ownBlock)(hm:pG W W' r.v v'):Many w0 F W' (rs.set j ⟨r.base,r.e,v',n',r.xs++us,r.sz⟩) ls ps where
 own:=fun i s hs=>by
  rcases eV hs with ⟨rfl,rfl,_⟩|⟨hne,hs⟩
  ·exact ho
  ·refine(h.own i s hs).kept hg ?_
   rcases hb:s.v.ownBlock with _|k
   ·exact .inl rfl
   ·exact .inr fun e=>h.apart i j s r hne hs hr k hb (by rw[<-e])
 mine:=fun i s hs k hk=>by
  rcases eV hs with ⟨rfl,rfl,_⟩|⟨hne,hs⟩
  ·rcases hm with hm|⟨_,hm⟩
   ·exact h.mine i r hr k (hm ▸ hk)
   ·have:=hm k hk
    have:=h.but.size
    exact .inr (by omega)
  ·exact h.mine i s hs k hk
 apart:=fun i i' s s' hne hs hs' k hk=>by
  rcases eV hs with ⟨rfl,rfl,_⟩|⟨h1,hs2⟩
  ·rcases eV hs' with ⟨rfl,_,_⟩|⟨h2,hs'⟩
   ·exact absurd rfl hne
   ·rcases hm with hm|⟨_,hm⟩
    ·exact h.apart i i' r s' hne hr hs' k (hm ▸ hk)
    ·intro e
     have h3:=hm k hk
     have h4:=qQQ (h.own i' s' hs') e
     omega
  ·rcases eV hs' with ⟨rfl,rfl,_⟩|⟨h2,hs'⟩
   ·rcases hm with hm|⟨_,hm⟩
    ·exact fun e=>h.apart i i' s r hne hs2 hr k hk (by rw[<-hm];exact e)
    ·intro e
     have h3:=hm k e
     have h4:=qQQ (h.own i s hs2) hk
     omega
   ·exact h.apart i i' s s' hne hs2 hs' k hk
 lit:=fun p hp=>by
  obtain⟨h1,h2,hlow⟩:=h.lit p hp
  refine⟨zB h1 hg (h2 j r hr),fun i s hs e=>?_,hlow⟩
  rcases eV hs with ⟨rfl,rfl,_⟩|⟨hne,hs⟩
  ·rcases hm with hm|⟨_,hm⟩
   ·exact h2 i r hr (hm ▸ e)
   ·have h3:=hm _ e
    have h4:=zM h1
    omega
  ·exact h2 i s hs e
 pre:=fun p hp=>by
  obtain⟨h1,h2⟩:=h.pre p hp
  have harr:Arr W' p.1 p.2.1 p.2.2:=by
   by_cases e:r.v.ownBlock=some p.1
   ·rcases hm with hm|⟨hm,_⟩
    ·obtain⟨h3,h4,h5⟩:=h2 j r hr e
     rw[h5]at ho;rcases ho.2 with ⟨hv,_⟩|⟨g,cap,cur,hv,_⟩
     ·rw[hv]at hm;rw[e]at hm;simp[Value.ownBlock]at hm
     ·subst hv
      have h0:g=p.1:=by rw[e]at hm;simpa [Value.ownBlock] using hm
      subst h0;have ha:=Arr.of_owns ho;rw[h4]at ha;obtain⟨q,hq⟩:=h3;rw[<-hq,List.append_assoc]at ha;exact ha.front
    ·exact h1.kept hm (by simp)
   ·exact h1.kept hg e
  refine⟨harr,fun i s hs e=>?_⟩;rcases eV hs with ⟨rfl,rfl,_⟩|⟨hne,hs⟩
  ·rcases hm with hm|⟨_,hm⟩
   ·obtain⟨h3,h4,h5⟩:=h2 i r hr (hm ▸ e)
    exact⟨h3.trans (List.prefix_append _ _),h4,h5⟩
   ·have h3:=hm _ e
    have h4:=h1.lt;omega
  ·exact h2 i s hs e
 but:=h.but.step hg (h.mine j r hr)
theorem Many.litcell (h:Many w0 F W rs ls ps){g e:Nat}{u:Value}{m:Nat×Nat}(hl:(g,Obj.cells #[u] e m)∈ls):W.cell? ⟨g,0,none⟩=some u:=by
 simpa using zJ (h.lit _ hl).1 0 (by simp)
theorem Many.precell (h:Many w0 F W rs ls ps){g e:Nat}{xs:List Value}(hp:(g,e,xs)∈ps)(i:Nat)(hi:i<xs.length):W.cell? ⟨g,i,none⟩=some xs[i]:=(h.pre _ hp).1.cell i hi
theorem uS {P : Program}{W : World}{ops : Array Oper}{o : Oper}{a : Act}{K : Act → World → Prop}{Q : Exit → Act → World → Prop}{R : Prop}(a9 : o.guard = none)(s x : Operand)(t : TypeId)(ho : o.op = .call { callee := .builtin .append, args := #[s, x], argTypes := #[t, t] }){e : TypeId}{z : Value}{bytes : Nat}(E : ElemOk P t e z bytes)(j : Nat)(g c : Nat)(hx : a.eval x = .slice (some ⟨g, 0, none⟩) 1 c)(h : ∃ (w0 : World) (F : Nat → Prop) (rs : List RowS) (ls : List (Nat × Obj)) (ps : List (Nat × TypeId × List Value)), Many w0 F W rs ls ps ∧
   ∃ r : RowS, rs[j]? = some r ∧ r.e = e ∧ r.sz = 1 ∧ a.eval s = r.v ∧ r.n + 1 ≤ maxLen ∧ (r.n + 1) * bytes ≤ 140737488355328 ∧ r.base ≤ w0.heap.size ∧
   ∃ (u : Value) (g' : Nat) (m : Nat × Nat), (g', Obj.cells #[u] e m) ∈ ls ∧ g' = g ∧ u.oneCell' = true ∧
   ∀ sa sc w', Many w0 F w' (rs.set j ⟨r.base, r.e, .slice sa (r.n + 1) sc, r.n + 1, r.xs ++ [u], r.sz⟩) ls ps → K (a.put o.dst (.slice sa (r.n + 1) sc)) w'): if Region.wanted o (yielded ops a.tmps) = true then Oper.wp P o a W K Q else R := by
 obtain ⟨w0, F, rs, ls, ps, h, r, hr, rfl, hsz, hs, h63, hbytes, hbase, u, g', m, hl, rfl, h1, hK⟩ := h
 have hw : Region.wanted o (yielded ops a.tmps) = true := by simp [Region.wanted, a9]
 rw [if_pos hw]
 have hu : W.cell? ⟨g', 0, none⟩ = some u := by simpa using zJ (h.lit _ hl).1 0 (by simp)
 obtain ⟨v', w', hrun, h2, h3, h4⟩ := nW (P := P) r.base t o.type E r.v r.n r.xs (by have := h.own j r hr; rwa [hsz] at this) g' c u hu h1 h63 hbytes (Nat.le_trans hbase h.but.size)
 obtain ⟨sa, sc, rfl⟩ := rD h2
 unfold Oper.wp execOp
 simp only [ho, resolve, invoke, builtin, Sem.run_bind, Sem.run_pure, Result.andThen_ok, List.map_toArray, List.map_cons, List.map_nil, hs, hx, hrun]
 exact hK sa sc w' (h.append hr (by rw [hsz]; exact h2) h3 h4)
end
theorem Many.two {w:World}{r s:RowS}(hr:w.ownsRow r.base r.e r.sz r.v r.n r.xs)(hs:w.ownsRow s.base s.e s.sz s.v s.n s.xs)(a9:∀k,r.v.ownBlock=some k->s.v.ownBlock≠some k):
  Many w (fun k=>r.v.ownBlock=some k\/s.v.ownBlock=some k) w [r,s] [] [] where
 own:=fun j x hx=>by
  match j,hx with
  | 0,hx=>simp at hx;subst hx;exact hr
  | 1,hx=>simp at hx;subst hx;exact hs
 mine:=fun j x hx k hk=>by
  match j,hx with
  | 0,hx=>simp at hx;subst hx;exact .inl (.inl hk)
  | 1,hx=>simp at hx;subst hx;exact .inl (.inr hk)
 apart:=fun i j x y hij hx hy k hk=>by
  match i,j,hij,hx,hy with
  | 0,1,_,hx,hy=>simp at hx hy;subst hx;subst hy;exact a9 k hk
  | 1,0,_,hx,hy=>simp at hx hy;subst hx;subst hy;exact fun e=>a9 k e hk
  | 0,0,h,_,_=>exact absurd rfl h
  | 1,1,h,_,_=>exact absurd rfl h
 lit:=fun p hp=>by simp at hp
 pre:=fun p hp=>by simp at hp
 but:=GrownBut.refl _ _
theorem Many.see {w0 W:World}{F:Nat->Prop}{rs:List RowS}{ls:List (Nat×Obj)}{ps:List (Nat×TypeId×List Value)}(h:Many w0 F W rs ls ps){j g cap:Nat}{r:RowS}(hr:rs[j]?=some r)(hv:r.v=.slice (some ⟨g,0,none⟩) r.n cap)(hz:r.sz=1):Many w0 F W rs ls ((g,r.e,r.xs)::ps) where
 own:=h.own
 mine:=h.mine
 apart:=h.apart
 lit:=h.lit
 pre:=fun p hp=>by
  rcases List.mem_cons.1 hp with rfl|hp
  ·have ho:=h.own j r hr
   rw[hv,hz]at ho
   refine⟨Arr.of_owns ho,fun i s hs e=>?_⟩
   by_cases hij:i=j
   ·subst hij
    rw[hr]at hs
    have:=Oj hs
    subst this
    exact⟨List.prefix_refl _,rfl,hz⟩
   ·exact absurd (by rw[hv];rfl) (h.apart i j s r hij hs hr g e)
  ·exact h.pre p hp
 but:=h.but
section
variable {P:Program} {md:Region.Mode} {ops:Array Oper} {Q:Exit->Act->World->Prop}
def uA (P:Program)(md:Region.Mode)(ops:Array Oper)(Q:Exit->Act->World->Prop)(G:Array Bool->World->Prop):Nat->Array Bool->Act->World->Prop
 | 0,listed,a,w=>Region.ready md ops listed=[]/\Q .normal a w
 | fuel+1,listed,a,w =>
  (Region.ready md ops listed=[]->Q .normal a w) /\
  ∀i∈Region.ready md ops listed,wpOp P ops Q i (fun a' w'=>G (listed.setIfInBounds i true) w'/\uA P md ops Q G fuel (listed.setIfInBounds i true) a' w') a w
variable {G:Array Bool->World->Prop}
theorem bU:∀(fuel:Nat) (listed:Array Bool) (a:Act) (w:World),uA P md ops Q G fuel listed a w->wpAny P md ops Q fuel listed a w
 | 0,_,_,_,h=>h
 | fuel+1,_,_,_,h=>⟨h.1,fun i hi=>wpOp_mono (fun a' w' h'=>bU fuel _ a' w' h'.2) (h.2 i hi)⟩
theorem gQ {S:World->Prop}{U:Array Bool->Prop}{i:Nat}{oi:Oper}{v:Value}(hi:ops[i]?=some oi)(a9:∀(j:Nat) (o:Oper) cs b,ops[j]?=some o->o.op≠.select cs b)(hQ:∀c a w,Q (.panic c) (a.put oi.dst v) w->Q (.panic c) a w)(hU:∀listed j,U listed->i∈Region.ready md ops listed->j∈Region.ready md ops listed->j≠i->U (listed.setIfInBounds j true))(hG:∀listed w,U listed->G listed w->S w)(a8:∀listed w,U listed->i∈Region.ready md ops listed->G listed w->G (listed.setIfInBounds i true) w)(a7:∀listed j w,U listed->i∈Region.ready md ops listed->j∈Region.ready md ops listed->j≠i->G ((listed.setIfInBounds i true).setIfInBounds j true) w->G (listed.setIfInBounds j true) w):∀(fuel:Nat) (listed:Array Bool) (a:Act) (w:World),(∀j oj,ops[j]?=some oj->j≠i->listed.getD j true=false->(∀e∈oj.after,Region.binds md e=true->e.on≠i)->oi.apart ops oj=true)->i∈Region.ready md ops listed->U listed->YieldsIf P ops S oi v a->G listed w->uA P md ops Q G fuel (listed.setIfInBounds i true) (a.put oi.dst v) w->uA P md ops Q G (fuel+1) listed a w:=by
 intro fuel
 induction fuel with
 | zero =>
  intro listed a w _ hr hu hy hS H;refine⟨fun h=>(by rw[h]at hr;cases hr),fun j hj=>?_⟩;by_cases hji:j=i
  ·subst hji;exact hy.wpOp hi (hG _ _ hu hS) ⟨a8 _ _ hu hr hS,H⟩
  have:=ready_mono hj hji;rw[H.1]at this;cases this
 | succ fuel ih =>
  intro listed a w h4 hr hu hy hS H;refine⟨fun h=>(by rw[h]at hr;cases hr),fun j hj=>?_⟩;by_cases hji:j=i
  ·subst hji;exact hy.wpOp hi (hG _ _ hu hS) ⟨a8 _ _ hu hr hS,H⟩
  have h1:=H.2 j (ready_mono hj hji);obtain⟨h6,oj,h7,h9⟩:=mem_ready.1 hj
  have h8:∀e∈oj.after,Region.binds md e=true->e.on≠i:=fun e he hb heq=>by
   have h1:=h9 e he hb;have h0:=(mem_ready.1 hr).1;rw[heq]at h1;rcases Nat.lt_or_ge i listed.size with h'|h'
   ·simp[h']at h0 h1;rw[h0]at h1;cases h1
   simp[Array.getElem?_eq_none h']at h1
  have h2:=wpOp_putIf h7 (h4 j oj h7 hji h6 h8) (fun cs b=>a9 i oi cs b hi) (fun cs b=>a9 j oj cs b h7) hQ hy h1
  have h5:∀k ok,ops[k]?=some ok->k≠i->(listed.setIfInBounds j true).getD k true=false ->
    (∀e∈ok.after,Region.binds md e=true->e.on≠i)->oi.apart ops ok=true:=fun k ok hk hki hun hno=>by
   refine h4 k ok hk hki ?_ hno;by_cases hjk:j=k
   ·subst hjk;exact h6
   ·rw[Go.getD_set_ne true hjk]at hun;exact hun
  have H1:=hU listed j hu hr hj hji;refine wpOp_mono (fun a' w' h3=>?_) h2;have H0:=a7 listed j w' hu hr hj hji h3.2.1;refine⟨H0,ih (listed.setIfInBounds j true) a' w' h5 (ready_mono hr (Ne.symm hji)) H1 h3.1 H0 ?_⟩;rw[Array.setIfInBounds_comm _ _ hji];exact h3.2.2
def vU (s:Nat)(A B:World->Prop)(listed:Array Bool)(w:World):Prop:=A w/\(listed.getD s true=false->B w)
theorem uN {l:Array Bool}{i:Nat}:(l.setIfInBounds i true).getD i true=true:=by
 rcases Nat.lt_or_ge i l.size with h|h
 ·simp[h]
 simp[h]
theorem qDA {s j:Nat}{A B:World->Prop}{listed:Array Bool}{w:World}(h:vU s A B listed w):vU s A B (listed.setIfInBounds j true) w:=by
 refine⟨h.1,fun hs=>h.2 ?_⟩;by_cases e:j=s
 ·subst e;rw[uN]at hs;cases hs
 rwa [Go.getD_set_ne true e]at hs
theorem eI {s i j:Nat}{A B:World->Prop}{listed:Array Bool}{w:World}(a9:i≠s)(h:vU s A B ((listed.setIfInBounds i true).setIfInBounds j true) w):vU s A B (listed.setIfInBounds j true) w:=by
 refine⟨h.1,fun hs=>h.2 ?_⟩;by_cases e:j=s
 ·subst e;rw[uN]at hs;cases hs
 rw[Go.getD_set_ne true e]at hs⊢
 rwa [Go.getD_set_ne true a9]
variable {s:Nat} {A B:World->Prop}
theorem qGO {i:Nat}{oi:Oper}{v:Value}{a9:Nat}{listed:Array Bool}{a:Act}{w:World}(hi:ops[i]?=some oi)(a8:(i == s)=false)(hs:Region.noSelect ops=true)(hf:Region.free md ops listed i=true)(hr:(Region.ready md ops listed).contains i=true)(hQ:∀c a w,Q (.panic c) (a.put oi.dst v) w->Q (.panic c) a w)(hy:YieldsIf P ops A oi v a)(hG:vU s A B listed w)(h:uA P md ops Q (vU s A B) a9 (listed.setIfInBounds i true) (a.put oi.dst v) w):uA P md ops Q (vU s A B) (a9+1) listed a w :=
 gQ (S:=A) (U:=fun _=>True) hi (Region.noSelect_spec hs) hQ (fun _ _ _ _ _ _=>trivial) (fun _ _ _ h=>h.1) (fun _ _ _ _ h=>qDA h)
  (fun _ _ _ _ _ _ _ h=>eI (by simpa using a8) h) a9 listed a w (Region.free_spec hi hf) (by simpa using hr) trivial hy hG h
theorem qUH {i:Nat}{oi:Oper}{v:Value}{a9:Nat}{listed:Array Bool}{a:Act}{w:World}(hi:ops[i]?=some oi)(a7:(i == s)=false)(hw:(match ops[s]? with|some os=>os.after.any fun e=>Region.binds md e && (e.on == i)|none=>false)=true)(a8:listed.getD s true=false)(hs:Region.noSelect ops=true)(hf:Region.free md ops listed i=true)(hr:(Region.ready md ops listed).contains i=true)(hQ:∀c a w,Q (.panic c) (a.put oi.dst v) w->Q (.panic c) a w)(hy:YieldsIf P ops (fun w=>A w/\B w) oi v a)(hG:vU s A B listed w)(h:uA P md ops Q (vU s A B) a9 (listed.setIfInBounds i true) (a.put oi.dst v) w):uA P md ops Q (vU s A B) (a9+1) listed a w:=by
 refine gQ (S:=fun w=>A w/\B w) (U:=fun l=>l.getD s true=false) hi (Region.noSelect_spec hs) hQ (fun l j hu hir hj hji=>?_) (fun l w hu h=>⟨h.1,h.2 hu⟩) (fun _ _ _ _ h=>qDA h)
  (fun _ _ _ _ _ _ _ h=>eI (by simpa using a7) h) a9 listed a w (Region.free_spec hi hf) (by simpa using hr) a8 hy hG h
 by_cases e:j=s
 ·subst e
  exfalso;obtain⟨h4,oj,h3,h2⟩:=mem_ready.1 hj;rw[h3]at hw;simp only[Array.any_eq_true,Bool.and_eq_true,beq_iff_eq]at hw;obtain⟨k,hk,hb,he⟩:=hw;have h1:=h2 _ (Array.getElem_mem hk) hb;have h0:=(mem_ready.1 hir).1;rw[he]at h1;rcases Nat.lt_or_ge i l.size with h'|h'
  ·simp[h']at h0 h1;rw[h0]at h1;cases h1
  simp[Array.getElem?_eq_none h']at h1
 rw[Go.getD_set_ne true e];exact hu
theorem wE (i:Nat){oi:Oper}{v:Value}{a9:Nat}{listed:Array Bool}{a a':Act}{w:World}(hG:vU s A B listed w)(h:uA P md ops Q (vU s A B) a9 (listed.setIfInBounds i true) a' w)(hi:ops[i]?=some oi:=by rfl)(a8:(i == s)=false:=by rfl)(hs:Region.noSelect ops=true:=by kernel_rfl)(hf:Region.free md ops listed i=true:=by kernel_rfl)(hr:(Region.ready md ops listed).contains i=true:=by kernel_rfl)(hw:Region.wanted oi (yielded ops a.tmps)=true:=by rfl)(hv:∀w,A w->(execOp a.eval oi).run P w=.ok (.value v) w:=by(intro wz hz;(try dsimp only at hz);(repeat obtain⟨_,hz⟩:=hz);go_simp;(try with_reducible rfl)))(hQ:∀c a w,Q (.panic c) (a.put oi.dst v) w->Q (.panic c) a w:=by exact fun _ _ _ h=>h)(ha:a.put oi.dst v=a':=by((try simp only[Act.put,sPd,sPe,sPf,sPa,sPb,sPc]);with_reducible rfl)):
  uA P md ops Q (vU s A B) (a9+1) listed a w:=qGO hi a8 hs hf hr hQ (Or.inl ⟨hw,hv⟩) hG (by rw[ha];exact h)
theorem qOY (i:Nat){oi:Oper}{v:Value}{a9:Nat}{listed:Array Bool}{a a':Act}{w:World}(hG:vU s A B listed w)(h:uA P md ops Q (vU s A B) a9 (listed.setIfInBounds i true) a' w)(hi:ops[i]?=some oi:=by rfl)(a6:(i == s)=false:=by rfl)(a8:(match ops[s]? with|some os=>os.after.any fun e=>Region.binds md e && (e.on == i)|none=>false)=true:=by kernel_rfl)(a7:listed.getD s true=false:=by rfl)(hs:Region.noSelect ops=true:=by kernel_rfl)(hf:Region.free md ops listed i=true:=by kernel_rfl)(hr:(Region.ready md ops listed).contains i=true:=by kernel_rfl)(hw:Region.wanted oi (yielded ops a.tmps)=true:=by rfl)(hv:∀w,A w/\B w->(execOp a.eval oi).run P w=.ok (.value v) w:=by(rintro wz ⟨hy,hz⟩;(try dsimp only at hz);(try dsimp only at hy);(repeat obtain⟨_,hz⟩:=hz);(repeat obtain⟨_,hy⟩:=hy);go_simp;(try with_reducible rfl)))(hQ:∀c a w,Q (.panic c) (a.put oi.dst v) w->Q (.panic c) a w:=by exact fun _ _ _ h=>h)(ha:a.put oi.dst v=a':=by((try simp only[Act.put,sPd,sPe,sPf,sPa,sPb,sPc]);with_reducible rfl)):
  uA P md ops Q (vU s A B) (a9+1) listed a w:=qUH hi a6 a8 a7 hs hf hr hQ (Or.inl ⟨hw,hv⟩) hG (by rw[ha];exact h)
theorem yG (i:Nat){oi:Oper}{v:Value}{a9:Nat}{listed:Array Bool}{a a':Act}{w:World}(h:uA P md ops Q (vU s A B) a9 (listed.setIfInBounds i true) a' w)(hG:vU s A B listed w:=by first|exact⟨trivial,fun _=>Hid.out (by assumption)⟩|exact⟨Hid.out (by assumption),fun _=>trivial⟩)(hi:ops[i]?=some oi:=by rfl)(a8:(i == s)=false:=by rfl)(hs:Region.noSelect ops=true:=by kernel_rfl)(hf:Region.free md ops listed i=true:=by kernel_rfl)(hr:(Region.ready md ops listed).contains i=true:=by kernel_rfl)(hw:Region.wanted oi (yielded ops a.tmps)=true:=by rfl)(hv:∀w,A w->(execOp a.eval oi).run P w=.ok (.value v) w:=by(intro wz hz;(try dsimp only at hz);(repeat obtain⟨_,hz⟩:=hz);go_simp;(try with_reducible rfl)))(hQ:∀c a w,Q (.panic c) (a.put oi.dst v) w->Q (.panic c) a w:=by exact fun _ _ _ h=>h)(ha:a.put oi.dst v=a':=by((try simp only[Act.put,sPd,sPe,sPf,sPa,sPb,sPc]);with_reducible rfl)):
  uA P md ops Q (vU s A B) (a9+1) listed a w:=wE i hG h hi a8 hs hf hr hw hv hQ ha
theorem kQ (i:Nat){oi:Oper}{v:Value}{a9:Nat}{listed:Array Bool}{a a':Act}{w:World}(h:uA P md ops Q (vU s A B) a9 (listed.setIfInBounds i true) a' w)(hG:vU s A B listed w:=by first|exact⟨trivial,fun _=>Hid.out (by assumption)⟩|exact⟨Hid.out (by assumption),fun _=>trivial⟩)(hi:ops[i]?=some oi:=by rfl)(a6:(i == s)=false:=by rfl)(a8:(match ops[s]? with|some os=>os.after.any fun e=>Region.binds md e && (e.on == i)|none=>false)=true:=by kernel_rfl)(a7:listed.getD s true=false:=by rfl)(hs:Region.noSelect ops=true:=by kernel_rfl)(hf:Region.free md ops listed i=true:=by kernel_rfl)(hr:(Region.ready md ops listed).contains i=true:=by kernel_rfl)(hw:Region.wanted oi (yielded ops a.tmps)=true:=by rfl)(hv:∀w,A w/\B w->(execOp a.eval oi).run P w=.ok (.value v) w:=by(rintro wz ⟨hy,hz⟩;(try dsimp only at hz);(try dsimp only at hy);(repeat obtain⟨_,hz⟩:=hz);(repeat obtain⟨_,hy⟩:=hy);go_simp;(try with_reducible rfl)))(hQ:∀c a w,Q (.panic c) (a.put oi.dst v) w->Q (.panic c) a w:=by exact fun _ _ _ h=>h)(ha:a.put oi.dst v=a':=by((try simp only[Act.put,sPd,sPe,sPf,sPa,sPb,sPc]);with_reducible rfl)):
  uA P md ops Q (vU s A B) (a9+1) listed a w:=qOY i hG h hi a6 a8 a7 hs hf hr hw hv hQ ha
theorem nO {listed:Array Bool}{a:Act}{w:World}(hr:Region.ready md ops listed=[])(h:Q .normal a w):∀fuel,uA P md ops Q G fuel listed a w
 | 0=>⟨hr,h⟩
 | _+1=>⟨fun _=>h,by rw[hr];simp⟩
theorem oneG {i:Nat}{o:Oper}{a9:Nat}{listed:Array Bool}{a:Act}{w:World}(hr:Region.ready md ops listed=[i])(ho:ops[i]?=some o)(h:∀K':Act->World->Prop,Shut (∀a w,G (listed.setIfInBounds i true) w->uA P md ops Q G a9 (listed.setIfInBounds i true) a w->K' a w)->if Region.wanted o (yielded ops a.tmps)=true then Oper.wp P o a w K' Q else K' (a.put o.dst undef) w):uA P md ops Q G (a9+1) listed a w:=by
 refine⟨fun h0=>(by rw[hr]at h0;cases h0),fun j hj=>?_⟩;rw[hr]at hj;have:j=i:=by simpa using hj
 subst this;exact wpOp_step ho (fun K' hK=>h K' (fun a w hG hW=>hK a w ⟨hG,hW⟩))
theorem twoG {i j:Nat}{o o':Oper}{a9:Nat}{listed:Array Bool}{a:Act}{w:World}(hr:Region.ready md ops listed=[i,j])(ho:ops[i]?=some o)(a8:ops[j]?=some o')(h:∀K':Act->World->Prop,Shut (∀a w,G (listed.setIfInBounds i true) w->uA P md ops Q G a9 (listed.setIfInBounds i true) a w->K' a w)->if Region.wanted o (yielded ops a.tmps)=true then Oper.wp P o a w K' Q else K' (a.put o.dst undef) w)(h':∀K':Act->World->Prop,Shut (∀a w,G (listed.setIfInBounds j true) w->uA P md ops Q G a9 (listed.setIfInBounds j true) a w->K' a w)->if Region.wanted o' (yielded ops a.tmps)=true then Oper.wp P o' a w K' Q else K' (a.put o'.dst undef) w):uA P md ops Q G (a9+1) listed a w:=by
 refine⟨fun h0=>(by rw[hr]at h0;cases h0),fun k hk=>?_⟩;rw[hr]at hk;rcases (by simpa using hk:k=i\/k=j) with rfl|rfl
 ·exact wpOp_step ho (fun K' hK=>h K' (fun a w hG hW=>hK a w ⟨hG,hW⟩))
 exact wpOp_step a8 (fun K' hK=>h' K' (fun a w hG hW=>hK a w ⟨hG,hW⟩))
theorem xE {id:Nat}{a:Act}{w:World}(hm:P.follows .mixedOrders=true)(h:uA P .any ops Q G ops.size (Array.replicate ops.size false) a w.drew):(Code.region id ops true).wp P Q a w :=
 wp_region_any hm (bU _ _ _ _ h)
end
end Go.Proofs.YtcoimliafiammaaGreat
