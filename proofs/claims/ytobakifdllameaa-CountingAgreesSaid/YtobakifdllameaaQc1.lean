/- Part 1 of the proof. -/
import Derived.Test.YtobakifdllameaaRows
import Derived.WalkKit
import Derived.WalkSpells
import Derived.WalkLawsBesides
import Derived.Lib.Hide
import Derived.BigQuiet
import Derived.Deep.QuietTactic
import Derived.Maps.Own
import Derived.Maps.Views
import Derived.Deep.LoopGhost
import Derived.OwnWalk
import Derived.ArgAppend
set_option linter.unusedVariables false
set_option linter.unusedSimpArgs false
set_option maxRecDepth 100000
set_option maxHeartbeats 16000000
namespace Go.Proofs.Ytobakifdllameaa
open Go.RowKit
theorem Nm {α:Sort _}(a:α):∃x,x=a:=⟨a,rfl⟩
theorem K3 {a b c:Prop}(x:a)(y:b)(z:c):Hid a ∧ Hid b ∧ Hid c:=⟨Lib.hid x,Lib.hid y,Lib.hid z⟩
theorem K4 {a b c d:Prop}(x:a)(y:b)(z:c)(u:d):Hid a ∧ Hid b ∧ Hid c ∧ Hid d:=⟨Lib.hid x,K3 y z u⟩
theorem K5 {a b c d e:Prop}(x:a)(y:b)(z:c)(u:d)(v:e):Hid a ∧ Hid b ∧ Hid c ∧ Hid d ∧ Hid e:=⟨Lib.hid x,K4 y z u v⟩
theorem K6 {a b c d e f:Prop}(x:a)(y:b)(z:c)(u:d)(v:e)(w:f):Hid a ∧ Hid b ∧ Hid c ∧ Hid d ∧ Hid e ∧ Hid f:=⟨Lib.hid x,K5 y z u v w⟩
theorem Oj {α:Type _}{a b:α}(h:some a=some b):a=b:=Option.some.inj h
theorem Ga (w:World)(o:Obj)(r:Option Nat):w.grownBy (w.alloc o) r:=World.grownBy_alloc w o r
theorem Kh {p:Prop}(h:p):Hid p:=Lib.hid h
theorem sPa (xs:List Value)(i:Nat)(x:Value):xs.toArray.setIfInBounds i x=(xs.set i x).toArray:=List.setIfInBounds_toArray ..
theorem sPb (a b:Value)(l:List Value):(a::l).set 0 b=b::l:=rfl
theorem sPc (a b:Value)(n:Nat)(l:List Value):(a::l).set (n+1) b=a::l.set n b:=rfl
theorem sPd {α:Type _}{xs:List α}{i:Nat}(h:i<xs.toArray.size):xs.toArray[i]=xs[i]'(by simpa using h):=List.getElem_toArray h
theorem sPe {α:Type _}{a:α}{l:List α}{h:0<(a::l).length}:(a::l)[0]'h=a:=rfl
theorem sPf {α:Type _}{a:α}{l:List α}{i:Nat}{h:i+1<(a::l).length}:(a::l)[i+1]'h=l[i]'(Nat.lt_of_succ_lt_succ h):=rfl
theorem yY {a b:Bool}(h:a=b):Ending.returned (.bool a)=.returned (.bool b):=by rw[h]
theorem xH {k:IntKind}{a b:Int}(h:a=b):Ending.returned (.int k a)=.returned (.int k b):=by rw[h]
def uF (w:World)(b off:Nat)(xs:List Value):Prop:=b<w.heap.size/\∀i (h:i<xs.length),w.cell? ⟨b,off+i,none⟩=some xs[i]
def Row (B:Nat)(w:World)(v:Value)(xs:List Value):Prop :=
 (∃a cap,v=.slice a 0 cap/\xs=[])\/∃b off cap,v=.slice (some ⟨b,off,none⟩) xs.length cap/\b<B/\xs.length<=cap/\cap<=maxLen/\uF w b off xs
theorem uF.kept {w w':World}{b off:Nat}{xs:List Value}{row:Option Nat}(h:uF w b off xs)(hg:w.grownBy w' row)(hr:row≠some b):uF w' b off xs :=
 ⟨Nat.lt_of_lt_of_le h.1 hg.size,fun i hi=>(World.cell?_of_block (hg.block b h.1 (fun e=>hr e.symm))).trans (h.2 i hi)⟩
theorem Row.kept {B:Nat}{w w':World}{v:Value}{xs:List Value}{row:Option Nat}(h:Row B w v xs)(hg:w.grownBy w' row)(hr:∀k,row=some k->B<=k):Row B w' v xs:=by
 rcases h with h|⟨b,off,cap,h1,h2,h3,h4,h5⟩
 ·exact .inl h
 ·exact .inr ⟨b,off,cap,h1,h2,h3,h4,h5.kept hg (fun e=>by have:=hr b e;omega)⟩
theorem Row.mono {B B':Nat}{w:World}{v:Value}{xs:List Value}(h:Row B w v xs)(hB:B<=B'):Row B' w v xs:=by
 rcases h with h|⟨b,off,cap,h1,h2,h3⟩
 ·exact .inl h
 ·exact .inr ⟨b,off,cap,h1,by omega,h3⟩
theorem uF.of_heap {w w':World}{b off:Nat}{xs:List Value}(h:uF w b off xs)(e:w'.heap=w.heap):uF w' b off xs :=
 ⟨by rw[e];exact h.1,fun i hi=>(World.cell?_of_block (by rw[e])).trans (h.2 i hi)⟩
theorem Row.of_heap {B:Nat}{w w':World}{v:Value}{xs:List Value}(h:Row B w v xs)(e:w'.heap=w.heap):Row B w' v xs:=by
 rcases h with h|⟨b,off,cap,h1,h2,h3,h4,h5⟩
 ·exact .inl h
 ·exact .inr ⟨b,off,cap,h1,h2,h3,h4,h5.of_heap e⟩
theorem wV {w a b:World}{row:Option Nat}(h:w.grownBy a row)(h1:b.os=a.os)(h2:b.tape=a.tape)(h3:b.output=a.output)(h4:b.heap=a.heap):w.grownBy b row :=
 ⟨h1.trans h.os,h2.trans h.tape,h3.trans h.output,by rw[h4];exact h.size,fun k hk hne=>by rw[h4];exact h.block k hk hne⟩
theorem zV (w:World)(row:Option Nat):w.grownBy w row:=⟨rfl,rfl,rfl,Nat.le_refl _,fun _ _ _=>rfl⟩
theorem zT (w:World)(n:Nat)(row:Option Nat):w.grownBy (w.drewN n) row:=⟨rfl,rfl,rfl,Nat.le_refl _,fun _ _ _=>rfl⟩
theorem zU (w:World)(row:Option Nat):w.grownBy w.drew row:=⟨rfl,rfl,rfl,Nat.le_refl _,fun _ _ _=>rfl⟩
theorem mC {a b c:World}{r s row:Option Nat}(h:a.grownBy b r)(k:b.grownBy c s)(hr:r=none\/r=row\/∃x,r=some x/\a.heap.size<=x)(hs:s=none\/s=row\/∃x,s=some x/\a.heap.size<=x):a.grownBy c row:=by
 refine⟨k.os.trans h.os,k.tape.trans h.tape,k.output.trans h.output,Nat.le_trans h.size k.size,fun i hi hne=>?_⟩;refine(k.block i (Nat.lt_of_lt_of_le hi h.size) ?_).trans (h.block i hi ?_)
 ·rcases hs with rfl|rfl|⟨x,rfl,hx⟩
  ·simp
  ·exact hne
  ·simp;omega
 ·rcases hr with rfl|rfl|⟨x,rfl,hx⟩
  ·simp
  ·exact hne
  ·simp;omega
theorem zH {a b c:World}{row:Option Nat}(h:a.grownBy b row)(k:b.grownBy c row):a.grownBy c row:=mC h k (.inr (.inl rfl)) (.inr (.inl rfl))
theorem zF (w:World)(p:Addr)(u:Value):w.grownBy (w.setCell p u) (some p.block) :=
 ⟨rfl,rfl,rfl,by simp[World.setCell],fun k _ hk=>Below.heap_setCell _ _ _ _ (fun e=>hk (by rw[e]))⟩
theorem wU {a b:World}{row:Option Nat}(h:a.grownBy b none):a.grownBy b row :=
 ⟨h.os,h.tape,h.output,h.size,fun k hk _=>h.block k hk (by simp)⟩
theorem below_of_grown {a b:World}(h:a.grownBy b none):Below a.heap.size a b:=⟨h.os,h.tape,h.output,h.size,fun k hk=>h.block k hk (by simp)⟩
theorem kW {a b:World}{row:Option Nat}(h:Below a.heap.size a b):a.grownBy b row:=⟨h.os,h.tape,h.output,h.size,fun k hk _=>h.block k hk⟩
section
variable {P:Program} {f:FuncId} {args:Array Value} {w:World} {a n:Nat} {v:Value}
theorem qHE (h:Calls P f args (w.drewN n) fun e w'=>e=.returned v/\w.drewN n=w'):Calls P f args (w.drewN n) fun e w''=>e=.returned v/\∃m,w''=w.drewN m :=
 h.mono fun _ _ ⟨he,hm⟩=>⟨he,n,hm.symm⟩
theorem dO (h:Calls P f args (w.drewN (a+n)) fun e w'=>e=.returned v/\w.drewN (a+n)=w'):
  Calls P f args (w.drewN (a+n)) fun e w''=>e=.returned v/\∃m,w''=w.drewN (a+m) :=
 h.mono fun _ _ ⟨he,hm⟩=>⟨he,n,hm.symm⟩
end
structure ElemOk (P:Program)(t e:TypeId)(z:Value)(bytes:Nat):Prop where
 ht:P.underlying t=some (.slice e)
 hi:(P.info? e).map (fun i=>(i.zero,i.size,i.bytes))=some (some z,1,bytes)
 hz:z.cells.size=1
theorem pB {w:World}{base e size:Nat}{v:Value}{n:Nat}{xs:List Value}(h:w.ownsRow base e size v n xs):∃sa sc,v=.slice sa n sc:=by
 rcases h.2 with ⟨rfl,rfl⟩|⟨g,cap,cur,rfl,_⟩
 ·exact⟨none,0,rfl⟩
 ·exact⟨_,_,rfl⟩
theorem zQ {w:World}{b:Nat}{o:Obj}(h:w.heap[b]?=some o):b<w.heap.size:=(Array.getElem?_eq_some_iff.1 h).1
theorem app1 {P:Program}{w:World}{ops:Array Oper}{rest:List Oper}{o:Oper}{a:Act}{Q:Exit->Act->World->Prop}(hgd:o.guard=none)(s x:Operand)(t:TypeId)(ho:o.op=.call { callee:=.builtin .append,args:=#[s,x],argTypes:=#[t,t] }){e:TypeId}{z:Value}{bytes:Nat}(E:ElemOk P t e z bytes)(base:Nat)(v:Value)(n:Nat)(xs:List Value)(hs:a.eval s=v)(hown:w.ownsRow base e 1 v n xs)(u:Value)(hx:a.eval x=.slice (some ⟨w.heap.size,0,none⟩) 1 1)(h1:u.oneCell'=true)(h63:n+1<=maxLen)(hbytes:(n+1)*bytes<=140737488355328)(hbase:base<=w.heap.size)(h:∀sa sc w',w'.ownsRow base e 1 (.slice sa (n+1) sc) (n+1) (xs++[u])->w.grownBy w' v.ownBlock->w.heap.size<w'.heap.size->wpList P ops Q rest (a.put o.dst (.slice sa (n+1) sc)) w'):wpList P ops Q (o::rest) a (w.alloc (.cells #[u] e)):=by
 obtain⟨i,hi,hz,h0,h3⟩:=info_parts E.hi;refine wpList_append_own _ hgd s x t ho base e i z 1 bytes E.ht hi hz h0 h3 E.hz (by decide) v n xs hs (hown.alloc _) ⟨w.heap.size,0,none⟩ 1 1 [u] hx rfl ?_ ?_ h63 hbytes (by simp;omega) ?_
 ·intro j u' hj
  match j,hj with
  | 0,hj=>simp at hj;subst hj;simp[Addr.add]
 ·intro u' hu;simp at hu;subst hu;exact h1
 ·intro v' w' h1 h2 _
  obtain⟨sa,sc,rfl⟩:=pB h1;refine h sa sc w' h1 ?_ (by have:=h2.size;simp at this;omega);refine⟨h2.os,h2.tape,h2.output,by have:=h2.size;simp at this;omega,fun k hk hne=>(h2.block k (by simp;omega) hne).trans ?_⟩;exact Below.heap_alloc w _ k hk
theorem aQ {P:Program}{w:World}{base:Nat}{v:Value}{n:Nat}{xs:List Int}(src e:TypeId)(hs:P.underlying src=some (.slice e))(he:P.underlying e=some (.int .u8))(dst:TypeId)(hd:P.underlying dst=some .string)(hown:w.ownsRow base e 1 v n (xs.map (Value.int .u8))):(convert src dst v).run P w=.ok (.string (strOfNums xs)) w:=by
 have hl:xs.length=n:=by have:=hown.1;simpa using this
 rcases hown.2 with ⟨rfl,rfl⟩|⟨g,cap,cur,rfl,_⟩
 ·have:xs=[]:=List.eq_nil_of_length_eq_zero hl
  subst this;exact run_convert_bytes_nil w src e hs he 0 0 dst hd
 ·refine run_convert_bytes_arg w src e hs he g 0 n cap xs hl (fun i hi=>?_) dst hd
  rw[Nat.zero_add,hown.cellAt i (by omega)];simp[List.getD,List.getElem?_eq_getElem (show i<xs.length by omega)]
theorem Row.of_owns {w:World}{base e:Nat}{v:Value}{n:Nat}{xs:List Value}(h:w.ownsRow base e 1 v n xs):Row w.heap.size w v xs:=by
 have hl:xs.length=n:=by have:=h.1;omega
 rcases h.2 with ⟨rfl,rfl⟩|⟨g,cap,cur,rfl,hb,hg,hnc,hcm,hcs,htake⟩
 ·exact .inl ⟨_,_,rfl,List.eq_nil_of_length_eq_zero hl⟩
 ·have h0:=(Array.getElem?_eq_some_iff.1 hg).1
  refine .inr ⟨g,0,cap,by rw[hl],h0,by omega,hcm,h0,fun i hi=>?_⟩;rw[Nat.zero_add,h.cellAt i (by omega),List.getElem?_eq_getElem hi]
theorem wI {w w':World}{base e:Nat}{v:Value}{n:Nat}{xs:List Value}{row:Option Nat}(h:w.ownsRow base e 1 v n xs)(hg:w.grownBy w' row)(hr:∀k,row=some k->k<base):w'.ownsRow base e 1 v n xs:=by
 refine h.kept hg ?_;rcases hv:v.ownBlock with _|k
 ·exact .inl rfl
 ·refine .inr fun e=>?_
  have:=hr k e.symm;have:=(h.lt k hv).1;omega
theorem zS {w:World}{base e size:Nat}{v:Value}{n:Nat}{xs:List Value}{pb e':Nat}{c:Array Value}{m:Nat×Nat}(h:w.ownsRow base e size v n xs)(hp:w.heap[pb]?=some (.cells c e' m))(hne:e≠e'):v.ownBlock≠some pb:=by
 rcases h.2 with ⟨rfl,_⟩|⟨g,cap,cur,rfl,_,hg,_⟩
 ·simp[Value.ownBlock]
 ·intro hv
  simp[Value.ownBlock]at hv;subst hv;rw[hg]at hp;simp at hp;exact hne hp.2.1
theorem zB {w w':World}{row:Option Nat}{pb:Nat}{o:Obj}(h:w.heap[pb]?=some o)(hg:w.grownBy w' row)(hr:row≠some pb:=by simp):w'.heap[pb]?=some o :=
 (hg.block pb (Array.getElem?_eq_some_iff.1 h).1 (fun e=>hr e.symm)).trans h
theorem zG {w:World}{pb e:Nat}{c:Array Value}{m:Nat×Nat}(h:w.heap[pb]?=some (.cells c e m))(i:Nat)(hi:i<c.size:=by simp):w.cell? ⟨pb,i,none⟩=some c[i]:=by
 rw[cell_of_row w pb i _ _ _ h];simp[hi]
theorem zA {w:World}{pb e:Nat}{c:Array Value}(h:w.heap[pb]?=some (.cells c e (0,0)))(i:Nat):w.frozen? ⟨pb,i,none⟩=false:=frozen_of_row w pb i _ _ h
theorem zX (w:World)(o:Obj):(w.alloc o).heap.size=w.heap.size+1:=by simp
theorem mB {w a:World}{row:Option Nat}(h:w.grownBy a row)(o:Obj):w.grownBy (a.alloc o) row:=zH h (Ga a o row)
theorem zC {w a b:World}{row s:Option Nat}(h:w.grownBy a row)(k:a.grownBy b s)(hs:∀x,s=some x->w.heap.size<=x:=by simp):w.grownBy b row :=
 mC h k (.inr (.inl rfl)) (by
  rcases s with _|x
  ·exact .inl rfl
  ·exact .inr (.inr ⟨x,rfl,hs x rfl⟩))
theorem yM {w a b:World}{row:Option Nat}{p:Nat}(h:w.grownBy a row)(k:a.grownBy b (some p))(hp:w.heap.size<=p):w.grownBy b row:=zC h k (fun _ e=>by rw[<-Oj e];exact hp)
theorem uF.map {α:Type}{f:α->Value}{w:World}{b off:Nat}{xs:List α}(h:uF w b off (xs.map f))(i:Nat)(hi:i<xs.length):w.cell? ⟨b,off+i,none⟩=some (f xs[i]):=by
 rw[h.2 i (by simpa using hi),List.getElem_map]
def Arr (w:World)(g:Nat)(e:TypeId)(xs:List Value):Prop:=∃cur rest,w.heap[g]?=some (.cells cur e (0,0))/\cur.toList=xs++rest
theorem Arr.lt {w:World}{g:Nat}{e:TypeId}{xs:List Value}(h:Arr w g e xs):g<w.heap.size:=by
 obtain⟨_,_,h,_⟩:=h;exact zQ h
theorem Arr.cell {w:World}{g:Nat}{e:TypeId}{xs:List Value}(h:Arr w g e xs)(i:Nat)(hi:i<xs.length):w.cell? ⟨g,i,none⟩=some xs[i]:=by
 obtain⟨cur,rest,h,hc⟩:=h;rw[cell_of_row w g i _ _ _ h,<-Array.getElem?_toList,hc,List.getElem?_append_left hi,List.getElem?_eq_getElem hi]
theorem Arr.frozen {w:World}{g:Nat}{e:TypeId}{xs:List Value}(h:Arr w g e xs)(i:Nat):w.frozen? ⟨g,i,none⟩=false:=by
 obtain⟨cur,rest,h,hc⟩:=h;exact frozen_of_row w g i _ _ h
theorem Arr.set {w:World}{g:Nat}{e:TypeId}{xs:List Value}(h:Arr w g e xs)(i:Nat)(hi:i<xs.length)(u:Value):Arr (w.setCell ⟨g,i,none⟩ u) g e (xs.set i u):=by
 obtain⟨cur,rest,h,hc⟩:=h;refine⟨cur.setIfInBounds i u,rest,heap_setCell_same w g i _ _ _ h,?_⟩;rw[Array.toList_setIfInBounds,hc,List.set_append_left _ _ hi]
theorem Arr.kept {w w':World}{g:Nat}{e:TypeId}{xs:List Value}{row:Option Nat}(h:Arr w g e xs)(hg:w.grownBy w' row)(hr:row≠some g):Arr w' g e xs:=by
 obtain⟨cur,rest,h,hc⟩:=h;exact⟨cur,rest,zB h hg hr,hc⟩
theorem Arr.of_heap {w w':World}{g:Nat}{e:TypeId}{xs:List Value}(h:Arr w g e xs)(he:w'.heap=w.heap):Arr w' g e xs:=by
 obtain⟨cur,rest,h,hc⟩:=h;exact⟨cur,rest,by rw[he];exact h,hc⟩
theorem Arr.of_owns {w:World}{base g n cap:Nat}{e:TypeId}{xs:List Value}(h:w.ownsRow base e 1 (.slice (some ⟨g,0,none⟩) n cap) n xs):Arr w g e xs:=by
 rcases h.2 with ⟨h',_⟩|⟨g',cap',cur,h',hb,hg,hnc,hcm,hcs,htake⟩
 ·simp at h'
 ·simp only[Value.slice.injEq,Option.some.injEq,Addr.mk.injEq,and_true,true_and]at h'
  obtain⟨rfl,rfl⟩:=h';refine⟨cur,cur.toList.drop n,hg,?_⟩;rw[Nat.mul_one]at htake;rw[<-htake,List.take_append_drop]
theorem Arr.row {w:World}{g:Nat}{e:TypeId}{xs:List Value}(h:Arr w g e xs):uF w g 0 xs:=⟨h.lt,fun i hi=>by rw[Nat.zero_add];exact h.cell i hi⟩
theorem Arr.new (w:World)(e:TypeId)(cs:Array Value):Arr (w.alloc (.cells cs e)) w.heap.size e cs.toList:=⟨cs,[],heap_alloc_new w _,by simp⟩
theorem Arr.front {w:World}{g:Nat}{e:TypeId}{xs ys:List Value}(h:Arr w g e (xs++ys)):Arr w g e xs:=by
 obtain⟨cur,rest,h,hc⟩:=h;exact⟨cur,ys++rest,h,by rw[hc,List.append_assoc]⟩
theorem Arr.type_ne {w:World}{g g':Nat}{e e':TypeId}{xs:List Value}{c:Array Value}{m:Nat×Nat}(h:Arr w g e xs)(hp:w.heap[g']?=some (.cells c e' m))(hne:e≠e'):g≠g':=by
 obtain⟨cur,rest,h,hc⟩:=h;rintro rfl;rw[h]at hp;simp at hp;exact hne hp.2.1
theorem aR {P:Program}{w:World}{g:Nat}{xs:List Int}(src e:TypeId)(hs:P.underlying src=some (.slice e))(he:P.underlying e=some (.int .u8))(dst:TypeId)(hd:P.underlying dst=some .string)(n cap:Nat)(hn:xs.length=n)(h:Arr w g e (xs.map (Value.int .u8))):(convert src dst (.slice (some ⟨g,0,none⟩) n cap)).run P w=.ok (.string (strOfNums xs)) w:=by
 refine run_convert_bytes_arg w src e hs he g 0 n cap xs hn (fun i hi=>?_) dst hd;rw[Nat.zero_add,h.cell i (by simp;omega)];simp[List.getD,List.getElem?_eq_getElem (show i<xs.length by omega)]
theorem Row.of_arg {k:IntKind}{w:World}{a:Option Addr}{len cap:Nat}{zs:List Int}(h:(a=none/\len=0/\cap=0/\zs=[])\/∃x,a=some x/\len<=cap/\cap<=maxLen/\zs.length=cap/\(∀i,i<zs.length->w.cell? (x.add i)=some (.int k (zs.getD i 0)))/\∀n∈zs,(Lit.int k n).wf=true):Row w.heap.size w (.slice a len cap) ((zs.take len).map (Value.int k)):=by
 rcases h with ⟨rfl,rfl,rfl,rfl⟩|⟨x,rfl,h1,h2,h3,h4,_⟩
 ·exact .inl ⟨_,_,rfl,rfl⟩
 ·by_cases hl:len=0
  ·subst hl
   exact .inl ⟨_,_,rfl,by simp⟩
  ·obtain⟨b,off,spot⟩:=x
   have hc:=h4 0 (by omega);have h5:spot=none:=by simpa [Addr.add] using World.cell?_spot hc
   subst h5;have h6:∀i,(⟨b,off,none⟩:Addr).add i=⟨b,off+i,none⟩:=fun i=>by unfold Addr.add;split<;>simp_all
   have hb:b<w.heap.size:=(by rw[h6]at hc;exact World.block_lt_of_cell? w _ hc);have h0:((zs.take len).map (Value.int k)).length=len:=by simp;omega
   refine .inr ⟨b,off,cap,by rw[h0],hb,by rw[h0];exact h1,h2,hb,fun i hi=>?_⟩;rw[h0]at hi;have:=h4 i (by omega);rw[h6]at this;rw[this];simp[List.getD,List.getElem?_eq_getElem (show i<zs.length by omega)]
open Go.Maps
theorem qAM:Keyed Try.prog 3:=int_keyed (q:=.i64) (by kernel_rfl)
end Go.Proofs.Ytobakifdllameaa
namespace Go.Proofs.Ytobakifdllameaa
def ent (t:List (List Int))(x y:Nat):Int:=(t.getD x []).getD y 0
def entN (t:List (List Int))(x y:Nat):Nat:=(ent t x y).toNat
def dN (n:Nat)(r:List Int):Bool:=decide (r.length=n) && r.all fun x=>decide (0<=x/\x<n)
def rJ (t:List (List Int)):Int:=if 400<t.length then 3 else if t.length=0 then 4 else if t.all (dN t.length) then 0 else 4
structure Shape (t:List (List Int)):Prop where
 pos:0<t.length
 le:t.length<=400
 row:∀x,x<t.length->(t.getD x []).length=t.length
 lo:∀x y,x<t.length->y<t.length->0<=ent t x y
 hi:∀x y,x<t.length->y<t.length->ent t x y<t.length
theorem oV {n:Nat}{r:List Int}:dN n r=true↔r.length=n/\∀y,y<r.length->0<=r.getD y 0/\r.getD y 0<n:=by
 simp only[dN,Bool.and_eq_true,decide_eq_true_eq,List.all_eq_true];refine and_congr_right fun _=>⟨fun h y hy=>?_,fun h x hx=>?_⟩
 ·have:=h (r[y]) (List.getElem_mem hy)
  simpa [List.getD,List.getElem?_eq_getElem hy] using this
 obtain⟨y,hy,rfl⟩:=List.getElem_of_mem hx;have:=h y hy;simpa [List.getD,List.getElem?_eq_getElem hy] using this
theorem qFP {t:List (List Int)}(h:rJ t=0):Shape t:=by
 unfold rJ at h
 split at h
 ·omega
 split at h
 ·omega
 split at h
 ·rename_i h1 h2 h3
  rw[List.all_eq_true]at h3
  have hr:∀x,x<t.length->dN t.length (t.getD x [])=true:=fun x hx=>by
   have:=h3 t[x] (List.getElem_mem hx);simpa [List.getD,List.getElem?_eq_getElem hx] using this
  refine⟨by omega,by omega,fun x hx=>(oV.1 (hr x hx)).1,fun x y hx hy=>?_,fun x y hx hy=>?_⟩
  ·obtain⟨e,h⟩:=oV.1 (hr x hx)
   exact(h y (by omega)).1
  obtain⟨e,h⟩:=oV.1 (hr x hx);exact(h y (by omega)).2
 omega
theorem qCX {t:List (List Int)}(h:Shape t){x y:Nat}(hx:x<t.length)(hy:y<t.length):(entN t x y:Int)=ent t x y:=Int.toNat_of_nonneg (h.lo x y hx hy)
theorem pO {t:List (List Int)}(h:Shape t){x y:Nat}(hx:x<t.length)(hy:y<t.length):entN t x y<t.length:=by
 have h1:=qCX h hx hy;have h2:=h.hi x y hx hy;omega
def nZ (t:List (List Int))(g:Nat):Prop:=∀x y,x<t.length->y<t.length->entN t (entN t x g) y=entN t x (entN t g y)
def qML (t:List (List Int)):Prop:=∀g,g<t.length->nZ t g
open Classical in
noncomputable def qJ (t:List (List Int)):Int:=if rJ t≠0 then rJ t else if qML t then 0 else 5
theorem qBD {t:List (List Int)}(h:rJ t≠0):qJ t=rJ t:=by rw[qJ,if_pos h]
theorem gP {t:List (List Int)}(h:rJ t=0)(ha:qML t):qJ t=0:=by rw[qJ,if_neg (by omega),if_pos ha]
theorem qGQ {t:List (List Int)}(h:rJ t=0)(ha:¬qML t):qJ t=5:=by rw[qJ,if_neg (by omega),if_neg ha]
inductive Gen (t:List (List Int))(gs:List Nat):Nat->Prop where
 | base (g:Nat):g∈gs->Gen t gs g
 | mul (x y:Nat):Gen t gs x->Gen t gs y->Gen t gs (entN t x y)
theorem Gen.mono {t:List (List Int)}{gs hs:List Nat}(h:∀g∈gs,g∈hs){x:Nat}(hx:Gen t gs x):Gen t hs x:=by
 induction hx with
 | base g hg=>exact .base g (h g hg)
 | mul x y _ _ h1 h2=>exact .mul x y h1 h2
theorem qLA {t:List (List Int)}(hs:Shape t){gs:List Nat}(hg:∀g∈gs,g<t.length/\nZ t g){x:Nat}(hx:Gen t gs x):x<t.length/\nZ t x:=by
 induction hx with
 | base g h=>exact hg g h
 | mul g h _ _ h1 h2 =>
  obtain⟨hg,lg⟩:=h1;obtain⟨hh,lh⟩:=h2;refine⟨pO hs hg hh,fun x y hx hy=>?_⟩;have e1:=lg x h hx hh;have e2:=lh (entN t x g) y (pO hs hx hg) hy;have e3:=lg x (entN t h y) hx (pO hs hh hy);have e4:=lh g y hg hy;rw[<-e1,e2,e3,e4]
theorem dU {t:List (List Int)}(hs:Shape t){gs:List Nat}(a9:∀x,x<t.length->Gen t gs x)(hg:∀g∈gs,g<t.length/\nZ t g):qML t :=
 fun x hx=>(qLA hs hg (a9 x hx)).2
open Go.RowKit
def ints (zs:List Int):List Value:=zs.map (Value.int .i64)
theorem zN (zs:List Int):(ints zs).length=zs.length:=by simp[ints]
theorem Row.some_ {B:Nat}{w:World}{v:Value}{xs:List Value}(h:Row B w v xs)(hx:0<xs.length):∃b off cap,v=.slice (some ⟨b,off,none⟩) xs.length cap/\b<B/\xs.length<=cap/\cap<=maxLen/\uF w b off xs:=by
 rcases h with ⟨a,c,rfl,rfl⟩|⟨b,off,cap,rfl,h0,h1,h2,h3⟩
 ·simp at hx
 exact⟨b,off,cap,rfl,h0,h1,h2,h3⟩
theorem Row.nil_ {B:Nat}{w:World}{v:Value}{xs:List Value}(h:Row B w v xs)(hx:xs.length=0):∃a cap,v=.slice a 0 cap:=by
 rcases h with ⟨a,c,rfl,rfl⟩|⟨b,off,cap,rfl,h0,h1,h2,h3⟩
 ·exact⟨a,c,rfl⟩
 exact⟨_,_,by rw[hx]⟩
theorem Row.shape {B:Nat}{w:World}{v:Value}{xs:List Value}(h:Row B w v xs):∃a cap,v=.slice a xs.length cap:=by
 rcases h with ⟨a,c,rfl,rfl⟩|⟨b,off,cap,rfl,h0,h1,h2,h3⟩
 ·exact⟨a,c,rfl⟩
 exact⟨_,_,rfl⟩
theorem Row.len_le {B:Nat}{w:World}{v:Value}{xs:List Value}(h:Row B w v xs):xs.length<=maxLen:=by
 rcases h with ⟨a,c,rfl,rfl⟩|⟨b,off,cap,rfl,h0,h1,h2,h3⟩
 ·simp
 omega
theorem uF.int {w:World}{b off:Nat}{zs:List Int}(h:uF w b off (ints zs))(i:Nat)(hi:i<zs.length):w.cell? ⟨b,off+i,none⟩=some (.int .i64 (zs.getD i 0)):=by
 rw[uF.map h i hi];simp[List.getD,List.getElem?_eq_getElem hi]
structure MatAt (B:Nat)(w:World)(t:List (List Int))(b off:Nat)(A:Nat->Option Addr)(C:Nat->Nat):Prop where
 lt:b<B
 ltw:b<w.heap.size
 hd:∀x,x<t.length->w.cell? ⟨b,off+x,none⟩=some (.slice (A x) (t.getD x []).length (C x))
 row:∀x,x<t.length->Row B w (.slice (A x) (t.getD x []).length (C x)) (ints (t.getD x []))
def Mat (B:Nat)(w:World)(v:Value)(t:List (List Int)):Prop :=
 (∃a cap,v=.slice a 0 cap/\t=[])\/∃b off cap A C,v=.slice (some ⟨b,off,none⟩) t.length cap/\t.length<=cap/\cap<=maxLen/\MatAt B w t b off A C
theorem MatAt.kept {B:Nat}{w w':World}{t:List (List Int)}{b off:Nat}{A:Nat->Option Addr}{C:Nat->Nat}{row:Option Nat}(h:MatAt B w t b off A C)(hg:w.grownBy w' row)(hr:∀k,row=some k->B<=k):MatAt B w' t b off A C :=
 ⟨h.lt,Nat.lt_of_lt_of_le h.ltw hg.size,fun x hx=>(World.cell?_of_block (hg.block b h.ltw (fun e=>by have:=hr b e.symm;have:=h.lt;omega))).trans (h.hd x hx),fun x hx=>(h.row x hx).kept hg hr⟩
theorem MatAt.mono {B B':Nat}{w:World}{t:List (List Int)}{b off:Nat}{A:Nat->Option Addr}{C:Nat->Nat}(h:MatAt B w t b off A C)(hB:B<=B'):MatAt B' w t b off A C :=
 ⟨Nat.lt_of_lt_of_le h.lt hB,h.ltw,h.hd,fun x hx=>(h.row x hx).mono hB⟩
theorem MatAt.of_heap {B:Nat}{w w':World}{t:List (List Int)}{b off:Nat}{A:Nat->Option Addr}{C:Nat->Nat}(h:MatAt B w t b off A C)(e:w'.heap=w.heap):MatAt B w' t b off A C :=
 ⟨h.lt,by rw[e];exact h.ltw,fun x hx=>(World.cell?_of_block (by rw[e])).trans (h.hd x hx),fun x hx=>(h.row x hx).of_heap e⟩
section
variable {B B':Nat} {w w':World} {v:Value} {t:List (List Int)} {row:Option Nat}
theorem Mat.kept (h:Mat B w v t)(hg:w.grownBy w' row)(hr:∀k,row=some k->B<=k):Mat B w' v t:=by
 rcases h with h|⟨b,off,cap,A,C,h1,h2,h3,h4⟩
 ·exact .inl h
 exact .inr ⟨b,off,cap,A,C,h1,h2,h3,h4.kept hg hr⟩
theorem Mat.mono (h:Mat B w v t)(hB:B<=B'):Mat B' w v t:=by
 rcases h with h|⟨b,off,cap,A,C,h1,h2,h3,h4⟩
 ·exact .inl h
 exact .inr ⟨b,off,cap,A,C,h1,h2,h3,h4.mono hB⟩
theorem Mat.of_heap (h:Mat B w v t)(e:w'.heap=w.heap):Mat B w' v t:=by
 rcases h with h|⟨b,off,cap,A,C,h1,h2,h3,h4⟩
 ·exact .inl h
 exact .inr ⟨b,off,cap,A,C,h1,h2,h3,h4.of_heap e⟩
theorem Mat.some_ (h:Mat B w v t)(hx:0<t.length):∃b off cap A C,v=.slice (some ⟨b,off,none⟩) t.length cap/\t.length<=cap/\cap<=maxLen/\MatAt B w t b off A C:=by
 rcases h with ⟨_,_,_,rfl⟩|h
 ·simp at hx
 exact h
theorem Mat.shape (h:Mat B w v t):∃a cap,v=.slice a t.length cap:=by
 rcases h with ⟨a,c,rfl,rfl⟩|⟨b,off,cap,A,C,rfl,_⟩
 ·exact⟨a,c,rfl⟩
 exact⟨_,_,rfl⟩
theorem Mat.len_le (h:Mat B w v t):t.length<=maxLen:=by
 rcases h with ⟨a,c,rfl,rfl⟩|⟨b,off,cap,A,C,rfl,h1,h2,_⟩
 ·simp
 omega
end
structure Sq (B:Nat)(w:World)(t:List (List Int))(b off:Nat)(RB RO RC:Nat->Nat):Prop where
 lt:b<B
 ltw:b<w.heap.size
 hd:∀x,x<t.length->w.cell? ⟨b,off+x,none⟩=some (.slice (some ⟨RB x,RO x,none⟩) t.length (RC x))
 el:∀x y,x<t.length->y<t.length->w.cell? ⟨RB x,RO x+y,none⟩=some (.int .i64 (entN t x y))
 ltr:∀x,x<t.length->RB x<B/\RB x<w.heap.size
 cap:∀x,x<t.length->t.length<=RC x/\RC x<=maxLen
theorem Sq.kept {B:Nat}{w w':World}{t:List (List Int)}{b off:Nat}{RB RO RC:Nat->Nat}{row:Option Nat}(h:Sq B w t b off RB RO RC)(hg:w.grownBy w' row)(hr:∀k,row=some k->B<=k):Sq B w' t b off RB RO RC :=
 ⟨h.lt,Nat.lt_of_lt_of_le h.ltw hg.size,fun x hx=>(World.cell?_of_block (hg.block b h.ltw (fun e=>by have:=hr b e.symm;have:=h.lt;omega))).trans (h.hd x hx),
  fun x y hx hy=>(World.cell?_of_block (hg.block (RB x) (h.ltr x hx).2 (fun e=>by have:=hr _ e.symm;have:=(h.ltr x hx).1;omega))).trans (h.el x y hx hy),fun x hx=>⟨(h.ltr x hx).1,Nat.lt_of_lt_of_le (h.ltr x hx).2 hg.size⟩,h.cap⟩
theorem Mat.sq {B:Nat}{w:World}{v:Value}{t:List (List Int)}(h:Mat B w v t)(hs:Shape t):∃b off cap RB RO RC,v=.slice (some ⟨b,off,none⟩) t.length cap/\t.length<=cap/\cap<=maxLen/\Sq B w t b off RB RO RC:=by
 obtain⟨b,off,cap,A,C,rfl,h1,h2,h3⟩:=h.some_ hs.pos
 have hr:∀x,∃rb ro,x<t.length->A x=some ⟨rb,ro,none⟩/\rb<B/\t.length<=C x/\C x<=maxLen/\uF w rb ro (ints (t.getD x [])):=by
  intro x;by_cases hx:x<t.length
  ·have hl:=hs.row x hx
   obtain⟨rb,ro,c,e,h4,h5,h6,h7⟩:=(h3.row x hx).some_ (by rw[zN,hl];exact hs.pos);simp only[Value.slice.injEq]at e;rw[zN,hl]at h5;exact⟨rb,ro,fun _=>⟨e.1,h4,by rw[e.2.2];exact h5,by rw[e.2.2];exact h6,h7⟩⟩
  exact⟨0,0,fun h=>absurd h hx⟩
 obtain⟨RB,h8⟩:=Classical.axiomOfChoice hr;obtain⟨RO,h0⟩:=Classical.axiomOfChoice h8;refine⟨b,off,cap,RB,RO,C,rfl,h1,h2,h3.lt,h3.ltw,fun x hx=>?_,fun x y hx hy=>?_,fun x hx=>?_,fun x hx=>?_⟩
 ·have:=h0 x hx
  rw[h3.hd x hx,this.1,hs.row x hx]
 ·have:=h0 x hx
  rw[this.2.2.2.2.int y (by rw[hs.row x hx];exact hy),qCX hs hx hy];rfl
 ·have:=h0 x hx
  exact⟨this.2.1,this.2.2.2.2.1⟩
 have:=h0 x hx;exact⟨this.2.2.1,this.2.2.2.1⟩
def qMI (n:Nat)(r:List Int)(j:Nat):Prop:=∀y,y<j->0<=r.getD y 0/\r.getD y 0<n
theorem yJ:ElemOk Try.prog 22 3 (.int .i64 0) 8:=⟨Try.underlying22,by kernel_rfl,rfl⟩
theorem wX:ElemOk Try.prog 26 4 (.bool false) 1:=⟨Try.underlying26,by kernel_rfl,rfl⟩
theorem wP:ElemOk Try.prog 35 22 (.slice none 0 0) 24:=⟨Try.underlying35,by kernel_rfl,rfl⟩
theorem pL {z:Value}(hz:z.cells=#[z]):∀(n:Nat),(madeCells z.cells (n*1)).toList=List.replicate n z:=by
 intro n;rw[Nat.mul_one,hz];apply List.ext_getElem
 ·simp[madeCells]
 intro i h1 h2;simp[madeCells,Nat.mod_one]
theorem qV {P:Program}{w:World}{ops:Array Oper}{a8:List Oper}{o:Oper}{a:Act}{Q:Exit->Act->World->Prop}(a7:o.guard=none)(l c:Operand)(t:TypeId)(ho:o.op=.makeSlice t l c){e:TypeId}{z:Value}{a9:Nat}(E:ElemOk P t e z a9)(hz:z.cells=#[z])(kl kc:IntKind)(L C:Int)(n:Nat)(hl:a.eval l=.int kl L)(hc:a.eval c=.int kc C)(hL:L=(n:Int))(hC:C=(n:Int))(hb:a9*n<=281474976710656)(a6:n<=maxLen)(h:∀w',Arr w' w.heap.size e (List.replicate n z)->w.grownBy w' none->w.heap.size<w'.heap.size->wpList P ops Q a8 (a.put o.dst (.slice (some ⟨w.heap.size,0,none⟩) n n)) w'):wpList P ops Q (o::a8) a w:=by
 obtain⟨i,hi,h1,h2,h3⟩:=info_parts E.hi;refine wpList_make_full w a7 l c t ho w.heap.size e i z 1 E.ht hi h1 h2 kl kc L C n hl hc hL hC (by rw[h3];exact hb) a6 (Nat.le_refl _) ?_;intro w' h0 hg;have ha:=Arr.of_owns h0;rw[pL hz]at ha;exact h w' ha hg ha.lt
theorem wT {w:World}{base base' e size:Nat}{v:Value}{n:Nat}{xs:List Value}(h:w.ownsRow base e size v n xs)(hb:base'<=base):w.ownsRow base' e size v n xs:=by
 refine⟨h.1,?_⟩;rcases h.2 with h2|⟨g,cap,cur,h1,h2,h3⟩
 ·exact .inl h2
 exact .inr ⟨g,cap,cur,h1,Nat.le_trans hb h2,h3⟩
theorem xI {w:World}{base e n sc:Nat}{sa:Option Addr}{xs:List Value}(h:w.ownsRow base e 1 (.slice sa n sc) n xs)(hn:0<n):∃kb,sa=some ⟨kb,0,none⟩/\n<=sc/\sc<=maxLen/\Arr w kb e xs:=by
 rcases h.2 with ⟨h',h0⟩|⟨g,cap,cur,h1,hb,hg,hnc,hcm,_⟩
 ·omega
 simp only[Value.slice.injEq]at h1;obtain⟨rfl,-,rfl⟩:=h1;exact⟨g,rfl,hnc,hcm,Arr.of_owns h⟩
def jO (w w':World)(v v':Value):Prop:=v'.ownBlock=v.ownBlock\/(w.grownBy w' none/\∀k,v'.ownBlock=some k->w.heap.size<=k)
theorem iM {P:Program}{w:World}{ops:Array Oper}{a6:List Oper}{o:Oper}{a:Act}{Q:Exit->Act->World->Prop}(a5:o.guard=none)(s x:Operand)(t:TypeId)(ho:o.op=.call { callee:=.builtin .append,args:=#[s,x],argTypes:=#[t,t] }){e:TypeId}{z:Value}{a9:Nat}(E:ElemOk P t e z a9)(base:Nat)(v:Value)(n:Nat)(xs:List Value)(hs:a.eval s=v)(a8:w.ownsRow base e 1 v n xs)(u:Value)(hx:a.eval x=.slice (some ⟨w.heap.size,0,none⟩) 1 1)(h1:u.oneCell'=true)(a3:n+1<=maxLen)(a7:(n+1)*a9<=140737488355328)(a4:base<=w.heap.size)(h:∀sa sc w',w'.ownsRow base e 1 (.slice sa (n+1) sc) (n+1) (xs++[u])->w.grownBy w' v.ownBlock->w.heap.size<w'.heap.size->jO w w' v (.slice sa (n+1) sc)->wpList P ops Q a6 (a.put o.dst (.slice sa (n+1) sc)) w'):wpList P ops Q (o::a6) a (w.alloc (.cells #[u] e)):=by
 obtain⟨i,hi,hz,h6,h9⟩:=info_parts E.hi
 have h0:∀j u',[u][j]?=some u'->(w.alloc (.cells #[u] e)).cell? ((⟨w.heap.size,0,none⟩:Addr).add j)=some u':=by
  intro j u' hj
  match j,hj with
  | 0,hj=>simp at hj;subst hj;simp[Addr.add]
 have h5:∀u'∈[u],u'.oneCell'=true:=by intro u' hu;simp at hu;subst hu;exact h1
 have hA:=Ga w (.cells #[u] e) none
 have fin:∀v' w',w'.ownsRow base e 1 v' (n+1) (xs++[u])->(w.alloc (.cells #[u] e)).grownBy w' v.ownBlock->(v'.ownBlock=v.ownBlock\/((w.alloc (.cells #[u] e)).grownBy w' none/\∀k,v'.ownBlock=some k->w.heap.size<=k))->wpList P ops Q a6 (a.put o.dst v') w':=by
  intro v' w' h1 h2 h3;obtain⟨sa,sc,rfl⟩:=pB h1;refine h sa sc w' h1 ?_ (by have:=h2.size;simp at this;omega) ?_
  ·exact⟨h2.os,h2.tape,h2.output,by have:=h2.size;simp at this;omega,fun k hk hne=>(h2.block k (by simp;omega) hne).trans (Below.heap_alloc w _ k hk)⟩
  rcases h3 with h3|⟨h3,h4⟩
  ·exact .inl h3
  exact .inr ⟨zH hA h3,h4⟩
 rcases a8.2 with ⟨rfl,rfl⟩|⟨g,cap,cur,rfl,hb,hg,hnc,hcm,hcs,htake⟩
 ·have hl:xs=[]:=List.eq_nil_of_length_eq_zero (by have:=a8.1;omega)
  subst hl;refine wpList_append_grows _ a5 s x t ho e i z 1 a9 E.ht hi hz h6 h9 E.hz (by decide) none 0 0 [] hs (fun _=>⟨rfl,rfl⟩) rfl (fun b hb=>by cases hb) ⟨w.heap.size,0,none⟩ 1 1 [u] hx rfl h0 h5 (by omega) a3 a7 ?_;intro v' w' h1 h2;exact fin v' w' (wT h1 (by simp;omega)) (wU h2) (.inr ⟨h2,fun k hk=>by have:=(h1.lt k hk).1;simp at this;omega⟩)
 by_cases hroom:n+1<=cap
 ·refine wpList_append_fits _ a5 s x t ho base e i 1 E.ht hi h6 g n cap xs hs (a8.alloc _) ⟨w.heap.size,0,none⟩ 1 1 [u] hx rfl h0 h5 hroom ?_
  intro w' h1 h2;exact fin _ w' h1 h2 (.inl rfl)
 refine wpList_append_grows _ a5 s x t ho e i z 1 a9 E.ht hi hz h6 h9 E.hz (by decide) (some ⟨g,0,none⟩) n cap xs hs (fun h=>by cases h) a8.1 (fun b hb j u' hj=>?_) ⟨w.heap.size,0,none⟩ 1 1 [u] hx rfl h0 h5 (by omega) a3 a7 ?_
 ·simp at hb
  subst hb
  have h8:j<xs.length:=by
   rcases Nat.lt_or_ge j xs.length with h|h
   ·exact h
   rw[List.getElem?_eq_none h]at hj;cases hj
  have:=(Arr.of_owns (a8.alloc (.cells #[u] e))).cell j h8;rw[List.getElem?_eq_getElem h8]at hj;have h7:(⟨g,0,none⟩:Addr).add j=⟨g,j,none⟩:=by unfold Addr.add;split<;>simp_all
  rw[h7,this];exact hj
 intro v' w' h1 h2;exact fin v' w' (wT h1 (by simp;omega)) (wU h2) (.inr ⟨h2,fun k hk=>by have:=(h1.lt k hk).1;simp at this;omega⟩)
def bls (bs:List Bool):List Value:=bs.map Value.bool
def nats (l:List Nat):List Value:=l.map fun(x:Nat)=>Value.int .i64 (x:Int)
theorem yB (bs:List Bool):(bls bs).length=bs.length:=by simp[bls]
theorem zR (l:List Nat):(nats l).length=l.length:=by simp[nats]
theorem Arr.bool {w:World}{g:Nat}{e:TypeId}{bs:List Bool}(h:Arr w g e (bls bs))(i:Nat)(hi:i<bs.length):w.cell? ⟨g,i,none⟩=some (.bool (bs.getD i false)):=by
 rw[h.cell i (by rw[yB];exact hi)];simp[bls,List.getD,List.getElem?_eq_getElem hi]
theorem Arr.int {w:World}{g:Nat}{e:TypeId}{zs:List Int}(h:Arr w g e (ints zs))(i:Nat)(hi:i<zs.length):w.cell? ⟨g,i,none⟩=some (.int .i64 (zs.getD i 0)):=by
 rw[h.cell i (by rw[zN];exact hi)];simp[ints,List.getD,List.getElem?_eq_getElem hi]
theorem Arr.nat {w:World}{g:Nat}{e:TypeId}{l:List Nat}(h:Arr w g e (nats l))(i:Nat)(hi:i<l.length):w.cell? ⟨g,i,none⟩=some (.int .i64 ((l.getD i 0:Nat):Int)):=by
 rw[h.cell i (by rw[zR];exact hi)];simp[nats,List.getD,List.getElem?_eq_getElem hi]
theorem uF.nat {w:World}{b off:Nat}{l:List Nat}(h:uF w b off (nats l))(i:Nat)(hi:i<l.length):w.cell? ⟨b,off+i,none⟩=some (.int .i64 ((l.getD i 0:Nat):Int)):=by
 rw[uF.map h i hi];simp[List.getD,List.getElem?_eq_getElem hi]
theorem Arr.bool_set {w:World}{g:Nat}{e:TypeId}{bs:List Bool}(h:Arr w g e (bls bs))(i:Nat)(hi:i<bs.length)(c:Bool):Arr (w.setCell ⟨g,i,none⟩ (.bool c)) g e (bls (bs.set i c)):=by
 have:=h.set i (by rw[yB];exact hi) (.bool c)
 rwa [bls,List.map_set]
theorem Arr.int_set {w:World}{g:Nat}{e:TypeId}{zs:List Int}(h:Arr w g e (ints zs))(i:Nat)(hi:i<zs.length)(c:Int):Arr (w.setCell ⟨g,i,none⟩ (.int .i64 c)) g e (ints (zs.set i c)):=by
 have:=h.set i (by rw[zN];exact hi) (.int .i64 c)
 rwa [ints,List.map_set]
theorem Arr.nat_set {w:World}{g:Nat}{e:TypeId}{l:List Nat}(h:Arr w g e (nats l))(i:Nat)(hi:i<l.length)(c:Nat):Arr (w.setCell ⟨g,i,none⟩ (.int .i64 (c:Int))) g e (nats (l.set i c)):=by
 have:=h.set i (by rw[zR];exact hi) (.int .i64 (c:Int))
 rwa [nats,List.map_set]
theorem qW (n:Nat)(c:Bool):bls (List.replicate n c)=List.replicate n (.bool c):=by simp[bls]
theorem yS (n:Nat):nats (List.replicate n 0)=List.replicate n (.int .i64 0):=by simp[nats]
theorem qG (n:Nat):ints (List.replicate n 0)=List.replicate n (.int .i64 0):=by simp[ints]
theorem eQ (l m:List Nat):nats (l++m)=nats l++nats m:=by simp[nats]
theorem qN (l:List Nat)(x:Nat):nats (l++[x])=nats l++[.int .i64 (x:Int)]:=by simp[nats]
theorem sX (l:List Nat):nats l=ints (l.map fun(x:Nat)=>(x:Int)):=by simp[nats,ints]
theorem qRL {l:List Nat}{n i:Nat}(h:∀x∈l,x<n)(hi:i<l.length):l.getD i 0<n:=by
 simp only[List.getD,List.getElem?_eq_getElem hi];exact h _ (List.getElem_mem hi)
theorem qEN {α:Type}(l:List α)(i:Nat)(c d:α)(hi:i<l.length):(l.set i c).getD i d=c:=by simp[List.getD,hi]
theorem getD_set_ne {α:Type}(l:List α)(i j:Nat)(c d:α)(a9:i≠j):(l.set i c).getD j d=l.getD j d:=by simp[List.getD,List.getElem?_set_ne a9]
theorem yD {α:Type}{l:List α}{k:Nat}{d:α}(h:k<l.length):l.take (k+1)=l.take k++[l.getD k d]:=by
 rw[List.take_succ_eq_append_getElem h];simp[List.getD,List.getElem?_eq_getElem h]
theorem oS (w:World)(c1 c2:Array Value)(e:Nat):((w.alloc (.cells c1 e)).alloc (.cells c2 e)).heap[w.heap.size]?=some (.cells c1 e (0,0))/\((w.alloc (.cells c1 e)).alloc (.cells c2 e)).heap[w.heap.size+1]?=some (.cells c2 e (0,0))/\w.grownBy ((w.alloc (.cells c1 e)).alloc (.cells c2 e)) none/\((w.alloc (.cells c1 e)).alloc (.cells c2 e)).heap.size=w.heap.size+2:=by
 refine⟨zB (heap_alloc_new w _) (Ga _ _ none),?_,mB (Ga w _ none) _,by rw[zX,zX]⟩;have:=heap_alloc_new (w.alloc (.cells c1 e)) (.cells c2 e);rw[zX]at this;exact this
end Go.Proofs.Ytobakifdllameaa
namespace Go.Proofs.Ytobakifdllameaa
def wO {α:Type}[DecidableEq α](acc:List α)(x:α):List α:=if x∈acc then acc else acc++[x]
def yO {α:Type}[DecidableEq α](l:List α):List α:=l.foldl wO []
section
variable {α:Type} [DecidableEq α]
theorem tE {acc:List α}{x:α}(h:x∈acc):wO acc x=acc:=if_pos h
theorem vN {acc:List α}{x:α}(h:x ∉ acc):wO acc x=acc++[x]:=if_neg h
theorem kF {acc:List α}{x y:α}:y∈wO acc x↔y∈acc\/y=x:=by
 unfold wO
 split
 ·rename_i h
  exact⟨.inl,fun h'=>by rcases h' with h'|rfl<;>assumption⟩
 simp
theorem sJ (l:List α)(x:α):yO (l++[x])=wO (yO l) x:=by simp[yO,List.foldl_append]
theorem fD (l:List α):∀(acc:List α) (y:α),y∈l.foldl wO acc↔y∈acc\/y∈l:=by
 induction l with
 | nil=>intro acc y;simp
 | cons a l ih=>intro acc y;rw[List.foldl_cons,ih,kF,List.mem_cons];exact or_assoc
theorem xY {l:List α}{y:α}:y∈yO l↔y∈l:=by rw[yO,fD];simp
theorem gY {acc:List α}{x:α}(h:acc.Nodup):(wO acc x).Nodup:=by
 unfold wO
 split
 ·exact h
 rename_i hx
 rw[List.nodup_append];exact⟨h,by simp,fun a ha b hb=>by rw[List.mem_singleton]at hb;subst hb;rintro rfl;exact hx ha⟩
theorem iI (l:List α):∀ {acc:List α},acc.Nodup->(l.foldl wO acc).Nodup:=by
 induction l with
 | nil=>intro acc h;exact h
 | cons a l ih=>intro acc h;exact ih (gY h)
theorem rB (l:List α):(yO l).Nodup:=iI l (by simp)
theorem mE (acc:List α)(x:α):acc <+: wO acc x:=by
 unfold wO;split
 ·exact List.prefix_refl _
 exact List.prefix_append _ _
theorem jG (l:List α):∀(acc:List α),acc <+: l.foldl wO acc:=by
 induction l with
 | nil=>intro acc;exact List.prefix_refl _
 | cons a l ih=>intro acc;exact(mE acc a).trans (ih _)
theorem rO (l:List α)(k:Nat):yO (l.take k) <+: yO l:=by
 conv=>rhs;rw[<-List.take_append_drop k l]
 rw[yO,yO,List.foldl_append];exact jG _ _
theorem uZ (l:List α):(yO l).length<=l.length:=by
 have key:∀(l acc:List α),(l.foldl wO acc).length<=acc.length+l.length:=by
  intro l
  induction l with
  | nil=>intro acc;simp
  | cons a l ih =>
   intro acc;rw[List.foldl_cons];have h1:=ih (wO acc a);have h2:(wO acc a).length<=acc.length+1:=by unfold wO;split<;>simp
   rw[List.length_cons];omega
 simpa [yO] using key l []
theorem gW {l m:List α}{x:α}(h:l <+: m)(hx:x∈l):m.idxOf x=l.idxOf x:=by
 obtain⟨r,rfl⟩:=h;rw[List.idxOf_append,if_pos hx]
theorem qCV {l:List α}{x y:α}(hx:x∈l)(h:l.idxOf x=l.idxOf y):x=y:=by
 have h1:=List.idxOf_lt_length_of_mem hx;have e1:=List.getElem_idxOf h1;have e2:=List.getElem_idxOf (show l.idxOf y<l.length by omega);rw[<-e1,<-e2];simp only[h]
def numb (l:List α):List Nat:=l.map fun x=>(yO l).idxOf x
theorem yW (l:List α):(numb l).length=l.length:=by simp[numb]
theorem pW {l:List α}{i:Nat}(h:i<l.length):(numb l)[i]'(by rw[yW];exact h)=(yO l).idxOf l[i]:=by simp[numb]
theorem qKG {l:List α}:∀c∈numb l,c<(yO l).length:=by
 intro c hc;obtain⟨x,hx,rfl⟩:=List.mem_map.1 hc;exact List.idxOf_lt_length_of_mem (xY.2 hx)
theorem nV {l:List α}{i j:Nat}(hi:i<l.length)(hj:j<l.length):(numb l).getD i 0=(numb l).getD j 0↔l[i]=l[j]:=by
 simp only[List.getD,List.getElem?_eq_getElem (show i<(numb l).length by rw[yW];exact hi),List.getElem?_eq_getElem (show j<(numb l).length by rw[yW];exact hj),Option.getD_some,pW hi,pW hj];exact⟨fun h=>qCV (xY.2 (List.getElem_mem hi)) h,fun h=>by rw[h]⟩
theorem qCE {l:List α}{k:Nat}(hk:k<l.length):(yO (l.take (k+1))).idxOf l[k]=(yO l).idxOf l[k]:=by
 refine(gW (rO l (k+1)) (xY.2 ?_)).symm;rw[List.take_succ_eq_append_getElem hk];exact List.mem_append_right _ (List.mem_singleton_self _)
end
def qRX (p q:List Nat):Prop:=p.length=q.length/\∀i j,i<p.length->j<p.length->(p.getD i 0=p.getD j 0↔q.getD i 0=q.getD j 0)
def Norm (p:List Nat):Prop:=numb p=p
theorem zK {α:Type}{l:List α}{i:Nat}{d:α}(h:i<l.length):l.getD i d=l[i]:=by simp[List.getD,List.getElem?_eq_getElem h]
theorem dP {α β:Type}[DecidableEq α][DecidableEq β](f:α->β)(l:List α)(h:∀x∈l,∀y∈l,f x=f y->x=y):yO (l.map f)=(yO l).map f:=by
 have key:∀(m acc:List α),(∀x∈acc++m,∀y∈acc++m,f x=f y->x=y)->(m.map f).foldl wO (acc.map f)=(m.foldl wO acc).map f:=by
  intro m
  induction m with
  | nil=>intro acc _;rfl
  | cons a m ih =>
   intro acc hh;rw[List.map_cons,List.foldl_cons,List.foldl_cons]
   have e:wO (acc.map f) (f a)=(wO acc a).map f:=by
    unfold wO;by_cases ha:a∈acc
    ·rw[if_pos ha,if_pos (List.mem_map_of_mem ha)]
    rw[if_neg ha,if_neg]
    ·simp
    intro hm;obtain⟨b,hb,e⟩:=List.mem_map.1 hm;have:=hh b (by simp[hb]) a (by simp) e;subst this;exact ha hb
   rw[e];refine ih _ fun x hx y hy=>hh x ?_ y ?_
   ·rw[List.mem_append,kF]at hx;simp;rcases hx with (h|h)|h<;>simp[h]
   rw[List.mem_append,kF]at hy;simp;rcases hy with (h|h)|h<;>simp[h]
 have:=key l [] (by simpa using h);simpa [yO] using this
theorem qAO {α β:Type}[DecidableEq α][DecidableEq β](f:α->β)(l:List α)(x:α)(hx:x∈l)(h:∀y∈l,f y=f x->y=x):(l.map f).idxOf (f x)=l.idxOf x:=by
 induction l with
 | nil=>simp at hx
 | cons a l ih =>
  rw[List.map_cons,List.idxOf_cons,List.idxOf_cons];by_cases e:a=x
  ·subst e;simp
  have:f a≠f x:=fun h'=>e (h a (by simp) h');simp only[beq_eq_false_iff_ne.2 this,beq_eq_false_iff_ne.2 e,cond_false];rw[ih (by simpa [Ne.symm e] using hx) (fun y hy=>h y (by simp[hy]))]
theorem lY {α β:Type}[DecidableEq α][DecidableEq β]:∀(l:List α) (m:List β) (he:l.length=m.length),(∀i j (hi:i<l.length) (hj:j<l.length),(l[i]=l[j]↔m[i]'(by omega)=m[j]'(by omega)))->numb l=numb m:=by
 intro l m he h
 have key:∀(k:Nat) (hk:k<=l.length),∃ps:List (Fin l.length),yO (l.take k)=ps.map (fun i=>l[i])/\yO (m.take k)=ps.map (fun i=>m[i.1]'(by omega)):=by
  intro k
  induction k with
  | zero=>intro _;exact⟨[],by simp[yO],by simp[yO]⟩
  | succ k ih =>
   intro hk;obtain⟨ps,h1,h2⟩:=ih (by omega);have h3:k<l.length:=(by omega);rw[List.take_succ_eq_append_getElem h3,List.take_succ_eq_append_getElem (show k<m.length by omega),sJ,sJ,h1,h2]
   have h0:(l[k]∈ps.map (fun i=>l[i]))↔(m[k]'(by omega)∈ps.map (fun i=>m[i.1]'(by omega))):=by
    simp only[List.mem_map];constructor
    ·rintro ⟨i,hi,e⟩;exact⟨i,hi,(h i.1 k i.2 h3).1 e⟩
    rintro ⟨i,hi,e⟩;exact⟨i,hi,(h i.1 k i.2 h3).2 e⟩
   by_cases hm:l[k]∈ps.map (fun i=>l[i])
   ·exact⟨ps,tE hm,tE (h0.1 hm)⟩
   refine⟨ps++[⟨k,h3⟩],?_,?_⟩
   ·rw[vN hm];simp
   rw[vN (fun h'=>hm (h0.2 h'))];simp
 obtain⟨ps,h1,h2⟩:=key l.length (Nat.le_refl _);rw[List.take_length]at h1;rw[show m.take l.length=m from List.take_of_length_le (by omega)]at h2;refine List.ext_getElem (by simp[numb,he]) fun i hi _=>?_;rw[yW]at hi;rw[pW hi,pW (by omega),h1,h2]
 have aux:∀(qs:List (Fin l.length)),(qs.map (fun i=>l[i])).idxOf l[i]=(qs.map (fun i=>m[i.1]'(by omega))).idxOf (m[i]'(by omega)):=by
  intro qs
  induction qs with
  | nil=>simp
  | cons a qs ih =>
   rw[List.map_cons,List.map_cons,List.idxOf_cons,List.idxOf_cons,ih];have:=h a.1 i a.2 hi;by_cases e:l[a]=l[i]
   ·have e':=this.1 e
    simp only[beq_iff_eq.2 e,beq_iff_eq.2 e']
   have e':¬(m[a.1]'(by omega)=m[i]'(by omega)):=fun h'=>e (this.2 h');simp only[beq_eq_false_iff_ne.2 e,beq_eq_false_iff_ne.2 e']
 exact aux ps
theorem mV {α:Type}[DecidableEq α](l:List α):Norm (numb l):=by
 refine lY _ _ (yW l) fun i j hi hj=>?_;rw[yW]at hi hj;have:=nV (l:=l) hi hj;rw[zK (by rw[yW];exact hi),zK (by rw[yW];exact hj)]at this;exact this
theorem jZ {p q:List Nat}(hp:Norm p)(hq:Norm q)(h:qRX p q):p=q:=by
 rw[<-hp,<-hq];refine lY _ _ h.1 fun i j hi hj=>?_;have:=h.2 i j hi hj;rw[zK hi,zK hj,zK (by rw[<-h.1];exact hi),zK (by rw[<-h.1];exact hj)]at this;exact this
structure DfaV where
 letters:Int
 start:Int
 final:List Bool
 next:List (List Int)
def rowD (letters:Int)(n:Nat)(r:List Int):Bool:=decide ((r.length:Int)=letters) && r.all fun x=>decide (0<=x/\x<n)
def uJ (d:DfaV):Int :=
 if d.letters<1\/6<d.letters then 1 else if 512<d.final.length then 3
 else if d.final.length=0\/d.next.length≠d.final.length\/d.start<0\/d.final.length<=d.start then 4
 else if d.next.all (rowD d.letters d.final.length) then 0 else 4
structure VD (d:DfaV)(n k:Nat):Prop where
 hk:d.letters=k
 k1:1<=k
 k6:k<=6
 hn:d.final.length=n
 n1:1<=n
 nbig:n<=4194304
 nl:d.next.length=n
 s0:0<=d.start
 sn:d.start<n
 row:∀q,q<n->(d.next.getD q []).length=k
 lo:∀q a,q<n->a<k->0<=ent d.next q a
 hi:∀q a,q<n->a<k->ent d.next q a<n
theorem nO {k:Int}{n:Nat}{r:List Int}:rowD k n r=true↔(r.length:Int)=k/\∀y,y<r.length->0<=r.getD y 0/\r.getD y 0<n:=by
 simp only[rowD,Bool.and_eq_true,decide_eq_true_eq,List.all_eq_true];refine and_congr_right fun _=>⟨fun h y hy=>?_,fun h x hx=>?_⟩
 ·have:=h (r[y]) (List.getElem_mem hy)
  rwa [<-zK (d:=0) hy]at this
 obtain⟨y,hy,rfl⟩:=List.getElem_of_mem hx;have:=h y hy
 rwa [zK hy]at this
theorem qQK {d:DfaV}(h:uJ d=0):VD d d.final.length d.letters.toNat:=by
 unfold uJ at h
 split at h
 ·omega
 rename_i h1
 split at h
 ·omega
 rename_i h2
 split at h
 ·omega
 rename_i h3
 split at h
 ·rename_i h4
  rw[List.all_eq_true]at h4
  have hr:∀q,q<d.next.length->rowD d.letters d.final.length (d.next.getD q [])=true:=fun q hq=>by
   rw[zK hq];exact h4 _ (List.getElem_mem hq)
  have h0:d.next.length=d.final.length:=by
   apply Classical.byContradiction;intro hh;exact h3 (.inr (.inl hh))
  refine⟨by omega,by omega,by omega,rfl,by omega,by omega,h0,by omega,by omega,fun q hq=>?_,fun q a hq ha=>?_,fun q a hq ha=>?_⟩
  ·have:=(nO.1 (hr q (by omega))).1;omega
  ·obtain⟨e,h⟩:=nO.1 (hr q (by omega))
   exact(h a (by omega)).1
  obtain⟨e,h⟩:=nO.1 (hr q (by omega));exact(h a (by omega)).2
 omega
theorem mM {d:DfaV}{n k:Nat}(h:VD d n k)(h5:n<=512):uJ d=0:=by
 unfold uJ
 rw[if_neg (by have:=h.hk;have:=h.k1;have:=h.k6;omega),if_neg (by have:=h.hn;omega),
  if_neg (by have:=h.hn;have:=h.n1;have:=h.nl;have:=h.s0;have:=h.sn;omega),if_pos]
 rw[List.all_eq_true];intro r hr;obtain⟨q,hq,rfl⟩:=List.getElem_of_mem hr;have h0:q<n:=by have:=h.nl;omega
 rw[nO];have hl:=h.row q h0;rw[zK hq]at hl;refine⟨by rw[hl,h.hk],fun y hy=>?_⟩;have h1:=h.lo q y h0 (by omega);have h2:=h.hi q y h0 (by omega);unfold ent at h1 h2;rw[zK hq]at h1 h2;rw[h.hn];exact⟨h1,h2⟩
def nx (d:DfaV)(q a:Nat):Nat:=entN d.next q a
theorem qKE {d:DfaV}{n k:Nat}(h:VD d n k){q a:Nat}(hq:q<n)(ha:a<k):(nx d q a:Int)=ent d.next q a:=Int.toNat_of_nonneg (h.lo q a hq ha)
theorem pI {d:DfaV}{n k:Nat}(h:VD d n k){q a:Nat}(hq:q<n)(ha:a<k):nx d q a<n:=by
 have h1:=qKE h hq ha;have h2:=h.hi q a hq ha;omega
def st0 (d:DfaV):Nat:=d.start.toNat
theorem aL {d:DfaV}{n k:Nat}(h:VD d n k):(st0 d:Int)=d.start:=Int.toNat_of_nonneg h.s0
theorem oU {d:DfaV}{n k:Nat}(h:VD d n k):st0 d<n:=by have:=aL h;have:=h.sn;omega
def finB (b:Bool):Int:=if b then 1 else 0
def nT (d:DfaV):List Nat:=numb (d.final.map finB)
def rR (d:DfaV)(p:List Nat)(a:Nat):List Nat:=(List.range p.length).map fun q=>p.getD (nx d q a) 0
def qCB (m:Nat)(a b:Nat):Int:=(a:Int)*(m+1)+b
def lJ (p q:List Nat):List Int:=List.zipWith (qCB p.length) p q
def fH (p q:List Nat):List Nat:=numb (lJ p q)
def tK (d:DfaV)(p:List Nat):Nat->List Nat
 | 0=>p
 | k+1=>fH (tK d p k) (rR d p k)
theorem pV (d:DfaV):(nT d).length=d.final.length:=by simp[nT,yW]
theorem xT (d:DfaV)(p:List Nat)(a:Nat):(rR d p a).length=p.length:=by simp[rR]
theorem qP {p q:List Nat}(h:q.length=p.length):(lJ p q).length=p.length:=by simp[lJ,h]
theorem gX {p q:List Nat}(h:q.length=p.length):(fH p q).length=p.length:=by rw[fH,yW,qP h]
theorem xO (d:DfaV)(p:List Nat):∀k,(tK d p k).length=p.length
 | 0=>rfl
 | k+1=>by rw[tK,gX (by rw[xT,xO d p k]),xO d p k]
theorem oD {p:List Nat}(h:Norm p):∀c∈p,c<p.length:=by
 intro c hc;have h1:=qKG (l:=p);rw[h]at h1;have:=h1 c hc;have:=uZ p;omega
theorem bF {m a b a' b':Nat}(hb:b<=m)(a9:b'<=m):qCB m a b=qCB m a' b'↔a=a'/\b=b':=by
 unfold qCB;constructor
 ·intro h
  have h':a*(m+1)+b=a'*(m+1)+b':=by exact_mod_cast h
  have e1:(a*(m+1)+b) / (m+1)=a:=by rw[Nat.mul_comm,Nat.mul_add_div (by omega),Nat.div_eq_of_lt (by omega)];omega
  have e2:(a'*(m+1)+b') / (m+1)=a':=by rw[Nat.mul_comm,Nat.mul_add_div (by omega),Nat.div_eq_of_lt (by omega)];omega
  have ha:a=a':=by rw[<-e1,<-e2,h']
  subst ha;exact⟨rfl,by omega⟩
 rintro ⟨rfl,rfl⟩;rfl
theorem qDI {p q:List Nat}(h:q.length=p.length)(hq:∀c∈q,c<p.length){i j:Nat}(hi:i<p.length)(hj:j<p.length):(fH p q).getD i 0=(fH p q).getD j 0↔p.getD i 0=p.getD j 0/\q.getD i 0=q.getD j 0:=by
 have h1:i<(lJ p q).length:=by rw[qP h];exact hi
 have h0:j<(lJ p q).length:=by rw[qP h];exact hj
 rw[fH,nV h1 h0];simp only[lJ,List.getElem_zipWith];rw[bF (Nat.le_of_lt (hq _ (List.getElem_mem _))) (Nat.le_of_lt (hq _ (List.getElem_mem _))),zK hi,zK hj,zK (show i<q.length by omega),zK (show j<q.length by omega)]
theorem nH {d:DfaV}{p:List Nat}{a i:Nat}(hi:i<p.length):(rR d p a).getD i 0=p.getD (nx d i a) 0:=by
 rw[zK (by rw[xT];exact hi)];simp[rR]
theorem sZ {p:List Nat}{n i:Nat}(h:∀c∈p,c<n)(hn:0<n):p.getD i 0<n:=by
 by_cases hi:i<p.length
 ·rw[zK hi];exact h _ (List.getElem_mem hi)
 rw[List.getD,List.getElem?_eq_none (by omega)];exact hn
theorem rK {d:DfaV}{n k:Nat}(hd:VD d n k){p:List Nat}(hp:p.length=n)(a9:∀c∈p,c<n){i j:Nat}(hi:i<n)(hj:j<n):
  ∀m,m<=k->((tK d p m).getD i 0=(tK d p m).getD j 0↔p.getD i 0=p.getD j 0/\∀a,a<m->p.getD (nx d i a) 0=p.getD (nx d j a) 0)
 | 0,_=>by simp[tK]
 | m+1,hm=>by
  rw[tK,qDI (by rw[xT,xO]) (fun c hc=>?_) (by rw[xO];omega) (by rw[xO];omega),rK hd hp a9 hi hj m (by omega),nH (by omega),nH (by omega)]
  ·constructor
   ·rintro ⟨⟨h1,h2⟩,h3⟩
    refine⟨h1,fun a ha=>?_⟩
    rcases Nat.lt_succ_iff_lt_or_eq.1 ha with ha|rfl
    ·exact h2 a ha
    ·exact h3
   ·rintro ⟨h1,h2⟩
    exact⟨⟨h1,fun a ha=>h2 a (by omega)⟩,h2 m (by omega)⟩
  ·rw[xO,hp]
   obtain⟨q,hq,rfl⟩:=List.mem_map.1 hc
   exact sZ a9 hd.n1
theorem lW {d:DfaV}{p:List Nat}(hp:Norm p):∀m,Norm (tK d p m)
 | 0=>hp
 | m+1=>mV _
def cls (p:List Nat):Nat:=(yO p).length
theorem qAR {p q:List Nat}(hl:q.length=p.length)(h:∀i j,i<p.length->j<p.length->q.getD i 0=q.getD j 0->p.getD i 0=p.getD j 0):cls p<=cls q/\(cls p=cls q->∀i j,i<p.length->j<p.length->p.getD i 0=p.getD j 0->q.getD i 0=q.getD j 0):=by
 let f:Nat->Nat:=fun c=>p.getD (q.idxOf c) 0
 have hf:∀i,i<p.length->f (q.getD i 0)=p.getD i 0:=by
  intro i hi;have h9:i<q.length:=by omega
  have hm:q.getD i 0∈q:=by rw[zK h9];exact List.getElem_mem _
  have h8:=List.idxOf_lt_length_of_mem hm;refine h _ i (by omega) hi ?_;rw[zK h8,List.getElem_idxOf]
 have h3:∀c∈yO p,c∈(yO q).map f:=by
  intro c hc;obtain⟨i,hi,rfl⟩:=List.getElem_of_mem (xY.1 hc);rw[List.mem_map];refine⟨q.getD i 0,xY.2 (by rw[zK (by omega)];exact List.getElem_mem _),?_⟩;rw[hf i hi,zK hi]
 have h5:(yO p).length<=((yO q).map f).length:=(rB p).length_le_of_subset h3;rw[List.length_map]at h5;refine⟨h5,fun e i j hi hj hp=>?_⟩
 have h4:∀x∈yO q,∀y∈yO q,f x=f y->x=y:=by
  intro x hx y hy h6;apply Classical.byContradiction;intro h7
  have h0:∀c∈yO p,c∈((yO q).erase x).map f:=by
   intro c hc;obtain⟨z,hz,rfl⟩:=List.mem_map.1 (h3 c hc);by_cases e:z=x
   ·subst e
    exact List.mem_map.2 ⟨y,(List.mem_erase_of_ne (Ne.symm h7)).2 hy,h6.symm⟩
   exact List.mem_map.2 ⟨z,(List.mem_erase_of_ne e).2 hz,rfl⟩
  have h1:=(rB p).length_le_of_subset h0;rw[List.length_map,List.length_erase_of_mem hx]at h1;have h2:=List.length_pos_of_mem hx;unfold cls at e;omega
 have mem:∀i,i<p.length->q.getD i 0∈yO q:=fun i hi=>xY.2 (by rw[zK (by omega)];exact List.getElem_mem _);exact h4 _ (mem i hi) _ (mem j hj) (by rw[hf i hi,hf j hj,hp])
theorem uP {α:Type}{l:List α}{d:α}{q:Nat}(h:q<l.length):l.getD q d∈l:=by
 rw[List.getD_eq_getElem?_getD,List.getElem?_eq_getElem h];exact List.getElem_mem _
theorem cls_le (p:List Nat):cls p<=p.length:=uZ p
theorem iY (d:DfaV):Norm (nT d):=mV _
def xK (d:DfaV)(k:Nat):Nat->List Nat
 | 0=>nT d
 | m+1=>tK d (xK d k m) k
theorem xJ (d:DfaV)(k:Nat):∀m,(xK d k m).length=d.final.length
 | 0=>pV d
 | m+1=>by rw[xK,xO,xJ d k m]
theorem tT (d:DfaV)(k:Nat):∀m,Norm (xK d k m)
 | 0=>iY d
 | m+1=>lW (tT d k m) k
theorem qAS (d:DfaV)(k m:Nat):∀c∈xK d k m,c<d.final.length:=by
 have:=oD (tT d k m)
 rwa [xJ]at this
theorem jK {p:List Nat}(h:0<p.length):0<cls p:=by
 have hm:p[0]∈yO p:=xY.2 (List.getElem_mem h);exact List.length_pos_of_mem hm
theorem nQ {d:DfaV}{n k:Nat}(hd:VD d n k){p:List Nat}(hp:p.length=n)(hn:Norm p)(a9:tK d p k≠p):cls p<cls (tK d p k):=by
 have h0:∀c∈p,c<n:=by have:=oD hn;rwa [hp]at this
 obtain⟨h1,h2⟩:=qAR (p:=p) (q:=tK d p k) (xO d p k) (fun i j hi hj h=>((rK hd hp h0 (by omega) (by omega) k (Nat.le_refl _)).1 h).1);refine Nat.lt_of_le_of_ne h1 fun e=>a9 ?_;refine jZ (lW hn k) hn ⟨xO d p k,fun i j hi hj=>?_⟩;rw[xO]at hi hj;exact⟨fun h=>((rK hd hp h0 (by omega) (by omega) k (Nat.le_refl _)).1 h).1,fun h=>h2 e i j hi hj h⟩
def yF (d:DfaV)(k:Nat):List Nat:=xK d k d.final.length
theorem qDG {d:DfaV}{k m:Nat}(h:tK d (xK d k m) k=xK d k m):∀j,m<=j->xK d k j=xK d k m
 | 0,hj=>by rw[show m=0 by omega]
 | j+1,hj=>by
  by_cases e:m=j+1
  ·rw[e]
  ·rw[xK,qDG h j (by omega),h]
theorem oF {d:DfaV}{k m:Nat}(hm:m<=d.final.length)(h:tK d (xK d k m) k=xK d k m):yF d k=xK d k m:=qDG h _ hm
theorem qGH {d:DfaV}{n k:Nat}(hd:VD d n k):∀m,(∃j,j<=m/\tK d (xK d k j) k=xK d k j)\/m<cls (xK d k m)
 | 0=>.inr (jK (by rw[xJ,hd.hn];exact hd.n1))
 | m+1=>by
  rcases qGH hd m with ⟨j,hj,h⟩|h
  ·exact .inl ⟨j,by omega,h⟩
  ·by_cases e:tK d (xK d k m) k=xK d k m
   ·exact .inl ⟨m,by omega,e⟩
   ·have:=nQ hd (by rw[xJ,hd.hn]) (tT d k m) e
    exact .inr (by rw[xK];omega)
theorem lH {d:DfaV}{n k:Nat}(hd:VD d n k):tK d (yF d k) k=yF d k:=by
 rcases qGH hd d.final.length with ⟨j,hj,h⟩|h
 ·rw[oF hj h,h]
 have:=cls_le (xK d k d.final.length);rw[xJ]at this;omega
theorem vD (d:DfaV)(k:Nat):(yF d k).length=d.final.length:=xJ _ _ _
theorem uE (d:DfaV)(k:Nat):Norm (yF d k):=tT _ _ _
theorem qEO {p:List Nat}(h:Norm p):yO p=List.range (cls p):=by
 refine List.ext_getElem (by simp[cls]) fun i h1 h2=>?_;rw[List.getElem_range];have hm:=List.getElem_mem h1;obtain⟨q,hq,e⟩:=List.getElem_of_mem (xY.1 hm);have hh:(numb p)[q]'(by rw[yW];exact hq)=p[q]:=by simp only[show numb p=p from h]
 rw[pW hq,e]at hh;have h3:=List.idxOf_lt_length_of_mem hm;have h4:=List.getElem_idxOf h3;have:=(List.getElem_inj (rB p)).1 h4;omega
theorem mJ {p:List Nat}(h:Norm p)(k:Nat):yO (p.take k)=List.range (cls (p.take k)):=by
 have h1:=rO p k;rw[qEO h]at h1;obtain⟨r,hr⟩:=h1;refine List.ext_getElem (by simp[cls]) fun i h1 h2=>?_;rw[List.getElem_range];have:(yO (p.take k)++r)[i]'(by rw[List.length_append];omega)=i:=by simp only[hr,List.getElem_range]
 rwa [List.getElem_append_left h1]at this
theorem lZ {p:List Nat}(h:Norm p){q:Nat}(hq:q<p.length):p.getD q 0<=cls (p.take q)/\(p.getD q 0=cls (p.take q)->cls (p.take (q+1))=cls (p.take q)+1)/\(p.getD q 0≠cls (p.take q)->cls (p.take (q+1))=cls (p.take q)):=by
 have h1:=mJ h (q+1);have e:yO (p.take (q+1))=wO (yO (p.take q)) p[q]:=by rw[List.take_succ_eq_append_getElem hq,sJ]
 have h0:=mJ h q;rw[zK hq];by_cases hm:p[q]∈yO (p.take q)
 ·have h2:p[q]<cls (p.take q):=by rw[h0]at hm;exact List.mem_range.1 hm
  rw[tE hm]at e;have:cls (p.take (q+1))=cls (p.take q):=by unfold cls;rw[e]
  exact⟨by omega,fun h=>by omega,fun _=>this⟩
 rw[vN hm]at e;have hc:cls (p.take (q+1))=cls (p.take q)+1:=by unfold cls;rw[e];simp
 have hl:p[q]=cls (p.take q):=by
  rw[h1,h0,hc,List.range_succ]at e;have:=List.append_cancel_left e;simpa using this.symm
 exact⟨by omega,fun _=>hc,fun h=>absurd hl h⟩
def tX (p:List Nat)(k:Nat):List Nat:=(List.range k).filter fun q=>p.getD q 0 == cls (p.take q)
theorem uO {p:List Nat}{k:Nat}(h:p.getD k 0=cls (p.take k)):tX p (k+1)=tX p k++[k]:=by
 rw[tX,List.range_succ,List.filter_append,List.filter_cons,if_pos (beq_iff_eq.2 h)];rfl
theorem uM {p:List Nat}{k:Nat}(h:p.getD k 0≠cls (p.take k)):tX p (k+1)=tX p k:=by
 rw[tX,List.range_succ,List.filter_append,List.filter_cons,if_neg (fun e=>h (beq_iff_eq.1 e)),List.filter_nil,List.append_nil];rfl
theorem vK {p:List Nat}(h:Norm p):∀k,k<=p.length->(tX p k).length=cls (p.take k)
 | 0,_=>by simp[tX,cls,yO]
 | k+1,hk=>by
  obtain⟨h0,h1,h2⟩:=lZ h (show k<p.length by omega)
  have ih:=vK h k (by omega)
  by_cases e:p.getD k 0=cls (p.take k)
  ·rw[uO e,List.length_append,ih,h1 e];rfl
  ·rw[uM e,ih,h2 e]
theorem iV {p:List Nat}(h:Norm p):∀k,k<=p.length->∀c,c<cls (p.take k)->p.getD ((tX p k).getD c 0) 0=c/\(tX p k).getD c 0<k
 | 0,_,c,hc=>by simp[cls,yO]at hc
 | k+1,hk,c,hc=>by
  obtain⟨h0,h1,h2⟩:=lZ h (show k<p.length by omega)
  have hl:=vK h k (by omega)
  by_cases e:p.getD k 0=cls (p.take k)
  ·rw[h1 e]at hc
   rw[uO e]
   by_cases hc':c<cls (p.take k)
   ·have ih:=iV h k (by omega) c hc'
    rw[show (tX p k++[k]).getD c 0=(tX p k).getD c 0 from by simp[List.getD,List.getElem?_append_left (show c<(tX p k).length by omega)]]
    exact⟨ih.1,by omega⟩
   ·have hc2:c=(tX p k).length:=by omega
    rw[show (tX p k++[k]).getD c 0=k from by simp[List.getD,hc2]]
    exact⟨by omega,by omega⟩
  ·rw[h2 e]at hc
   rw[uM e]
   have ih:=iV h k (by omega) c hc
   exact⟨ih.1,by omega⟩
def reps (p:List Nat):List Nat:=tX p p.length
def uD (p:List Nat)(r:List Int):List Int:=r.map fun s=>((p.getD s.toNat 0:Nat):Int)
def wQ (d:DfaV)(p:List Nat):DfaV :=
 ⟨d.letters,((p.getD (st0 d) 0:Nat):Int),(reps p).map fun q=>d.final.getD q false,(reps p).map fun q=>uD p (d.next.getD q [])⟩
theorem xR {α β:Type}{l:List α}{f:α->β}{i:Nat}{x:α}{y:β}(h:i<l.length):(l.map f).getD i y=f (l.getD i x):=by
 rw[zK (by simpa using h),zK h];simp
theorem gF {p:List Nat}{r:List Int}{a:Nat}(h:a<r.length):(uD p r).getD a 0=((p.getD (r.getD a 0).toNat 0:Nat):Int):=by
 rw[uD,xR (x:=0) h]
theorem pH {p:List Nat}(h:Norm p):(reps p).length=cls p:=by
 have:=vK h p.length (Nat.le_refl _)
 rwa [List.take_length]at this
theorem pU {p:List Nat}(h:Norm p){c:Nat}(hc:c<cls p):p.getD ((reps p).getD c 0) 0=c/\(reps p).getD c 0<p.length :=
 iV h p.length (Nat.le_refl _) c (by rwa [List.take_length])
theorem sH {p:List Nat}(h:Norm p){i:Nat}(hi:i<p.length):p.getD i 0<cls p:=by
 have:=qKG (l:=p);rw[h]at this;rw[zK hi];exact this _ (List.getElem_mem hi)
section
variable {d:DfaV} {n k:Nat} {p:List Nat}
theorem aX (hd:VD d n k)(hp:p.length=n)(hn:Norm p){c a:Nat}(hc:c<cls p)(ha:a<k):ent (wQ d p).next c a=((p.getD (nx d ((reps p).getD c 0) a) 0:Nat):Int):=by
 have hr:=pU hn hc;unfold ent wQ;rw[xR (x:=0) (by rw[pH hn];exact hc),gF (by rw[hd.row _ (by omega)];exact ha)];rfl
theorem aU (hd:VD d n k)(hp:p.length=n)(hn:Norm p):VD (wQ d p) (cls p) k where
 hk:=hd.hk
 k1:=hd.k1
 k6:=hd.k6
 hn:=by simp[wQ,pH hn]
 n1:=jK (by rw[hp];exact hd.n1)
 nbig:=Nat.le_trans (cls_le p) (by rw[hp];exact hd.nbig)
 nl:=by simp[wQ,pH hn]
 s0:=by simp[wQ]
 sn:=by
  have:=sH hn (i:=st0 d) (by rw[hp];exact oU hd);simp only[wQ];omega
 row:=fun c hc=>by
  simp only[wQ];rw[xR (x:=0) (by rw[pH hn];exact hc)];have hr:=pU hn hc;rw[uD,List.length_map,hd.row _ (by omega)]
 lo:=fun c a hc ha=>by rw[aX hd hp hn hc ha];omega
 hi:=fun c a hc ha=>by
  rw[aX hd hp hn hc ha];have hr:=pU hn hc;have:=sH hn (i:=nx d ((reps p).getD c 0) a) (by rw[hp];exact pI hd (by omega) ha);omega
theorem qQP (hd:VD d n k)(hp:p.length=n)(hn:Norm p)(a9:tK d p k=p){q a:Nat}(hq:q<n)(ha:a<k):nx (wQ d p) (p.getD q 0) a=p.getD (nx d q a) 0:=by
 have h0:∀c∈p,c<n:=by have:=oD hn;rwa [hp]at this
 have hc:=sH hn (i:=q) (by omega);have hr:=pU hn hc;have h1:=rK hd hp h0 (i:=(reps p).getD (p.getD q 0) 0) (j:=q) (by omega) hq k (Nat.le_refl _);rw[a9]at h1;have h2:=(h1.1 hr.1).2 a ha;show (ent (wQ d p).next (p.getD q 0) a).toNat=_;rw[aX hd hp hn hc ha,h2];simp
end
def run (d:DfaV)(q:Nat)(w:List Nat):Nat:=w.foldl (nx d) q
def xM (k:Nat)(w:List Nat):Prop:=∀a∈w,a<k
theorem kU {d:DfaV}{n k:Nat}(hd:VD d n k):∀(w:List Nat) {q:Nat},q<n->xM k w->run d q w<n
 | [],q,hq,_=>hq
 | a::w,q,hq,hw=>kU hd w (pI hd hq (hw a (by simp))) (fun b hb=>hw b (by simp[hb]))
theorem qFQ (d:DfaV)(q:Nat)(w:List Nat)(a:Nat):run d q (w++[a])=nx d (run d q w) a:=by simp[run]
theorem iU (d:DfaV)(q:Nat)(u v:List Nat):run d q (u++v)=run d (run d q u) v:=by simp[run]
theorem aV {d:DfaV}{n k:Nat}{p:List Nat}(hd:VD d n k)(hp:p.length=n)(hn:Norm p)(a9:tK d p k=p):∀(w:List Nat) {q:Nat},q<n->xM k w->run (wQ d p) (p.getD q 0) w=p.getD (run d q w) 0
 | [],q,_,_=>rfl
 | a::w,q,hq,hw=>by
  have ha:=hw a (by simp)
  show run (wQ d p) (nx (wQ d p) (p.getD q 0) a) w=p.getD (run d (nx d q a) w) 0
  rw[qQP hd hp hn a9 hq ha]
  exact aV hd hp hn a9 w (pI hd hq ha) (fun b hb=>hw b (by simp[hb]))
def vV (d:DfaV)(l:List Nat)(i:Nat):Nat->List Nat
 | 0=>l
 | a+1=>wO (vV d l i a) (nx d (l.getD i 0) a)
def qS (d:DfaV)(k:Nat):Nat->Nat->List Nat->List Nat
 | 0,_,l=>l
 | f+1,i,l=>if i<l.length then qS d k f (i+1) (vV d l i k) else l
def yH (d:DfaV)(k:Nat):List Nat:=qS d k d.final.length 0 [st0 d]
theorem tU (d:DfaV)(l:List Nat)(i:Nat):∀a,l <+: vV d l i a
 | 0=>List.prefix_refl _
 | a+1=>(tU d l i a).trans (mE _ _)
theorem lO {d:DfaV}{l:List Nat}(h:l.Nodup)(i:Nat):∀a,(vV d l i a).Nodup
 | 0=>h
 | a+1=>gY (lO h i a)
theorem sY {d:DfaV}{l:List Nat}{i:Nat}{y:Nat}:∀ {a},y∈vV d l i a↔y∈l\/∃b,b<a/\y=nx d (l.getD i 0) b
 | 0=>by simp[vV]
 | a+1=>by
  rw[vV,kF,sY,or_assoc]
  refine or_congr_right ⟨?_,?_⟩
  ·rintro (⟨b,hb,h⟩|h)
   ·exact⟨b,by omega,h⟩
   ·exact⟨a,by omega,h⟩
  ·rintro ⟨b,hb,h⟩
   rcases Nat.lt_succ_iff_lt_or_eq.1 hb with hb|rfl
   ·exact .inl ⟨b,hb,h⟩
   ·exact .inr h
structure AccI (d:DfaV)(n k i:Nat)(l:List Nat):Prop where
 nd:l.Nodup
 lt:∀q∈l,q<n
 hd:0<l.length/\l.getD 0 0=st0 d
 cl:∀j a,j<i->j<l.length->a<k->nx d (l.getD j 0) a∈l
 re:∀q∈l,∃w,xM k w/\run d (st0 d) w=q
theorem pM {l m:List Nat}(h:l <+: m){i:Nat}(hi:i<l.length):m.getD i 0=l.getD i 0:=by
 obtain⟨r,rfl⟩:=h;simp[List.getD,List.getElem?_append_left hi]
theorem AccI.row {d:DfaV}{n k i:Nat}{l:List Nat}(hd:VD d n k)(h:AccI d n k i l)(hi:i<l.length):AccI d n k (i+1) (vV d l i k):=by
 have hp:=tU d l i k;have h2:=hp.length_le;have h0:l.getD i 0∈l:=by rw[zK hi];exact List.getElem_mem _
 have h1:=h.lt _ h0;refine⟨lO h.nd i k,fun q hq=>?_,⟨by have:=h.hd.1;omega,by rw[pM hp h.hd.1];exact h.hd.2⟩,fun j a hj hjl ha=>?_,fun q hq=>?_⟩
 ·rcases sY.1 hq with hq|⟨b,hb,rfl⟩
  ·exact h.lt q hq
  exact pI hd h1 hb
 ·rw[pM hp (show j<l.length by omega)]
  rcases Nat.lt_succ_iff_lt_or_eq.1 hj with hj|rfl
  ·exact sY.2 (.inl (h.cl j a hj (by omega) ha))
  exact sY.2 (.inr ⟨a,ha,rfl⟩)
 rcases sY.1 hq with hq|⟨b,hb,rfl⟩
 ·exact h.re q hq
 obtain⟨w,hw,e⟩:=h.re _ h0;refine⟨w++[b],fun c hc=>?_,by rw[qFQ,e]⟩;rcases List.mem_append.1 hc with hc|hc
 ·exact hw c hc
 rw[List.mem_singleton]at hc;subst hc;exact hb
theorem qU {l:List Nat}{n:Nat}(h:l.Nodup)(hl:∀q∈l,q<n):l.length<=n:=by
 have:=h.length_le_of_subset (fun q hq=>List.mem_range.2 (hl q hq));simpa using this
theorem AccI.start {d:DfaV}{n k:Nat}(hd:VD d n k):AccI d n k 0 [st0 d] :=
 ⟨by simp,fun q hq=>by rw[List.mem_singleton]at hq;subst hq;exact oU hd,⟨by simp,by simp⟩,fun j a hj=>by omega,fun q hq=>by
  rw[List.mem_singleton]at hq;subst hq;exact⟨[],fun a ha=>by simp at ha,rfl⟩⟩
theorem qGN {d:DfaV}{n k:Nat}(hd:VD d n k):∀f i l,AccI d n k i l->n<=i+f->AccI d n k n (qS d k f i l)/\(qS d k f i l).length<=n
 | 0,i,l,h,hf=>by
  have hl:=qU h.nd h.lt
  exact⟨⟨h.nd,h.lt,h.hd,fun j a hj hjl ha=>h.cl j a (by omega) hjl ha,h.re⟩,hl⟩
 | f+1,i,l,h,hf=>by
  rw[qS]
  split
  ·rename_i hi
   exact qGN hd f (i+1) _ (h.row hd hi) (by omega)
  ·rename_i hi
   have hl:=qU h.nd h.lt
   exact⟨⟨h.nd,h.lt,h.hd,fun j a hj hjl ha=>h.cl j a (by omega) hjl ha,h.re⟩,hl⟩
theorem xV {d:DfaV}{n k:Nat}(hd:VD d n k):AccI d n k n (yH d k)/\(yH d k).length<=n:=qGN hd _ _ _ (AccI.start hd) (by rw[hd.hn];omega)
theorem dI {d:DfaV}{k f i:Nat}{l:List Nat}(h:¬i<l.length):qS d k f i l=l:=by
 cases f with
 | zero=>rfl
 | succ f=>rw[qS,if_neg h]
def qR (l:List Nat)(q:Nat):Int:=if q∈l then (l.idxOf q:Int) else -1
def vG (l:List Nat)(r:List Int):List Int:=r.map fun s=>qR l s.toNat
def wN (d:DfaV)(k:Nat):DfaV:=⟨d.letters,0,(yH d k).map fun q=>d.final.getD q false,(yH d k).map fun q=>vG (yH d k) (d.next.getD q [])⟩
section
variable {d:DfaV} {n k:Nat}
theorem jR (hd:VD d n k){i a:Nat}(hi:i<(yH d k).length)(ha:a<k):ent (wN d k).next i a=(((yH d k).idxOf (nx d ((yH d k).getD i 0) a):Nat):Int):=by
 have hA:=(xV hd).1;have hq:=hA.lt _ (show (yH d k).getD i 0∈yH d k by rw[zK hi];exact List.getElem_mem _);have hn:=(xV hd).2;unfold ent wN;rw[xR (x:=0) hi,vG,xR (x:=0) (by rw[hd.row _ hq];exact ha),qR,if_pos]
 ·rfl
 exact hA.cl i a (by omega) hi ha
theorem mO (hd:VD d n k):VD (wN d k) (yH d k).length k where
 hk:=hd.hk
 k1:=hd.k1
 k6:=hd.k6
 hn:=by simp[wN]
 n1:=(xV hd).1.hd.1
 nbig:=Nat.le_trans (xV hd).2 hd.nbig
 nl:=by simp[wN]
 s0:=by simp[wN]
 sn:=by have:=(xV hd).1.hd.1;simp only[wN];omega
 row:=fun i hi=>by
  have hA:=(xV hd).1
  have hq:=hA.lt _ (show (yH d k).getD i 0∈yH d k by rw[zK hi];exact List.getElem_mem _)
  simp only[wN]
  rw[xR (x:=0) hi,vG,List.length_map,hd.row _ hq]
 lo:=fun i a hi ha=>by rw[jR hd hi ha];omega
 hi:=fun i a hi ha=>by
  have hn:=(xV hd).2
  rw[jR hd hi ha]
  have:=List.idxOf_lt_length_of_mem ((xV hd).1.cl i a (by omega) hi ha)
  omega
theorem qIV (hd:VD d n k){i a:Nat}(hi:i<(yH d k).length)(ha:a<k):nx (wN d k) i a=(yH d k).idxOf (nx d ((yH d k).getD i 0) a):=by
 show (ent (wN d k).next i a).toNat=_;rw[jR hd hi ha];simp
theorem fK (hd:VD d n k):∀(w:List Nat) {i:Nat},i<(yH d k).length->xM k w->(yH d k).getD (run (wN d k) i w) 0=run d ((yH d k).getD i 0) w
 | [],i,_,_=>rfl
 | a::w,i,hi,hw=>by
  have ha:=hw a (by simp)
  have hn:=(xV hd).2
  have hm:=(xV hd).1.cl i a (by omega) hi ha
  have hlt:=List.idxOf_lt_length_of_mem hm
  have h:=fK hd w (i:=nx (wN d k) i a) (by rw[qIV hd hi ha];exact hlt) (fun b hb=>hw b (by simp[hb]))
  show (yH d k).getD (run (wN d k) (nx (wN d k) i a) w) 0=run d (nx d ((yH d k).getD i 0) a) w
  rw[h,qIV hd hi ha,zK hlt,List.getElem_idxOf]
theorem lQ (hd:VD d n k){i:Nat}(hi:i<(yH d k).length):(wN d k).final.getD i false=d.final.getD ((yH d k).getD i 0) false:=by
 simp only[wN];rw[xR (x:=0) hi]
end
def minD (d:DfaV)(k:Nat):DfaV:=wN (wQ d (yF d k)) k
def minN (d:DfaV)(k:Nat):Nat:=(yH (wQ d (yF d k)) k).length
section
variable {d:DfaV} {n k:Nat}
theorem qE (hd:VD d n k):VD (wQ d (yF d k)) (cls (yF d k)) k:=aU hd (by rw[vD,hd.hn]) (uE d k)
theorem kV (hd:VD d n k):VD (minD d k) (minN d k) k:=mO (qE hd)
theorem qEF (hd:VD d n k):minN d k<=n:=Nat.le_trans (xV (qE hd)).2 (Nat.le_trans (cls_le _) (by rw[vD,hd.hn];exact Nat.le_refl _))
theorem qRI (d:DfaV)(k:Nat):st0 (minD d k)=0:=rfl
theorem qKT (hd:VD d n k){i:Nat}(hi:i<minN d k):∃w,xM k w/\run (minD d k) 0 w=i:=by
 have hA:=(xV (qE hd)).1;obtain⟨w,hw,e⟩:=hA.re _ (show (yH (wQ d (yF d k)) k).getD i 0∈_ by rw[zK hi];exact List.getElem_mem _);refine⟨w,hw,?_⟩;have h:=fK (qE hd) w hA.hd.1 hw;rw[hA.hd.2,e]at h;have hm:=kV hd;have l1:=kU hm w hm.n1 hw;unfold minN at l1 hi;show run (wN (wQ d (yF d k)) k) 0 w=i;have l1':run (wN (wQ d (yF d k)) k) 0 w<(yH (wQ d (yF d k)) k).length:=l1;rw[zK l1',zK hi]at h;exact(List.getElem_inj hA.nd).1 h
end
end Go.Proofs.Ytobakifdllameaa
