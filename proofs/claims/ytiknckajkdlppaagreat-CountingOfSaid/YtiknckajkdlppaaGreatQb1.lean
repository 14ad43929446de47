/- Part 1 of the proof. -/
import Derived.Test.YtiknckajkdlppaaGreatRows
import Derived.WalkKit
import Derived.WalkSpells
import Derived.WalkLawsBesides
import Derived.Lib.Hide
import Derived.BigQuiet
import Derived.Deep.QuietTactic
import Derived.Maps.Own
import Derived.Maps.Views
import Derived.Deep.LoopGhost
import Derived.OwnWalk
import Derived.ArgAppend
set_option linter.unusedVariables false
set_option linter.unusedSimpArgs false
set_option maxRecDepth 100000
set_option maxHeartbeats 16000000
namespace Go.Proofs.YtiknckajkdlppaaGreat
open Go.RowKit
variable{b w':World}{c d p:Prop}{e i off B base size pb g cap:Nat}{k:IntKind}{xs:List Value}{o:Obj}{m:Nat×Nat}
theorem Nm {α:Sort _}(a:α):∃x,x=a:=⟨a,rfl⟩
theorem Kc {a b:Prop}(x:a)(y:b)(z:c):Hid a ∧ Hid b ∧ Hid c:=⟨Lib.hid x,Lib.hid y,Lib.hid z⟩
theorem Kd {a b:Prop}(x:a)(y:b)(z:c)(u:d):Hid a ∧ Hid b ∧ Hid c ∧ Hid d:=⟨Lib.hid x,Kc y z u⟩
theorem Ke {a b e:Prop}(x:a)(y:b)(z:c)(u:d)(v:e):Hid a ∧ Hid b ∧ Hid c ∧ Hid d ∧ Hid e:=⟨Lib.hid x,Kd y z u v⟩
theorem Kf {a b e f:Prop}(x:a)(y:b)(z:c)(u:d)(v:e)(w:f):Hid a ∧ Hid b ∧ Hid c ∧ Hid d ∧ Hid e ∧ Hid f:=⟨Lib.hid x,Ke y z u v w⟩
theorem yo (h:p:=by omega):p:=h
theorem jd (h:p:=by decide):p:=h
theorem yq (h:p:=by simp):p:=h
theorem yk (h:p:=by kernel_rfl):p:=h
theorem jm (h:p:=by unfold maxLen;omega):p:=h
theorem jl {c:Nat}(h:c<=maxLen):c<=9223372036854775807:=h
theorem Oj {α:Type _}{a b:α}(h:some a=some b):a=b:=Option.some.inj h
theorem Ga (w:World)(o:Obj)(r:Option Nat):w.grownBy (w.alloc o) r:=World.grownBy_alloc w o r
theorem Kh (h:p):Hid p:=Lib.hid h
theorem sPa (xs:List Value)(i:Nat)(x:Value):xs.toArray.setIfInBounds i x=(xs.set i x).toArray:=List.setIfInBounds_toArray ..
theorem sPb (a b:Value)(l:List Value):(a::l).set 0 b=b::l:=rfl
theorem sPc (a b:Value)(n:Nat)(l:List Value):(a::l).set (n+1) b=a::l.set n b:=rfl
theorem sPd {α:Type _}{xs:List α}(h:i<xs.toArray.size):xs.toArray[i]=xs[i]'(by simpa using h):=List.getElem_toArray h
theorem sPe {α:Type _}{a:α}{l:List α}{h:0<(a::l).length}:(a::l)[0]'h=a:=rfl
theorem sPf {α:Type _}{a:α}{l:List α}{h:i+1<(a::l).length}:(a::l)[i+1]'h=l[i]'(Nat.lt_of_succ_lt_succ h):=rfl
theorem yQ {a b:Bool}(h:a=b):Ending.returned (.bool a)=.returned (.bool b):=by rw[h]
theorem yX {a b:Int}(h:a=b):Ending.returned (.int k a)=.returned (.int k b):=by rw[h]
def uE (w:World)(b off:Nat)(xs:List Value):Prop:=b<w.heap.size/\∀i (h:i<xs.length),w.cell? ⟨b,off+i,none⟩=some xs[i]
def Row (B:Nat)(w:World)(v:Value)(xs:List Value):Prop :=
 (∃a cap,v=.slice a 0 cap/\xs=[])\/∃b off cap,v=.slice (some ⟨b,off,none⟩) xs.length cap/\b<B/\xs.length<=cap/\cap<=maxLen/\uE w b off xs
theorem uE.kept {w:World}{b:Nat}{row:Option Nat}(h:uE w b off xs)(hg:w.grownBy w' row)(hr:row≠some b):uE w' b off xs :=
 ⟨Nat.lt_of_lt_of_le h.1 hg.size,fun i hi=>(World.cell?_of_block (hg.block b h.1 (fun e=>hr e.symm))).trans (h.2 i hi)⟩
theorem Row.kept {w:World}{v:Value}{row:Option Nat}(h:Row B w v xs)(hg:w.grownBy w' row)(hr:∀k,row=some k->B<=k):Row B w' v xs:=by
 rcases h with h|⟨b,off,cap,h1,h2,h3,h4,h5⟩
 ·exact .inl h
 ·exact .inr ⟨b,off,cap,h1,h2,h3,h4,h5.kept hg (fun e=>by have:=hr b e;omega)⟩
theorem Row.mono {B':Nat}{w:World}{v:Value}(h:Row B w v xs)(hB:B<=B'):Row B' w v xs:=by
 rcases h with h|⟨b,off,cap,h1,h2,h3⟩
 ·exact .inl h
 ·exact .inr ⟨b,off,cap,h1,yo,h3⟩
theorem uE.of_heap {w:World}{b:Nat}(h:uE w b off xs)(e:w'.heap=w.heap):uE w' b off xs :=
 ⟨by rw[e];exact h.1,fun i hi=>(World.cell?_of_block (by rw[e])).trans (h.2 i hi)⟩
theorem Row.of_heap {w:World}{v:Value}(h:Row B w v xs)(e:w'.heap=w.heap):Row B w' v xs:=by
 rcases h with h|⟨b,off,cap,h1,h2,h3,h4,h5⟩
 ·exact .inl h
 ·exact .inr ⟨b,off,cap,h1,h2,h3,h4,h5.of_heap e⟩
theorem uG {w a:World}{row:Option Nat}(h:w.grownBy a row)(h1:b.os=a.os)(h2:b.tape=a.tape)(h3:b.output=a.output)(h4:b.heap=a.heap):w.grownBy b row :=
 ⟨h1.trans h.os,h2.trans h.tape,h3.trans h.output,by rw[h4];exact h.size,fun k hk hne=>by rw[h4];exact h.block k hk hne⟩
theorem zX (w:World)(row:Option Nat):w.grownBy w row:=⟨rfl,rfl,rfl,Nat.le_refl _,fun _ _ _=>rfl⟩
theorem zT (w:World)(n:Nat)(row:Option Nat):w.grownBy (w.drewN n) row:=⟨rfl,rfl,rfl,Nat.le_refl _,fun _ _ _=>rfl⟩
theorem zY (w:World)(row:Option Nat):w.grownBy w.drew row:=⟨rfl,rfl,rfl,Nat.le_refl _,fun _ _ _=>rfl⟩
theorem rM {a c:World}{r s row:Option Nat}(h:a.grownBy b r)(k:b.grownBy c s)(hr:r=none\/r=row\/∃x,r=some x/\a.heap.size<=x)(hs:s=none\/s=row\/∃x,s=some x/\a.heap.size<=x):a.grownBy c row:=by
 refine⟨k.os.trans h.os,k.tape.trans h.tape,k.output.trans h.output,Nat.le_trans h.size k.size,fun i hi hne=>?_⟩;refine(k.block i (Nat.lt_of_lt_of_le hi h.size) ?_).trans (h.block i hi ?_)
 ·rcases hs with rfl|rfl|⟨x,rfl,hx⟩
  ·simp
  ·exact hne
  ·simp;omega
 ·rcases hr with rfl|rfl|⟨x,rfl,hx⟩
  ·simp
  ·exact hne
  ·simp;omega
theorem zI {a c:World}{row:Option Nat}(h:a.grownBy b row)(k:b.grownBy c row):a.grownBy c row:=rM h k (.inr (.inl rfl)) (.inr (.inl rfl))
theorem zH (w:World)(p:Addr)(u:Value):w.grownBy (w.setCell p u) (some p.block) :=
 ⟨rfl,rfl,rfl,by simp[World.setCell],fun k _ hk=>Below.heap_setCell _ _ _ _ (fun e=>hk (by rw[e]))⟩
theorem vM {a:World}{row:Option Nat}(h:a.grownBy b none):a.grownBy b row :=
 ⟨h.os,h.tape,h.output,h.size,fun k hk _=>h.block k hk yq⟩
theorem below_of_grown {a:World}(h:a.grownBy b none):Below a.heap.size a b:=⟨h.os,h.tape,h.output,h.size,fun k hk=>h.block k hk yq⟩
theorem kG {a:World}{row:Option Nat}(h:Below a.heap.size a b):a.grownBy b row:=⟨h.os,h.tape,h.output,h.size,fun k hk _=>h.block k hk⟩
section
variable {P:Program} {f:FuncId} {args:Array Value} {w:World} {a n:Nat} {v:Value}
theorem dS (h:Calls P f args (w.drewN n) fun e w'=>e=.returned v/\w.drewN n=w'):Calls P f args (w.drewN n) fun e w''=>e=.returned v/\∃m,w''=w.drewN m :=
 h.mono fun _ _ ⟨he,hm⟩=>⟨he,n,hm.symm⟩
theorem kD (h:Calls P f args (w.drewN (a+n)) fun e w'=>e=.returned v/\w.drewN (a+n)=w'):
  Calls P f args (w.drewN (a+n)) fun e w''=>e=.returned v/\∃m,w''=w.drewN (a+m) :=
 h.mono fun _ _ ⟨he,hm⟩=>⟨he,n,hm.symm⟩
theorem qAS (h:Calls P f args (w.drewN (a+n)) fun e w'=>e=.returned v/\∃m,w'=(w.drewN (a+n)).drewN m):
  Calls P f args (w.drewN (a+n)) fun e w''=>e=.returned v/\∃m,w''=w.drewN (a+m) :=
 h.mono fun _ _ ⟨he,m,hm⟩=>⟨he,n+m,by rw[hm,World.drewN_drewN,Nat.add_assoc]⟩
end
structure ElemOk (P:Program)(t e:TypeId)(z:Value)(bytes:Nat):Prop where
 ht:P.underlying t=some (.slice e)
 hi:(P.info? e).map (fun i=>(i.zero,i.size,i.bytes))=some (some z,1,bytes)
 hz:z.cells.size=1
theorem rX {w:World}{v:Value}{n:Nat}(h:w.ownsRow base e size v n xs):∃sa sc,v=.slice sa n sc:=by
 rcases h.2 with ⟨rfl,rfl⟩|⟨g,cap,cur,rfl,_⟩
 ·exact⟨none,0,rfl⟩
 ·exact⟨_,_,rfl⟩
theorem zS {w:World}{b:Nat}(h:w.heap[b]?=some o):b<w.heap.size:=(Array.getElem?_eq_some_iff.1 h).1
theorem app1 {P:Program}{w:World}{ops:Array Oper}{rest:List Oper}{o:Oper}{a:Act}{Q:Exit->Act->World->Prop}(hgd:o.guard=none)(s x:Operand)(t:TypeId)(ho:o.op=.call { callee:=.builtin .append,args:=#[s,x],argTypes:=#[t,t] }){e:TypeId}{z:Value}{bytes:Nat}(E:ElemOk P t e z bytes)(base:Nat)(v:Value)(n:Nat)(xs:List Value)(hs:a.eval s=v)(hown:w.ownsRow base e 1 v n xs)(u:Value)(hx:a.eval x=.slice (some ⟨w.heap.size,0,none⟩) 1 1)(h1:u.oneCell'=true)(h63:n+1<=maxLen)(hbytes:(n+1)*bytes<=140737488355328)(hbase:base<=w.heap.size)(h:∀sa sc w',w'.ownsRow base e 1 (.slice sa (n+1) sc) (n+1) (xs++[u])->w.grownBy w' v.ownBlock->w.heap.size<w'.heap.size->wpList P ops Q rest (a.put o.dst (.slice sa (n+1) sc)) w'):wpList P ops Q (o::rest) a (w.alloc (.cells #[u] e)):=by
 obtain⟨i,hi,hz,h0,h3⟩:=info_parts E.hi;refine wpList_append_own _ hgd s x t ho base e i z 1 bytes E.ht hi hz h0 h3 E.hz jd v n xs hs (hown.alloc _) ⟨w.heap.size,0,none⟩ 1 1 [u] hx rfl ?_ ?_ h63 hbytes (by simp;omega) ?_
 ·intro j u' hj
  match j,hj with
  | 0,hj=>simp at hj;subst hj;simp[Addr.add]
 ·intro u' hu;simp at hu;subst hu;exact h1
 ·intro v' w' h1 h2 _
  obtain⟨sa,sc,rfl⟩:=rX h1;refine h sa sc w' h1 ?_ (by have:=h2.size;simp at this;omega);refine⟨h2.os,h2.tape,h2.output,by have:=h2.size;simp at this;omega,fun k hk hne=>(h2.block k (by simp;omega) hne).trans ?_⟩;exact Below.heap_alloc w _ k hk
theorem Row.of_owns {w:World}{v:Value}{n:Nat}(h:w.ownsRow base e 1 v n xs):Row w.heap.size w v xs:=by
 have hl:xs.length=n:=by have:=h.1;omega
 rcases h.2 with ⟨rfl,rfl⟩|⟨g,cap,cur,rfl,hb,hg,hnc,hcm,hcs,htake⟩
 ·exact .inl ⟨_,_,rfl,List.eq_nil_of_length_eq_zero hl⟩
 ·have h0:=(Array.getElem?_eq_some_iff.1 hg).1
  refine .inr ⟨g,0,cap,by rw[hl],h0,yo,hcm,h0,fun i hi=>?_⟩;rw[Nat.zero_add,h.cellAt i yo,List.getElem?_eq_getElem hi]
theorem yY {w:World}{v:Value}{n:Nat}{row:Option Nat}(h:w.ownsRow base e 1 v n xs)(hg:w.grownBy w' row)(hr:∀k,row=some k->k<base):w'.ownsRow base e 1 v n xs:=by
 refine h.kept hg ?_;rcases hv:v.ownBlock with _|k
 ·exact .inl rfl
 ·refine .inr fun e=>?_
  have:=hr k e.symm;have:=(h.lt k hv).1;omega
theorem zR {w:World}{v:Value}{n:Nat}{e':Nat}{c:Array Value}(h:w.ownsRow base e size v n xs)(hp:w.heap[pb]?=some (.cells c e' m))(hne:e≠e'):v.ownBlock≠some pb:=by
 rcases h.2 with ⟨rfl,_⟩|⟨g,cap,cur,rfl,_,hg,_⟩
 ·simp[Value.ownBlock]
 ·intro hv
  simp[Value.ownBlock]at hv;subst hv;rw[hg]at hp;simp at hp;exact hne hp.2.1
theorem zD {w:World}{row:Option Nat}(h:w.heap[pb]?=some o)(hg:w.grownBy w' row)(hr:row≠some pb:=by simp):w'.heap[pb]?=some o :=
 (hg.block pb (Array.getElem?_eq_some_iff.1 h).1 (fun e=>hr e.symm)).trans h
theorem zJ {w:World}{c:Array Value}(h:w.heap[pb]?=some (.cells c e m))(i:Nat)(hi:i<c.size:=by simp):w.cell? ⟨pb,i,none⟩=some c[i]:=by
 rw[cell_of_row w pb i _ _ _ h];simp[hi]
theorem zB {w:World}{c:Array Value}(h:w.heap[pb]?=some (.cells c e (0,0)))(i:Nat):w.frozen? ⟨pb,i,none⟩=false:=frozen_of_row w pb i _ _ h
theorem zW (w:World)(o:Obj):(w.alloc o).heap.size=w.heap.size+1:=yq
theorem kN {w a:World}{row:Option Nat}(h:w.grownBy a row)(o:Obj):w.grownBy (a.alloc o) row:=zI h (Ga a o row)
theorem zE {w a:World}{row s:Option Nat}(h:w.grownBy a row)(k:a.grownBy b s)(hs:∀x,s=some x->w.heap.size<=x:=by simp):w.grownBy b row :=
 rM h k (.inr (.inl rfl)) (by
  rcases s with _|x
  ·exact .inl rfl
  ·exact .inr (.inr ⟨x,rfl,hs x rfl⟩))
theorem yM {w a:World}{row:Option Nat}{p:Nat}(h:w.grownBy a row)(k:a.grownBy b (some p))(hp:w.heap.size<=p):w.grownBy b row:=zE h k (fun _ e=>by rw[<-Oj e];exact hp)
theorem uE.map {α:Type}{f:α->Value}{w:World}{b:Nat}{xs:List α}(h:uE w b off (xs.map f))(i:Nat)(hi:i<xs.length):w.cell? ⟨b,off+i,none⟩=some (f xs[i]):=by
 rw[h.2 i (by simpa using hi),List.getElem_map]
def Arr (w:World)(g:Nat)(e:TypeId)(xs:List Value):Prop:=∃cur rest,w.heap[g]?=some (.cells cur e (0,0))/\cur.toList=xs++rest
theorem Arr.lt {w:World}{e:TypeId}(h:Arr w g e xs):g<w.heap.size:=by
 obtain⟨_,_,h,_⟩:=h;exact zS h
theorem Arr.cell {w:World}{e:TypeId}(h:Arr w g e xs)(i:Nat)(hi:i<xs.length):w.cell? ⟨g,i,none⟩=some xs[i]:=by
 obtain⟨cur,rest,h,hc⟩:=h;rw[cell_of_row w g i _ _ _ h,<-Array.getElem?_toList,hc,List.getElem?_append_left hi,List.getElem?_eq_getElem hi]
theorem Arr.frozen {w:World}{e:TypeId}(h:Arr w g e xs)(i:Nat):w.frozen? ⟨g,i,none⟩=false:=by
 obtain⟨cur,rest,h,hc⟩:=h;exact frozen_of_row w g i _ _ h
theorem Arr.set {w:World}{e:TypeId}(h:Arr w g e xs)(i:Nat)(hi:i<xs.length)(u:Value):Arr (w.setCell ⟨g,i,none⟩ u) g e (xs.set i u):=by
 obtain⟨cur,rest,h,hc⟩:=h;refine⟨cur.setIfInBounds i u,rest,heap_setCell_same w g i _ _ _ h,?_⟩;rw[Array.toList_setIfInBounds,hc,List.set_append_left _ _ hi]
theorem Arr.kept {w:World}{e:TypeId}{row:Option Nat}(h:Arr w g e xs)(hg:w.grownBy w' row)(hr:row≠some g):Arr w' g e xs:=by
 obtain⟨cur,rest,h,hc⟩:=h;exact⟨cur,rest,zD h hg hr,hc⟩
theorem Arr.of_heap {w:World}{e:TypeId}(h:Arr w g e xs)(he:w'.heap=w.heap):Arr w' g e xs:=by
 obtain⟨cur,rest,h,hc⟩:=h;exact⟨cur,rest,by rw[he];exact h,hc⟩
theorem Arr.of_owns {w:World}{n:Nat}{e:TypeId}(h:w.ownsRow base e 1 (.slice (some ⟨g,0,none⟩) n cap) n xs):Arr w g e xs:=by
 rcases h.2 with ⟨h',_⟩|⟨g',cap',cur,h',hb,hg,hnc,hcm,hcs,htake⟩
 ·simp at h'
 ·simp only[Value.slice.injEq,Option.some.injEq,Addr.mk.injEq,and_true,true_and]at h'
  obtain⟨rfl,rfl⟩:=h';refine⟨cur,cur.toList.drop n,hg,?_⟩;rw[Nat.mul_one]at htake;rw[<-htake,List.take_append_drop]
theorem Arr.row {w:World}{e:TypeId}(h:Arr w g e xs):uE w g 0 xs:=⟨h.lt,fun i hi=>by rw[Nat.zero_add];exact h.cell i hi⟩
theorem Arr.new (w:World)(e:TypeId)(cs:Array Value):Arr (w.alloc (.cells cs e)) w.heap.size e cs.toList:=⟨cs,[],heap_alloc_new w _,yq⟩
theorem Arr.front {w:World}{e:TypeId}{ys:List Value}(h:Arr w g e (xs++ys)):Arr w g e xs:=by
 obtain⟨cur,rest,h,hc⟩:=h;exact⟨cur,ys++rest,h,by rw[hc,List.append_assoc]⟩
theorem Arr.type_ne {w:World}{g':Nat}{e e':TypeId}{c:Array Value}(h:Arr w g e xs)(hp:w.heap[g']?=some (.cells c e' m))(hne:e≠e'):g≠g':=by
 obtain⟨cur,rest,h,hc⟩:=h;rintro rfl;rw[h]at hp;simp at hp;exact hne hp.2.1
theorem bU {P:Program}{w:World}{xs:List Int}(src e:TypeId)(hs:P.underlying src=some (.slice e))(he:P.underlying e=some (.int .u8))(dst:TypeId)(hd:P.underlying dst=some .string)(n cap:Nat)(hn:xs.length=n)(h:Arr w g e (xs.map (Value.int .u8))):(convert src dst (.slice (some ⟨g,0,none⟩) n cap)).run P w=.ok (.string (strOfNums xs)) w:=by
 refine run_convert_bytes_arg w src e hs he g 0 n cap xs hn (fun i hi=>?_) dst hd;rw[Nat.zero_add,h.cell i (by simp;omega)];simp[List.getD,List.getElem?_eq_getElem (show i<xs.length by omega)]
theorem Row.of_arg {w:World}{a:Option Addr}{len:Nat}{zs:List Int}(h:(a=none/\len=0/\cap=0/\zs=[])\/∃x,a=some x/\len<=cap/\cap<=maxLen/\zs.length=cap/\(∀i,i<zs.length->w.cell? (x.add i)=some (.int k (zs.getD i 0)))/\∀n∈zs,(Lit.int k n).wf=true):Row w.heap.size w (.slice a len cap) ((zs.take len).map (Value.int k)):=by
 rcases h with ⟨rfl,rfl,rfl,rfl⟩|⟨x,rfl,h1,h2,h3,h4,_⟩
 ·exact .inl ⟨_,_,rfl,rfl⟩
 ·by_cases hl:len=0
  ·subst hl
   exact .inl ⟨_,_,rfl,yq⟩
  ·obtain⟨b,off,spot⟩:=x
   have hc:=h4 0 yo;have h5:spot=none:=by simpa [Addr.add] using World.cell?_spot hc
   subst h5;have h6:∀i,(⟨b,off,none⟩:Addr).add i=⟨b,off+i,none⟩:=fun i=>by unfold Addr.add;split<;>simp_all
   have hb:b<w.heap.size:=(by rw[h6]at hc;exact World.block_lt_of_cell? w _ hc);have h0:((zs.take len).map (Value.int k)).length=len:=by simp;omega
   refine .inr ⟨b,off,cap,by rw[h0],hb,by rw[h0];exact h1,h2,hb,fun i hi=>?_⟩;rw[h0]at hi;have:=h4 i yo;rw[h6]at this;rw[this];simp[List.getD,List.getElem?_eq_getElem (show i<zs.length by omega)]
open Go.Maps
theorem aO:Keyed Tryz.prog 3:=int_keyed (q:=.i64) yk
end Go.Proofs.YtiknckajkdlppaaGreat
namespace Go.Proofs.YtiknckajkdlppaaGreat
variable{n x y b off a9 base e g:Nat}{gs l:List Nat}{xs:List Value}{zs:List Int}{A:Nat->Option Addr}{C:Nat->Nat}{z:Value}{P:Program}{ops:Array Oper}{o:Oper}{a:Act}{Q:Exit->Act->World->Prop}{bs:List Bool}
def ent (t:List (List Int))(x y:Nat):Int:=(t.getD x []).getD y 0
def entN (t:List (List Int))(x y:Nat):Nat:=(ent t x y).toNat
def gL (n:Nat)(r:List Int):Bool:=decide (r.length=n) && r.all fun x=>decide (0<=x/\x<n)
def tJ (t:List (List Int)):Int:=if 400<t.length then 3 else if t.length=0 then 4 else if t.all (gL t.length) then 0 else 4
structure Shape (t:List (List Int)):Prop where
 pos:0<t.length
 le:t.length<=400
 row:∀x,x<t.length->(t.getD x []).length=t.length
 lo:∀x y,x<t.length->y<t.length->0<=ent t x y
 hi:∀x y,x<t.length->y<t.length->ent t x y<t.length
theorem pB {r:List Int}:gL n r=true↔r.length=n/\∀y,y<r.length->0<=r.getD y 0/\r.getD y 0<n:=by
 simp only[gL,Bool.and_eq_true,decide_eq_true_eq,List.all_eq_true];refine and_congr_right fun _=>⟨fun h y hy=>?_,fun h x hx=>?_⟩
 ·have:=h (r[y]) (List.getElem_mem hy)
  simpa [List.getD,List.getElem?_eq_getElem hy] using this
 obtain⟨y,hy,rfl⟩:=List.getElem_of_mem hx;have:=h y hy;simpa [List.getD,List.getElem?_eq_getElem hy] using this
theorem qEU {t:List (List Int)}(h:tJ t=0):Shape t:=by
 unfold tJ at h
 split at h
 ·omega
 split at h
 ·omega
 split at h
 ·rename_i h1 h2 h3
  rw[List.all_eq_true]at h3
  have hr:∀x,x<t.length->gL t.length (t.getD x [])=true:=fun x hx=>by
   have:=h3 t[x] (List.getElem_mem hx);simpa [List.getD,List.getElem?_eq_getElem hx] using this
  refine⟨yo,yo,fun x hx=>(pB.1 (hr x hx)).1,fun x y hx hy=>?_,fun x y hx hy=>?_⟩
  ·obtain⟨e,h⟩:=pB.1 (hr x hx)
   exact(h y yo).1
  obtain⟨e,h⟩:=pB.1 (hr x hx);exact(h y yo).2
 omega
theorem qBS {t:List (List Int)}(h:Shape t)(hx:x<t.length)(hy:y<t.length):(entN t x y:Int)=ent t x y:=Int.toNat_of_nonneg (h.lo x y hx hy)
theorem qK {t:List (List Int)}(h:Shape t)(hx:x<t.length)(hy:y<t.length):entN t x y<t.length:=by
 have h1:=qBS h hx hy;have h2:=h.hi x y hx hy;omega
def oZ (t:List (List Int))(g:Nat):Prop:=∀x y,x<t.length->y<t.length->entN t (entN t x g) y=entN t x (entN t g y)
def qMB (t:List (List Int)):Prop:=∀g,g<t.length->oZ t g
open Classical in
noncomputable def qD (t:List (List Int)):Int:=if tJ t≠0 then tJ t else if qMB t then 0 else 5
theorem qAD {t:List (List Int)}(h:tJ t≠0):qD t=tJ t:=by rw[qD,if_pos h]
theorem iX {t:List (List Int)}(h:tJ t=0)(ha:qMB t):qD t=0:=by rw[qD,if_neg yo,if_pos ha]
theorem qFY {t:List (List Int)}(h:tJ t=0)(ha:¬qMB t):qD t=5:=by rw[qD,if_neg yo,if_neg ha]
inductive Gen (t:List (List Int))(gs:List Nat):Nat->Prop where
 | base (g:Nat):g∈gs->Gen t gs g
 | mul (x y:Nat):Gen t gs x->Gen t gs y->Gen t gs (entN t x y)
theorem Gen.mono {t:List (List Int)}{hs:List Nat}(h:∀g∈gs,g∈hs)(hx:Gen t gs x):Gen t hs x:=by
 induction hx with
 | base g hg=>exact .base g (h g hg)
 | mul x y _ _ h1 h2=>exact .mul x y h1 h2
theorem qKU {t:List (List Int)}(hs:Shape t)(hg:∀g∈gs,g<t.length/\oZ t g)(hx:Gen t gs x):x<t.length/\oZ t x:=by
 induction hx with
 | base g h=>exact hg g h
 | mul g h _ _ h1 h2 =>
  obtain⟨hg,lg⟩:=h1;obtain⟨hh,lh⟩:=h2;refine⟨qK hs hg hh,fun x y hx hy=>?_⟩;have e1:=lg x h hx hh;have e2:=lh (entN t x g) y (qK hs hx hg) hy;have e3:=lg x (entN t h y) hx (qK hs hh hy);have e4:=lh g y hg hy;rw[<-e1,e2,e3,e4]
theorem dC {t:List (List Int)}(hs:Shape t)(a9:∀x,x<t.length->Gen t gs x)(hg:∀g∈gs,g<t.length/\oZ t g):qMB t :=
 fun x hx=>(qKU hs hg (a9 x hx)).2
open Go.RowKit
def ints (zs:List Int):List Value:=zs.map (Value.int .i64)
theorem zL (zs:List Int):(ints zs).length=zs.length:=by simp[ints]
theorem Row.some_ {B:Nat}{w:World}{v:Value}(h:Row B w v xs)(hx:0<xs.length):∃b off cap,v=.slice (some ⟨b,off,none⟩) xs.length cap/\b<B/\xs.length<=cap/\cap<=maxLen/\uE w b off xs:=by
 rcases h with ⟨a,c,rfl,rfl⟩|⟨b,off,cap,rfl,h0,h1,h2,h3⟩
 ·simp at hx
 exact⟨b,off,cap,rfl,h0,h1,h2,h3⟩
theorem Row.nil_ {B:Nat}{w:World}{v:Value}(h:Row B w v xs)(hx:xs.length=0):∃a cap,v=.slice a 0 cap:=by
 rcases h with ⟨a,c,rfl,rfl⟩|⟨b,off,cap,rfl,h0,h1,h2,h3⟩
 ·exact⟨a,c,rfl⟩
 exact⟨_,_,by rw[hx]⟩
theorem Row.shape {B:Nat}{w:World}{v:Value}(h:Row B w v xs):∃a cap,v=.slice a xs.length cap:=by
 rcases h with ⟨a,c,rfl,rfl⟩|⟨b,off,cap,rfl,h0,h1,h2,h3⟩
 ·exact⟨a,c,rfl⟩
 exact⟨_,_,rfl⟩
theorem Row.len_le {B:Nat}{w:World}{v:Value}(h:Row B w v xs):xs.length<=maxLen:=by
 rcases h with ⟨a,c,rfl,rfl⟩|⟨b,off,cap,rfl,h0,h1,h2,h3⟩
 ·simp
 omega
theorem uE.int {w:World}(h:uE w b off (ints zs))(i:Nat)(hi:i<zs.length):w.cell? ⟨b,off+i,none⟩=some (.int .i64 (zs.getD i 0)):=by
 rw[uE.map h i hi];simp[List.getD,List.getElem?_eq_getElem hi]
structure MatAt (B:Nat)(w:World)(t:List (List Int))(b off:Nat)(A:Nat->Option Addr)(C:Nat->Nat):Prop where
 lt:b<B
 ltw:b<w.heap.size
 hd:∀x,x<t.length->w.cell? ⟨b,off+x,none⟩=some (.slice (A x) (t.getD x []).length (C x))
 row:∀x,x<t.length->Row B w (.slice (A x) (t.getD x []).length (C x)) (ints (t.getD x []))
def Mat (B:Nat)(w:World)(v:Value)(t:List (List Int)):Prop :=
 (∃a cap,v=.slice a 0 cap/\t=[])\/∃b off cap A C,v=.slice (some ⟨b,off,none⟩) t.length cap/\t.length<=cap/\cap<=maxLen/\MatAt B w t b off A C
theorem MatAt.kept {B:Nat}{w w':World}{t:List (List Int)}{row:Option Nat}(h:MatAt B w t b off A C)(hg:w.grownBy w' row)(hr:∀k,row=some k->B<=k):MatAt B w' t b off A C :=
 ⟨h.lt,Nat.lt_of_lt_of_le h.ltw hg.size,fun x hx=>(World.cell?_of_block (hg.block b h.ltw (fun e=>by have:=hr b e.symm;have:=h.lt;omega))).trans (h.hd x hx),fun x hx=>(h.row x hx).kept hg hr⟩
theorem MatAt.mono {B B':Nat}{w:World}{t:List (List Int)}(h:MatAt B w t b off A C)(hB:B<=B'):MatAt B' w t b off A C :=
 ⟨Nat.lt_of_lt_of_le h.lt hB,h.ltw,h.hd,fun x hx=>(h.row x hx).mono hB⟩
section
variable {B B':Nat} {w w':World} {v:Value} {t:List (List Int)} {row:Option Nat}
theorem Mat.kept (h:Mat B w v t)(hg:w.grownBy w' row)(hr:∀k,row=some k->B<=k):Mat B w' v t:=by
 rcases h with h|⟨b,off,cap,A,C,h1,h2,h3,h4⟩
 ·exact .inl h
 exact .inr ⟨b,off,cap,A,C,h1,h2,h3,h4.kept hg hr⟩
theorem Mat.mono (h:Mat B w v t)(hB:B<=B'):Mat B' w v t:=by
 rcases h with h|⟨b,off,cap,A,C,h1,h2,h3,h4⟩
 ·exact .inl h
 exact .inr ⟨b,off,cap,A,C,h1,h2,h3,h4.mono hB⟩
theorem Mat.some_ (h:Mat B w v t)(hx:0<t.length):∃b off cap A C,v=.slice (some ⟨b,off,none⟩) t.length cap/\t.length<=cap/\cap<=maxLen/\MatAt B w t b off A C:=by
 rcases h with ⟨_,_,_,rfl⟩|h
 ·simp at hx
 exact h
theorem Mat.shape (h:Mat B w v t):∃a cap,v=.slice a t.length cap:=by
 rcases h with ⟨a,c,rfl,rfl⟩|⟨b,off,cap,A,C,rfl,_⟩
 ·exact⟨a,c,rfl⟩
 exact⟨_,_,rfl⟩
theorem Mat.len_le (h:Mat B w v t):t.length<=maxLen:=by
 rcases h with ⟨a,c,rfl,rfl⟩|⟨b,off,cap,A,C,rfl,h1,h2,_⟩
 ·simp
 omega
end
structure Sq (B:Nat)(w:World)(t:List (List Int))(b off:Nat)(RB RO RC:Nat->Nat):Prop where
 lt:b<B
 ltw:b<w.heap.size
 hd:∀x,x<t.length->w.cell? ⟨b,off+x,none⟩=some (.slice (some ⟨RB x,RO x,none⟩) t.length (RC x))
 el:∀x y,x<t.length->y<t.length->w.cell? ⟨RB x,RO x+y,none⟩=some (.int .i64 (entN t x y))
 ltr:∀x,x<t.length->RB x<B/\RB x<w.heap.size
 cap:∀x,x<t.length->t.length<=RC x/\RC x<=maxLen
theorem Sq.kept {B:Nat}{w w':World}{t:List (List Int)}{RB RO RC:Nat->Nat}{row:Option Nat}(h:Sq B w t b off RB RO RC)(hg:w.grownBy w' row)(hr:∀k,row=some k->B<=k):Sq B w' t b off RB RO RC :=
 ⟨h.lt,Nat.lt_of_lt_of_le h.ltw hg.size,fun x hx=>(World.cell?_of_block (hg.block b h.ltw (fun e=>by have:=hr b e.symm;have:=h.lt;omega))).trans (h.hd x hx),
  fun x y hx hy=>(World.cell?_of_block (hg.block (RB x) (h.ltr x hx).2 (fun e=>by have:=hr _ e.symm;have:=(h.ltr x hx).1;omega))).trans (h.el x y hx hy),fun x hx=>⟨(h.ltr x hx).1,Nat.lt_of_lt_of_le (h.ltr x hx).2 hg.size⟩,h.cap⟩
theorem Mat.sq {B:Nat}{w:World}{v:Value}{t:List (List Int)}(h:Mat B w v t)(hs:Shape t):∃b off cap RB RO RC,v=.slice (some ⟨b,off,none⟩) t.length cap/\t.length<=cap/\cap<=maxLen/\Sq B w t b off RB RO RC:=by
 obtain⟨b,off,cap,A,C,rfl,h1,h2,h3⟩:=h.some_ hs.pos
 have hr:∀x,∃rb ro,x<t.length->A x=some ⟨rb,ro,none⟩/\rb<B/\t.length<=C x/\C x<=maxLen/\uE w rb ro (ints (t.getD x [])):=by
  intro x;by_cases hx:x<t.length
  ·have hl:=hs.row x hx
   obtain⟨rb,ro,c,e,h4,h5,h6,h7⟩:=(h3.row x hx).some_ (by rw[zL,hl];exact hs.pos);simp only[Value.slice.injEq]at e;rw[zL,hl]at h5;exact⟨rb,ro,fun _=>⟨e.1,h4,by rw[e.2.2];exact h5,by rw[e.2.2];exact h6,h7⟩⟩
  exact⟨0,0,fun h=>absurd h hx⟩
 obtain⟨RB,h8⟩:=Classical.axiomOfChoice hr;obtain⟨RO,h0⟩:=Classical.axiomOfChoice h8;refine⟨b,off,cap,RB,RO,C,rfl,h1,h2,h3.lt,h3.ltw,fun x hx=>?_,fun x y hx hy=>?_,fun x hx=>?_,fun x hx=>?_⟩
 ·have:=h0 x hx
  rw[h3.hd x hx,this.1,hs.row x hx]
 ·have:=h0 x hx
  rw[this.2.2.2.2.int y (by rw[hs.row x hx];exact hy),qBS hs hx hy];rfl
 ·have:=h0 x hx
  exact⟨this.2.1,this.2.2.2.2.1⟩
 have:=h0 x hx;exact⟨this.2.2.1,this.2.2.2.1⟩
def qCK (n:Nat)(r:List Int)(j:Nat):Prop:=∀y,y<j->0<=r.getD y 0/\r.getD y 0<n
theorem yJ:ElemOk Tryz.prog 22 3 (.int .i64 0) 8:=⟨Tryz.underlying22,yk,rfl⟩
theorem xK:ElemOk Tryz.prog 26 4 (.bool false) 1:=⟨Tryz.underlying26,yk,rfl⟩
theorem xT:ElemOk Tryz.prog 27 22 (.slice none 0 0) 24:=⟨Tryz.underlying27,yk,rfl⟩
theorem mK (hz:z.cells=#[z]):∀(n:Nat),(madeCells z.cells (n*1)).toList=List.replicate n z:=by
 intro n;rw[Nat.mul_one,hz];apply List.ext_getElem
 ·simp[madeCells]
 intro i h1 h2;simp[madeCells,Nat.mod_one]
theorem pL {w:World}{a8:List Oper}(a7:o.guard=none)(l c:Operand)(t:TypeId)(ho:o.op=.makeSlice t l c){e:TypeId}(E:ElemOk P t e z a9)(hz:z.cells=#[z])(kl kc:IntKind)(L C:Int)(n:Nat)(hl:a.eval l=.int kl L)(hc:a.eval c=.int kc C)(hL:L=(n:Int))(hC:C=(n:Int))(hb:a9*n<=281474976710656)(a6:n<=maxLen)(h:∀w',Arr w' w.heap.size e (List.replicate n z)->w.grownBy w' none->w.heap.size<w'.heap.size->wpList P ops Q a8 (a.put o.dst (.slice (some ⟨w.heap.size,0,none⟩) n n)) w'):wpList P ops Q (o::a8) a w:=by
 obtain⟨i,hi,h1,h2,h3⟩:=info_parts E.hi;refine wpList_make_full w a7 l c t ho w.heap.size e i z 1 E.ht hi h1 h2 kl kc L C n hl hc hL hC (by rw[h3];exact hb) a6 (Nat.le_refl _) ?_;intro w' h0 hg;have ha:=Arr.of_owns h0;rw[mK hz]at ha;exact h w' ha hg ha.lt
theorem xO {w:World}{base' size:Nat}{v:Value}(h:w.ownsRow base e size v n xs)(hb:base'<=base):w.ownsRow base' e size v n xs:=by
 refine⟨h.1,?_⟩;rcases h.2 with h2|⟨g,cap,cur,h1,h2,h3⟩
 ·exact .inl h2
 exact .inr ⟨g,cap,cur,h1,Nat.le_trans hb h2,h3⟩
theorem yV {w:World}{sc:Nat}{sa:Option Addr}(h:w.ownsRow base e 1 (.slice sa n sc) n xs)(hn:0<n):∃kb,sa=some ⟨kb,0,none⟩/\n<=sc/\sc<=maxLen/\Arr w kb e xs:=by
 rcases h.2 with ⟨h',h0⟩|⟨g,cap,cur,h1,hb,hg,hnc,hcm,_⟩
 ·omega
 simp only[Value.slice.injEq]at h1;obtain⟨rfl,-,rfl⟩:=h1;exact⟨g,rfl,hnc,hcm,Arr.of_owns h⟩
def nW (w w':World)(v v':Value):Prop:=v'.ownBlock=v.ownBlock\/(w.grownBy w' none/\∀k,v'.ownBlock=some k->w.heap.size<=k)
theorem iE {w:World}{a6:List Oper}(a5:o.guard=none)(s x:Operand)(t:TypeId)(ho:o.op=.call { callee:=.builtin .append,args:=#[s,x],argTypes:=#[t,t] }){e:TypeId}(E:ElemOk P t e z a9)(base:Nat)(v:Value)(n:Nat)(xs:List Value)(hs:a.eval s=v)(a8:w.ownsRow base e 1 v n xs)(u:Value)(hx:a.eval x=.slice (some ⟨w.heap.size,0,none⟩) 1 1)(h1:u.oneCell'=true)(a3:n+1<=maxLen)(a7:(n+1)*a9<=140737488355328)(a4:base<=w.heap.size)(h:∀sa sc w',w'.ownsRow base e 1 (.slice sa (n+1) sc) (n+1) (xs++[u])->w.grownBy w' v.ownBlock->w.heap.size<w'.heap.size->nW w w' v (.slice sa (n+1) sc)->wpList P ops Q a6 (a.put o.dst (.slice sa (n+1) sc)) w'):wpList P ops Q (o::a6) a (w.alloc (.cells #[u] e)):=by
 obtain⟨i,hi,hz,h6,h9⟩:=info_parts E.hi
 have h0:∀j u',[u][j]?=some u'->(w.alloc (.cells #[u] e)).cell? ((⟨w.heap.size,0,none⟩:Addr).add j)=some u':=by
  intro j u' hj
  match j,hj with
  | 0,hj=>simp at hj;subst hj;simp[Addr.add]
 have h5:∀u'∈[u],u'.oneCell'=true:=by intro u' hu;simp at hu;subst hu;exact h1
 have hA:=Ga w (.cells #[u] e) none
 have fin:∀v' w',w'.ownsRow base e 1 v' (n+1) (xs++[u])->(w.alloc (.cells #[u] e)).grownBy w' v.ownBlock->(v'.ownBlock=v.ownBlock\/((w.alloc (.cells #[u] e)).grownBy w' none/\∀k,v'.ownBlock=some k->w.heap.size<=k))->wpList P ops Q a6 (a.put o.dst v') w':=by
  intro v' w' h1 h2 h3;obtain⟨sa,sc,rfl⟩:=rX h1;refine h sa sc w' h1 ?_ (by have:=h2.size;simp at this;omega) ?_
  ·exact⟨h2.os,h2.tape,h2.output,by have:=h2.size;simp at this;omega,fun k hk hne=>(h2.block k (by simp;omega) hne).trans (Below.heap_alloc w _ k hk)⟩
  rcases h3 with h3|⟨h3,h4⟩
  ·exact .inl h3
  exact .inr ⟨zI hA h3,h4⟩
 rcases a8.2 with ⟨rfl,rfl⟩|⟨g,cap,cur,rfl,hb,hg,hnc,hcm,hcs,htake⟩
 ·have hl:xs=[]:=List.eq_nil_of_length_eq_zero (by have:=a8.1;omega)
  subst hl;refine wpList_append_grows _ a5 s x t ho e i z 1 a9 E.ht hi hz h6 h9 E.hz jd none 0 0 [] hs (fun _=>⟨rfl,rfl⟩) rfl (fun b hb=>by cases hb) ⟨w.heap.size,0,none⟩ 1 1 [u] hx rfl h0 h5 yo a3 a7 ?_;intro v' w' h1 h2;exact fin v' w' (xO h1 (by simp;omega)) (vM h2) (.inr ⟨h2,fun k hk=>by have:=(h1.lt k hk).1;simp at this;omega⟩)
 by_cases hroom:n+1<=cap
 ·refine wpList_append_fits _ a5 s x t ho base e i 1 E.ht hi h6 g n cap xs hs (a8.alloc _) ⟨w.heap.size,0,none⟩ 1 1 [u] hx rfl h0 h5 hroom ?_
  intro w' h1 h2;exact fin _ w' h1 h2 (.inl rfl)
 refine wpList_append_grows _ a5 s x t ho e i z 1 a9 E.ht hi hz h6 h9 E.hz jd (some ⟨g,0,none⟩) n cap xs hs (fun h=>by cases h) a8.1 (fun b hb j u' hj=>?_) ⟨w.heap.size,0,none⟩ 1 1 [u] hx rfl h0 h5 yo a3 a7 ?_
 ·simp at hb
  subst hb
  have h8:j<xs.length:=by
   rcases Nat.lt_or_ge j xs.length with h|h
   ·exact h
   rw[List.getElem?_eq_none h]at hj;cases hj
  have:=(Arr.of_owns (a8.alloc (.cells #[u] e))).cell j h8;rw[List.getElem?_eq_getElem h8]at hj;have h7:(⟨g,0,none⟩:Addr).add j=⟨g,j,none⟩:=by unfold Addr.add;split<;>simp_all
  rw[h7,this];exact hj
 intro v' w' h1 h2;exact fin v' w' (xO h1 (by simp;omega)) (vM h2) (.inr ⟨h2,fun k hk=>by have:=(h1.lt k hk).1;simp at this;omega⟩)
def bls (bs:List Bool):List Value:=bs.map Value.bool
def nats (l:List Nat):List Value:=l.map fun(x:Nat)=>Value.int .i64 (x:Int)
theorem yB (bs:List Bool):(bls bs).length=bs.length:=by simp[bls]
theorem zV (l:List Nat):(nats l).length=l.length:=by simp[nats]
theorem Arr.bool {w:World}{e:TypeId}(h:Arr w g e (bls bs))(i:Nat)(hi:i<bs.length):w.cell? ⟨g,i,none⟩=some (.bool (bs.getD i false)):=by
 rw[h.cell i (by rw[yB];exact hi)];simp[bls,List.getD,List.getElem?_eq_getElem hi]
theorem Arr.int {w:World}{e:TypeId}(h:Arr w g e (ints zs))(i:Nat)(hi:i<zs.length):w.cell? ⟨g,i,none⟩=some (.int .i64 (zs.getD i 0)):=by
 rw[h.cell i (by rw[zL];exact hi)];simp[ints,List.getD,List.getElem?_eq_getElem hi]
theorem Arr.nat {w:World}{e:TypeId}(h:Arr w g e (nats l))(i:Nat)(hi:i<l.length):w.cell? ⟨g,i,none⟩=some (.int .i64 ((l.getD i 0:Nat):Int)):=by
 rw[h.cell i (by rw[zV];exact hi)];simp[nats,List.getD,List.getElem?_eq_getElem hi]
theorem uE.nat {w:World}(h:uE w b off (nats l))(i:Nat)(hi:i<l.length):w.cell? ⟨b,off+i,none⟩=some (.int .i64 ((l.getD i 0:Nat):Int)):=by
 rw[uE.map h i hi];simp[List.getD,List.getElem?_eq_getElem hi]
theorem Arr.bool_set {w:World}{e:TypeId}(h:Arr w g e (bls bs))(i:Nat)(hi:i<bs.length)(c:Bool):Arr (w.setCell ⟨g,i,none⟩ (.bool c)) g e (bls (bs.set i c)):=by
 have:=h.set i (by rw[yB];exact hi) (.bool c)
 rwa [bls,List.map_set]
theorem Arr.int_set {w:World}{e:TypeId}(h:Arr w g e (ints zs))(i:Nat)(hi:i<zs.length)(c:Int):Arr (w.setCell ⟨g,i,none⟩ (.int .i64 c)) g e (ints (zs.set i c)):=by
 have:=h.set i (by rw[zL];exact hi) (.int .i64 c)
 rwa [ints,List.map_set]
theorem Arr.nat_set {w:World}{e:TypeId}(h:Arr w g e (nats l))(i:Nat)(hi:i<l.length)(c:Nat):Arr (w.setCell ⟨g,i,none⟩ (.int .i64 (c:Int))) g e (nats (l.set i c)):=by
 have:=h.set i (by rw[zV];exact hi) (.int .i64 (c:Int))
 rwa [nats,List.map_set]
theorem qQ (n:Nat)(c:Bool):bls (List.replicate n c)=List.replicate n (.bool c):=by simp[bls]
theorem yW (n:Nat):nats (List.replicate n 0)=List.replicate n (.int .i64 0):=by simp[nats]
theorem pS (n:Nat):ints (List.replicate n 0)=List.replicate n (.int .i64 0):=by simp[ints]
theorem fZ (l m:List Nat):nats (l++m)=nats l++nats m:=by simp[nats]
theorem qF (l:List Nat)(x:Nat):nats (l++[x])=nats l++[.int .i64 (x:Int)]:=by simp[nats]
theorem rD (l:List Nat):nats l=ints (l.map fun(x:Nat)=>(x:Int)):=by simp[nats,ints]
theorem qRO {i:Nat}(h:∀x∈l,x<n)(hi:i<l.length):l.getD i 0<n:=by
 simp only[List.getD,List.getElem?_eq_getElem hi];exact h _ (List.getElem_mem hi)
theorem kO {α:Type}(l:List α)(i:Nat)(c d:α)(hi:i<l.length):(l.set i c).getD i d=c:=by simp[List.getD,hi]
theorem getD_set_ne {α:Type}(l:List α)(i j:Nat)(c d:α)(a9:i≠j):(l.set i c).getD j d=l.getD j d:=by simp[List.getD,List.getElem?_set_ne a9]
theorem yH {α:Type}{l:List α}{k:Nat}{d:α}(h:k<l.length):l.take (k+1)=l.take k++[l.getD k d]:=by
 rw[List.take_succ_eq_append_getElem h];simp[List.getD,List.getElem?_eq_getElem h]
theorem rK (w:World)(c1 c2:Array Value)(e:Nat):((w.alloc (.cells c1 e)).alloc (.cells c2 e)).heap[w.heap.size]?=some (.cells c1 e (0,0))/\((w.alloc (.cells c1 e)).alloc (.cells c2 e)).heap[w.heap.size+1]?=some (.cells c2 e (0,0))/\w.grownBy ((w.alloc (.cells c1 e)).alloc (.cells c2 e)) none/\((w.alloc (.cells c1 e)).alloc (.cells c2 e)).heap.size=w.heap.size+2:=by
 refine⟨zD (heap_alloc_new w _) (Ga _ _ none),?_,kN (Ga w _ none) _,by rw[zW,zW]⟩;have:=heap_alloc_new (w.alloc (.cells c1 e)) (.cells c2 e);rw[zW]at this;exact this
end Go.Proofs.YtiknckajkdlppaaGreat
namespace Go.Proofs.YtiknckajkdlppaaGreat
variable{i j q a m c B:Nat}{r:List Int}{l:List Nat}{w:World}{v:Value}
def wU {α:Type}[DecidableEq α](acc:List α)(x:α):List α:=if x∈acc then acc else acc++[x]
def yT {α:Type}[DecidableEq α](l:List α):List α:=l.foldl wU []
section
variable {α:Type} [DecidableEq α]
theorem tZ {acc:List α}{x:α}(h:x∈acc):wU acc x=acc:=if_pos h
theorem uK {acc:List α}{x:α}(h:x ∉ acc):wU acc x=acc++[x]:=if_neg h
theorem lL {acc:List α}{x y:α}:y∈wU acc x↔y∈acc\/y=x:=by
 unfold wU
 split
 ·rename_i h
  exact⟨.inl,fun h'=>by rcases h' with h'|rfl<;>assumption⟩
 simp
theorem sY (l:List α)(x:α):yT (l++[x])=wU (yT l) x:=by simp[yT,List.foldl_append]
theorem gQ (l:List α):∀(acc:List α) (y:α),y∈l.foldl wU acc↔y∈acc\/y∈l:=by
 induction l with
 | nil=>intro acc y;simp
 | cons a l ih=>intro acc y;rw[List.foldl_cons,ih,lL,List.mem_cons];exact or_assoc
theorem wI {l:List α}{y:α}:y∈yT l↔y∈l:=by rw[yT,gQ];simp
theorem gJ {acc:List α}{x:α}(h:acc.Nodup):(wU acc x).Nodup:=by
 unfold wU
 split
 ·exact h
 rename_i hx
 rw[List.nodup_append];exact⟨h,yq,fun a ha b hb=>by rw[List.mem_singleton]at hb;subst hb;rintro rfl;exact hx ha⟩
theorem jX (l:List α):∀ {acc:List α},acc.Nodup->(l.foldl wU acc).Nodup:=by
 induction l with
 | nil=>intro acc h;exact h
 | cons a l ih=>intro acc h;exact ih (gJ h)
theorem rH (l:List α):(yT l).Nodup:=jX l yq
theorem nJ (acc:List α)(x:α):acc <+: wU acc x:=by
 unfold wU;split
 ·exact List.prefix_refl _
 exact List.prefix_append _ _
theorem kQ (l:List α):∀(acc:List α),acc <+: l.foldl wU acc:=by
 induction l with
 | nil=>intro acc;exact List.prefix_refl _
 | cons a l ih=>intro acc;exact(nJ acc a).trans (ih _)
theorem pP (l:List α)(k:Nat):yT (l.take k) <+: yT l:=by
 conv=>rhs;rw[<-List.take_append_drop k l]
 rw[yT,yT,List.foldl_append];exact kQ _ _
theorem sK (l:List α):(yT l).length<=l.length:=by
 have key:∀(l acc:List α),(l.foldl wU acc).length<=acc.length+l.length:=by
  intro l
  induction l with
  | nil=>intro acc;simp
  | cons a l ih =>
   intro acc;rw[List.foldl_cons];have h1:=ih (wU acc a);have h2:(wU acc a).length<=acc.length+1:=by unfold wU;split<;>simp
   rw[List.length_cons];omega
 simpa [yT] using key l []
theorem gH {l m:List α}{x:α}(h:l <+: m)(hx:x∈l):m.idxOf x=l.idxOf x:=by
 obtain⟨r,rfl⟩:=h;rw[List.idxOf_append,if_pos hx]
theorem qBQ {l:List α}{x y:α}(hx:x∈l)(h:l.idxOf x=l.idxOf y):x=y:=by
 have h1:=List.idxOf_lt_length_of_mem hx;have e1:=List.getElem_idxOf h1;have e2:=List.getElem_idxOf (show l.idxOf y<l.length by omega);rw[<-e1,<-e2];simp only[h]
def numb (l:List α):List Nat:=l.map fun x=>(yT l).idxOf x
theorem xI (l:List α):(numb l).length=l.length:=by simp[numb]
theorem pM {l:List α}(h:i<l.length):(numb l)[i]'(by rw[xI];exact h)=(yT l).idxOf l[i]:=by simp[numb]
theorem qJX {l:List α}:∀c∈numb l,c<(yT l).length:=by
 intro c hc;obtain⟨x,hx,rfl⟩:=List.mem_map.1 hc;exact List.idxOf_lt_length_of_mem (wI.2 hx)
theorem oX {l:List α}(hi:i<l.length)(hj:j<l.length):(numb l).getD i 0=(numb l).getD j 0↔l[i]=l[j]:=by
 simp only[List.getD,List.getElem?_eq_getElem (show i<(numb l).length by rw[xI];exact hi),List.getElem?_eq_getElem (show j<(numb l).length by rw[xI];exact hj),Option.getD_some,pM hi,pM hj];exact⟨fun h=>qBQ (wI.2 (List.getElem_mem hi)) h,fun h=>by rw[h]⟩
theorem qBH {l:List α}{k:Nat}(hk:k<l.length):(yT (l.take (k+1))).idxOf l[k]=(yT l).idxOf l[k]:=by
 refine(gH (pP l (k+1)) (wI.2 ?_)).symm;rw[List.take_succ_eq_append_getElem hk];exact List.mem_append_right _ (List.mem_singleton_self _)
end
def qSA (p q:List Nat):Prop:=p.length=q.length/\∀i j,i<p.length->j<p.length->(p.getD i 0=p.getD j 0↔q.getD i 0=q.getD j 0)
def Norm (p:List Nat):Prop:=numb p=p
theorem zQ {α:Type}{l:List α}{d:α}(h:i<l.length):l.getD i d=l[i]:=by simp[List.getD,List.getElem?_eq_getElem h]
theorem eY {α β:Type}[DecidableEq α][DecidableEq β](f:α->β)(l:List α)(h:∀x∈l,∀y∈l,f x=f y->x=y):yT (l.map f)=(yT l).map f:=by
 have key:∀(m acc:List α),(∀x∈acc++m,∀y∈acc++m,f x=f y->x=y)->(m.map f).foldl wU (acc.map f)=(m.foldl wU acc).map f:=by
  intro m
  induction m with
  | nil=>intro acc _;rfl
  | cons a m ih =>
   intro acc hh;rw[List.map_cons,List.foldl_cons,List.foldl_cons]
   have e:wU (acc.map f) (f a)=(wU acc a).map f:=by
    unfold wU;by_cases ha:a∈acc
    ·rw[if_pos ha,if_pos (List.mem_map_of_mem ha)]
    rw[if_neg ha,if_neg]
    ·simp
    intro hm;obtain⟨b,hb,e⟩:=List.mem_map.1 hm;have:=hh b (by simp[hb]) a yq e;subst this;exact ha hb
   rw[e];refine ih _ fun x hx y hy=>hh x ?_ y ?_
   ·rw[List.mem_append,lL]at hx;simp;rcases hx with (h|h)|h<;>simp[h]
   rw[List.mem_append,lL]at hy;simp;rcases hy with (h|h)|h<;>simp[h]
 have:=key l [] (by simpa using h);simpa [yT] using this
theorem aP {α β:Type}[DecidableEq α][DecidableEq β](f:α->β)(l:List α)(x:α)(hx:x∈l)(h:∀y∈l,f y=f x->y=x):(l.map f).idxOf (f x)=l.idxOf x:=by
 induction l with
 | nil=>simp at hx
 | cons a l ih =>
  rw[List.map_cons,List.idxOf_cons,List.idxOf_cons];by_cases e:a=x
  ·subst e;simp
  have:f a≠f x:=fun h'=>e (h a yq h');simp only[beq_eq_false_iff_ne.2 this,beq_eq_false_iff_ne.2 e,cond_false];rw[ih (by simpa [Ne.symm e] using hx) (fun y hy=>h y (by simp[hy]))]
theorem cD {α β:Type}[DecidableEq α][DecidableEq β]:∀(l:List α) (m:List β) (he:l.length=m.length),(∀i j (hi:i<l.length) (hj:j<l.length),(l[i]=l[j]↔m[i]'(yo)=m[j]'(yo)))->numb l=numb m:=by
 intro l m he h
 have key:∀(k:Nat) (hk:k<=l.length),∃ps:List (Fin l.length),yT (l.take k)=ps.map (fun i=>l[i])/\yT (m.take k)=ps.map (fun i=>m[i.1]'(yo)):=by
  intro k
  induction k with
  | zero=>intro _;exact⟨[],by simp[yT],by simp[yT]⟩
  | succ k ih =>
   intro hk;obtain⟨ps,h1,h2⟩:=ih yo;have h3:k<l.length:=yo;rw[List.take_succ_eq_append_getElem h3,List.take_succ_eq_append_getElem (show k<m.length by omega),sY,sY,h1,h2]
   have h0:(l[k]∈ps.map (fun i=>l[i]))↔(m[k]'(yo)∈ps.map (fun i=>m[i.1]'(yo))):=by
    simp only[List.mem_map];constructor
    ·rintro ⟨i,hi,e⟩;exact⟨i,hi,(h i.1 k i.2 h3).1 e⟩
    rintro ⟨i,hi,e⟩;exact⟨i,hi,(h i.1 k i.2 h3).2 e⟩
   by_cases hm:l[k]∈ps.map (fun i=>l[i])
   ·exact⟨ps,tZ hm,tZ (h0.1 hm)⟩
   refine⟨ps++[⟨k,h3⟩],?_,?_⟩
   ·rw[uK hm];simp
   rw[uK (fun h'=>hm (h0.2 h'))];simp
 obtain⟨ps,h1,h2⟩:=key l.length (Nat.le_refl _);rw[List.take_length]at h1;rw[show m.take l.length=m from List.take_of_length_le yo]at h2;refine List.ext_getElem (by simp[numb,he]) fun i hi _=>?_;rw[xI]at hi;rw[pM hi,pM yo,h1,h2]
 have aux:∀(qs:List (Fin l.length)),(qs.map (fun i=>l[i])).idxOf l[i]=(qs.map (fun i=>m[i.1]'(yo))).idxOf (m[i]'(yo)):=by
  intro qs
  induction qs with
  | nil=>simp
  | cons a qs ih =>
   rw[List.map_cons,List.map_cons,List.idxOf_cons,List.idxOf_cons,ih];have:=h a.1 i a.2 hi;by_cases e:l[a]=l[i]
   ·have e':=this.1 e
    simp only[beq_iff_eq.2 e,beq_iff_eq.2 e']
   have e':¬(m[a.1]'(yo)=m[i]'(yo)):=fun h'=>e (this.2 h');simp only[beq_eq_false_iff_ne.2 e,beq_eq_false_iff_ne.2 e']
 exact aux ps
theorem fY {α:Type}[DecidableEq α](l:List α):Norm (numb l):=by
 refine cD _ _ (xI l) fun i j hi hj=>?_;rw[xI]at hi hj;have:=oX (l:=l) hi hj;rw[zQ (by rw[xI];exact hi),zQ (by rw[xI];exact hj)]at this;exact this
theorem aG {p q:List Nat}(hp:Norm p)(hq:Norm q)(h:qSA p q):p=q:=by
 rw[<-hp,<-hq];refine cD _ _ h.1 fun i j hi hj=>?_;have:=h.2 i j hi hj;rw[zQ hi,zQ hj,zQ (by rw[<-h.1];exact hi),zQ (by rw[<-h.1];exact hj)]at this;exact this
structure DfaV where
 letters:Int
 start:Int
 final:List Bool
 next:List (List Int)
def rowD (letters:Int)(n:Nat)(r:List Int):Bool:=decide ((r.length:Int)=letters) && r.all fun x=>decide (0<=x/\x<n)
def uR (d:DfaV):Int :=
 if d.letters<1\/6<d.letters then 1 else if 512<d.final.length then 3
 else if d.final.length=0\/d.next.length≠d.final.length\/d.start<0\/d.final.length<=d.start then 4
 else if d.next.all (rowD d.letters d.final.length) then 0 else 4
structure VD (d:DfaV)(n k:Nat):Prop where
 hk:d.letters=k
 k1:1<=k
 k6:k<=6
 hn:d.final.length=n
 n1:1<=n
 nbig:n<=4194304
 nl:d.next.length=n
 s0:0<=d.start
 sn:d.start<n
 row:∀q,q<n->(d.next.getD q []).length=k
 lo:∀q a,q<n->a<k->0<=ent d.next q a
 hi:∀q a,q<n->a<k->ent d.next q a<n
theorem oT {k:Int}{n:Nat}:rowD k n r=true↔(r.length:Int)=k/\∀y,y<r.length->0<=r.getD y 0/\r.getD y 0<n:=by
 simp only[rowD,Bool.and_eq_true,decide_eq_true_eq,List.all_eq_true];refine and_congr_right fun _=>⟨fun h y hy=>?_,fun h x hx=>?_⟩
 ·have:=h (r[y]) (List.getElem_mem hy)
  rwa [<-zQ (d:=0) hy]at this
 obtain⟨y,hy,rfl⟩:=List.getElem_of_mem hx;have:=h y hy
 rwa [zQ hy]at this
theorem qQJ {d:DfaV}(h:uR d=0):VD d d.final.length d.letters.toNat:=by
 unfold uR at h
 split at h
 ·omega
 rename_i h1
 split at h
 ·omega
 rename_i h2
 split at h
 ·omega
 rename_i h3
 split at h
 ·rename_i h4
  rw[List.all_eq_true]at h4
  have hr:∀q,q<d.next.length->rowD d.letters d.final.length (d.next.getD q [])=true:=fun q hq=>by
   rw[zQ hq];exact h4 _ (List.getElem_mem hq)
  have h0:d.next.length=d.final.length:=by
   apply Classical.byContradiction;intro hh;exact h3 (.inr (.inl hh))
  refine⟨yo,yo,yo,rfl,yo,yo,h0,yo,yo,fun q hq=>?_,fun q a hq ha=>?_,fun q a hq ha=>?_⟩
  ·have:=(oT.1 (hr q yo)).1;omega
  ·obtain⟨e,h⟩:=oT.1 (hr q yo)
   exact(h a yo).1
  obtain⟨e,h⟩:=oT.1 (hr q yo);exact(h a yo).2
 omega
theorem kW {d:DfaV}{n k:Nat}(h:VD d n k)(h5:n<=512):uR d=0:=by
 unfold uR
 rw[if_neg (by have:=h.hk;have:=h.k1;have:=h.k6;omega),if_neg (by have:=h.hn;omega),
  if_neg (by have:=h.hn;have:=h.n1;have:=h.nl;have:=h.s0;have:=h.sn;omega),if_pos]
 rw[List.all_eq_true];intro r hr;obtain⟨q,hq,rfl⟩:=List.getElem_of_mem hr;have h0:q<n:=by have:=h.nl;omega
 rw[oT];have hl:=h.row q h0;rw[zQ hq]at hl;refine⟨by rw[hl,h.hk],fun y hy=>?_⟩;have h1:=h.lo q y h0 yo;have h2:=h.hi q y h0 yo;unfold ent at h1 h2;rw[zQ hq]at h1 h2;rw[h.hn];exact⟨h1,h2⟩
def nx (d:DfaV)(q a:Nat):Nat:=entN d.next q a
theorem qJV {d:DfaV}{n k:Nat}(h:VD d n k)(hq:q<n)(ha:a<k):(nx d q a:Int)=ent d.next q a:=Int.toNat_of_nonneg (h.lo q a hq ha)
theorem mF {d:DfaV}{n k:Nat}(h:VD d n k)(hq:q<n)(ha:a<k):nx d q a<n:=by
 have h1:=qJV h hq ha;have h2:=h.hi q a hq ha;omega
def st0 (d:DfaV):Nat:=d.start.toNat
theorem bQ {d:DfaV}{n k:Nat}(h:VD d n k):(st0 d:Int)=d.start:=Int.toNat_of_nonneg h.s0
theorem jB {d:DfaV}{n k:Nat}(h:VD d n k):st0 d<n:=by have:=bQ h;have:=h.sn;omega
def finB (b:Bool):Int:=if b then 1 else 0
def jH (d:DfaV):List Nat:=numb (d.final.map finB)
def mR (d:DfaV)(p:List Nat)(a:Nat):List Nat:=(List.range p.length).map fun q=>p.getD (nx d q a) 0
def qBF (m:Nat)(a b:Nat):Int:=(a:Int)*(m+1)+b
def lV (p q:List Nat):List Int:=List.zipWith (qBF p.length) p q
def aU (p q:List Nat):List Nat:=numb (lV p q)
def tR (d:DfaV)(p:List Nat):Nat->List Nat
 | 0=>p
 | k+1=>aU (tR d p k) (mR d p k)
theorem mE (d:DfaV):(jH d).length=d.final.length:=by simp[jH,xI]
theorem qG (d:DfaV)(p:List Nat)(a:Nat):(mR d p a).length=p.length:=by simp[mR]
theorem pR {p q:List Nat}(h:q.length=p.length):(lV p q).length=p.length:=by simp[lV,h]
theorem qCG {p q:List Nat}(h:q.length=p.length):(aU p q).length=p.length:=by rw[aU,xI,pR h]
theorem xV (d:DfaV)(p:List Nat):∀k,(tR d p k).length=p.length
 | 0=>rfl
 | k+1=>by rw[tR,qCG (by rw[qG,xV d p k]),xV d p k]
theorem mG {p:List Nat}(h:Norm p):∀c∈p,c<p.length:=by
 intro c hc;have h1:=qJX (l:=p);rw[h]at h1;have:=h1 c hc;have:=sK p;omega
theorem qGT {b a' b':Nat}(hb:b<=m)(a9:b'<=m):qBF m a b=qBF m a' b'↔a=a'/\b=b':=by
 unfold qBF;constructor
 ·intro h
  have h':a*(m+1)+b=a'*(m+1)+b':=by exact_mod_cast h
  have e1:(a*(m+1)+b) / (m+1)=a:=by rw[Nat.mul_comm,Nat.mul_add_div yo,Nat.div_eq_of_lt yo];omega
  have e2:(a'*(m+1)+b') / (m+1)=a':=by rw[Nat.mul_comm,Nat.mul_add_div yo,Nat.div_eq_of_lt yo];omega
  have ha:a=a':=by rw[<-e1,<-e2,h']
  subst ha;exact⟨rfl,yo⟩
 rintro ⟨rfl,rfl⟩;rfl
theorem qLO {p q:List Nat}(h:q.length=p.length)(hq:∀c∈q,c<p.length)(hi:i<p.length)(hj:j<p.length):(aU p q).getD i 0=(aU p q).getD j 0↔p.getD i 0=p.getD j 0/\q.getD i 0=q.getD j 0:=by
 have h1:i<(lV p q).length:=by rw[pR h];exact hi
 have h0:j<(lV p q).length:=by rw[pR h];exact hj
 rw[aU,oX h1 h0];simp only[lV,List.getElem_zipWith];rw[qGT (Nat.le_of_lt (hq _ (List.getElem_mem _))) (Nat.le_of_lt (hq _ (List.getElem_mem _))),zQ hi,zQ hj,zQ (show i<q.length by omega),zQ (show j<q.length by omega)]
theorem eN {d:DfaV}{p:List Nat}(hi:i<p.length):(mR d p a).getD i 0=p.getD (nx d i a) 0:=by
 rw[zQ (by rw[qG];exact hi)];simp[mR]
theorem qX {p:List Nat}{n:Nat}(h:∀c∈p,c<n)(hn:0<n):p.getD i 0<n:=by
 by_cases hi:i<p.length
 ·rw[zQ hi];exact h _ (List.getElem_mem hi)
 rw[List.getD,List.getElem?_eq_none yo];exact hn
theorem pE {d:DfaV}{n k:Nat}(hd:VD d n k){p:List Nat}(hp:p.length=n)(a9:∀c∈p,c<n){i j:Nat}(hi:i<n)(hj:j<n):
  ∀m,m<=k->((tR d p m).getD i 0=(tR d p m).getD j 0↔p.getD i 0=p.getD j 0/\∀a,a<m->p.getD (nx d i a) 0=p.getD (nx d j a) 0)
 | 0,_=>by simp[tR]
 | m+1,hm=>by
  rw[tR,qLO (by rw[qG,xV]) (fun c hc=>?_) (by rw[xV];omega) (by rw[xV];omega),pE hd hp a9 hi hj m yo,eN yo,eN yo]
  ·constructor
   ·rintro ⟨⟨h1,h2⟩,h3⟩
    refine⟨h1,fun a ha=>?_⟩
    rcases Nat.lt_succ_iff_lt_or_eq.1 ha with ha|rfl
    ·exact h2 a ha
    ·exact h3
   ·rintro ⟨h1,h2⟩
    exact⟨⟨h1,fun a ha=>h2 a yo⟩,h2 m yo⟩
  ·rw[xV,hp]
   obtain⟨q,hq,rfl⟩:=List.mem_map.1 hc
   exact qX a9 hd.n1
theorem lE {d:DfaV}{p:List Nat}(hp:Norm p):∀m,Norm (tR d p m)
 | 0=>hp
 | m+1=>fY _
def cls (p:List Nat):Nat:=(yT p).length
theorem qOQ {p q:List Nat}(hl:q.length=p.length)(h:∀i j,i<p.length->j<p.length->q.getD i 0=q.getD j 0->p.getD i 0=p.getD j 0):cls p<=cls q/\(cls p=cls q->∀i j,i<p.length->j<p.length->p.getD i 0=p.getD j 0->q.getD i 0=q.getD j 0):=by
 let f:Nat->Nat:=fun c=>p.getD (q.idxOf c) 0
 have hf:∀i,i<p.length->f (q.getD i 0)=p.getD i 0:=by
  intro i hi;have h9:i<q.length:=yo
  have hm:q.getD i 0∈q:=by rw[zQ h9];exact List.getElem_mem _
  have h8:=List.idxOf_lt_length_of_mem hm;refine h _ i yo hi ?_;rw[zQ h8,List.getElem_idxOf]
 have h3:∀c∈yT p,c∈(yT q).map f:=by
  intro c hc;obtain⟨i,hi,rfl⟩:=List.getElem_of_mem (wI.1 hc);rw[List.mem_map];refine⟨q.getD i 0,wI.2 (by rw[zQ yo];exact List.getElem_mem _),?_⟩;rw[hf i hi,zQ hi]
 have h5:(yT p).length<=((yT q).map f).length:=(rH p).length_le_of_subset h3;rw[List.length_map]at h5;refine⟨h5,fun e i j hi hj hp=>?_⟩
 have h4:∀x∈yT q,∀y∈yT q,f x=f y->x=y:=by
  intro x hx y hy h6;apply Classical.byContradiction;intro h7
  have h0:∀c∈yT p,c∈((yT q).erase x).map f:=by
   intro c hc;obtain⟨z,hz,rfl⟩:=List.mem_map.1 (h3 c hc);by_cases e:z=x
   ·subst e
    exact List.mem_map.2 ⟨y,(List.mem_erase_of_ne (Ne.symm h7)).2 hy,h6.symm⟩
   exact List.mem_map.2 ⟨z,(List.mem_erase_of_ne e).2 hz,rfl⟩
  have h1:=(rH p).length_le_of_subset h0;rw[List.length_map,List.length_erase_of_mem hx]at h1;have h2:=List.length_pos_of_mem hx;unfold cls at e;omega
 have mem:∀i,i<p.length->q.getD i 0∈yT q:=fun i hi=>wI.2 (by rw[zQ yo];exact List.getElem_mem _);exact h4 _ (mem i hi) _ (mem j hj) (by rw[hf i hi,hf j hj,hp])
theorem wT {α:Type}{l:List α}{d:α}(h:q<l.length):l.getD q d∈l:=by
 rw[List.getD_eq_getElem?_getD,List.getElem?_eq_getElem h];exact List.getElem_mem _
theorem gI (p:List Nat):cls p<=p.length:=sK p
theorem dX (d:DfaV):Norm (jH d):=fY _
def xJ (d:DfaV)(k:Nat):Nat->List Nat
 | 0=>jH d
 | m+1=>tR d (xJ d k m) k
theorem xQ (d:DfaV)(k:Nat):∀m,(xJ d k m).length=d.final.length
 | 0=>mE d
 | m+1=>by rw[xJ,xV,xQ d k m]
theorem tY (d:DfaV)(k:Nat):∀m,Norm (xJ d k m)
 | 0=>dX d
 | m+1=>lE (tY d k m) k
theorem qFP (d:DfaV)(k m:Nat):∀c∈xJ d k m,c<d.final.length:=by
 have:=mG (tY d k m)
 rwa [xQ]at this
theorem aT {p:List Nat}(h:0<p.length):0<cls p:=by
 have hm:p[0]∈yT p:=wI.2 (List.getElem_mem h);exact List.length_pos_of_mem hm
theorem oV {d:DfaV}{n k:Nat}(hd:VD d n k){p:List Nat}(hp:p.length=n)(hn:Norm p)(a9:tR d p k≠p):cls p<cls (tR d p k):=by
 have h0:∀c∈p,c<n:=by have:=mG hn;rwa [hp]at this
 obtain⟨h1,h2⟩:=qOQ (p:=p) (q:=tR d p k) (xV d p k) (fun i j hi hj h=>((pE hd hp h0 yo yo k (Nat.le_refl _)).1 h).1);refine Nat.lt_of_le_of_ne h1 fun e=>a9 ?_;refine aG (lE hn k) hn ⟨xV d p k,fun i j hi hj=>?_⟩;rw[xV]at hi hj;exact⟨fun h=>((pE hd hp h0 yo yo k (Nat.le_refl _)).1 h).1,fun h=>h2 e i j hi hj h⟩
def xU (d:DfaV)(k:Nat):List Nat:=xJ d k d.final.length
theorem qCD {d:DfaV}{k m:Nat}(h:tR d (xJ d k m) k=xJ d k m):∀j,m<=j->xJ d k j=xJ d k m
 | 0,hj=>by rw[show m=0 by omega]
 | j+1,hj=>by
  by_cases e:m=j+1
  ·rw[e]
  ·rw[xJ,qCD h j yo,h]
theorem pT {d:DfaV}{k:Nat}(hm:m<=d.final.length)(h:tR d (xJ d k m) k=xJ d k m):xU d k=xJ d k m:=qCD h _ hm
theorem qFO {d:DfaV}{n k:Nat}(hd:VD d n k):∀m,(∃j,j<=m/\tR d (xJ d k j) k=xJ d k j)\/m<cls (xJ d k m)
 | 0=>.inr (aT (by rw[xQ,hd.hn];exact hd.n1))
 | m+1=>by
  rcases qFO hd m with ⟨j,hj,h⟩|h
  ·exact .inl ⟨j,yo,h⟩
  ·by_cases e:tR d (xJ d k m) k=xJ d k m
   ·exact .inl ⟨m,yo,e⟩
   ·have:=oV hd (by rw[xQ,hd.hn]) (tY d k m) e
    exact .inr (by rw[xJ];omega)
theorem qCE {d:DfaV}{n k:Nat}(hd:VD d n k):tR d (xU d k) k=xU d k:=by
 rcases qFO hd d.final.length with ⟨j,hj,h⟩|h
 ·rw[pT hj h,h]
 have:=gI (xJ d k d.final.length);rw[xQ]at this;omega
theorem uI (d:DfaV)(k:Nat):(xU d k).length=d.final.length:=xQ _ _ _
theorem rO (d:DfaV)(k:Nat):Norm (xU d k):=tY _ _ _
theorem qDT {p:List Nat}(h:Norm p):yT p=List.range (cls p):=by
 refine List.ext_getElem (by simp[cls]) fun i h1 h2=>?_;rw[List.getElem_range];have hm:=List.getElem_mem h1;obtain⟨q,hq,e⟩:=List.getElem_of_mem (wI.1 hm);have hh:(numb p)[q]'(by rw[xI];exact hq)=p[q]:=by simp only[show numb p=p from h]
 rw[pM hq,e]at hh;have h3:=List.idxOf_lt_length_of_mem hm;have h4:=List.getElem_idxOf h3;have:=(List.getElem_inj (rH p)).1 h4;omega
theorem nT {p:List Nat}(h:Norm p)(k:Nat):yT (p.take k)=List.range (cls (p.take k)):=by
 have h1:=pP p k;rw[qDT h]at h1;obtain⟨r,hr⟩:=h1;refine List.ext_getElem (by simp[cls]) fun i h1 h2=>?_;rw[List.getElem_range];have:(yT (p.take k)++r)[i]'(by rw[List.length_append];omega)=i:=by simp only[hr,List.getElem_range]
 rwa [List.getElem_append_left h1]at this
theorem jM {p:List Nat}(h:Norm p)(hq:q<p.length):p.getD q 0<=cls (p.take q)/\(p.getD q 0=cls (p.take q)->cls (p.take (q+1))=cls (p.take q)+1)/\(p.getD q 0≠cls (p.take q)->cls (p.take (q+1))=cls (p.take q)):=by
 have h1:=nT h (q+1);have e:yT (p.take (q+1))=wU (yT (p.take q)) p[q]:=by rw[List.take_succ_eq_append_getElem hq,sY]
 have h0:=nT h q;rw[zQ hq];by_cases hm:p[q]∈yT (p.take q)
 ·have h2:p[q]<cls (p.take q):=by rw[h0]at hm;exact List.mem_range.1 hm
  rw[tZ hm]at e;have:cls (p.take (q+1))=cls (p.take q):=by unfold cls;rw[e]
  exact⟨yo,fun h=>by omega,fun _=>this⟩
 rw[uK hm]at e;have hc:cls (p.take (q+1))=cls (p.take q)+1:=by unfold cls;rw[e];simp
 have hl:p[q]=cls (p.take q):=by
  rw[h1,h0,hc,List.range_succ]at e;have:=List.append_cancel_left e;simpa using this.symm
 exact⟨yo,fun _=>hc,fun h=>absurd hl h⟩
def sF (p:List Nat)(k:Nat):List Nat:=(List.range k).filter fun q=>p.getD q 0 == cls (p.take q)
theorem uX {p:List Nat}{k:Nat}(h:p.getD k 0=cls (p.take k)):sF p (k+1)=sF p k++[k]:=by
 rw[sF,List.range_succ,List.filter_append,List.filter_cons,if_pos (beq_iff_eq.2 h)];rfl
theorem uW {p:List Nat}{k:Nat}(h:p.getD k 0≠cls (p.take k)):sF p (k+1)=sF p k:=by
 rw[sF,List.range_succ,List.filter_append,List.filter_cons,if_neg (fun e=>h (beq_iff_eq.1 e)),List.filter_nil,List.append_nil];rfl
theorem tE {p:List Nat}(h:Norm p):∀k,k<=p.length->(sF p k).length=cls (p.take k)
 | 0,_=>by simp[sF,cls,yT]
 | k+1,hk=>by
  obtain⟨h0,h1,h2⟩:=jM h (show k<p.length by omega)
  have ih:=tE h k yo
  by_cases e:p.getD k 0=cls (p.take k)
  ·rw[uX e,List.length_append,ih,h1 e];rfl
  ·rw[uW e,ih,h2 e]
theorem iK {p:List Nat}(h:Norm p):∀k,k<=p.length->∀c,c<cls (p.take k)->p.getD ((sF p k).getD c 0) 0=c/\(sF p k).getD c 0<k
 | 0,_,c,hc=>by simp[cls,yT]at hc
 | k+1,hk,c,hc=>by
  obtain⟨h0,h1,h2⟩:=jM h (show k<p.length by omega)
  have hl:=tE h k yo
  by_cases e:p.getD k 0=cls (p.take k)
  ·rw[h1 e]at hc
   rw[uX e]
   by_cases hc':c<cls (p.take k)
   ·have ih:=iK h k yo c hc'
    rw[show (sF p k++[k]).getD c 0=(sF p k).getD c 0 from by simp[List.getD,List.getElem?_append_left (show c<(sF p k).length by omega)]]
    exact⟨ih.1,yo⟩
   ·have hc2:c=(sF p k).length:=yo
    rw[show (sF p k++[k]).getD c 0=k from by simp[List.getD,hc2]]
    exact⟨yo,yo⟩
  ·rw[h2 e]at hc
   rw[uW e]
   have ih:=iK h k yo c hc
   exact⟨ih.1,yo⟩
def reps (p:List Nat):List Nat:=sF p p.length
def tB (p:List Nat)(r:List Int):List Int:=r.map fun s=>((p.getD s.toNat 0:Nat):Int)
def sV (d:DfaV)(p:List Nat):DfaV :=
 ⟨d.letters,((p.getD (st0 d) 0:Nat):Int),(reps p).map fun q=>d.final.getD q false,(reps p).map fun q=>tB p (d.next.getD q [])⟩
theorem xY {α β:Type}{l:List α}{f:α->β}{x:α}{y:β}(h:i<l.length):(l.map f).getD i y=f (l.getD i x):=by
 rw[zQ (by simpa using h),zQ h];simp
theorem iM {p:List Nat}(h:a<r.length):(tB p r).getD a 0=((p.getD (r.getD a 0).toNat 0:Nat):Int):=by
 rw[tB,xY (x:=0) h]
theorem pD {p:List Nat}(h:Norm p):(reps p).length=cls p:=by
 have:=tE h p.length (Nat.le_refl _)
 rwa [List.take_length]at this
theorem oU {p:List Nat}(h:Norm p)(hc:c<cls p):p.getD ((reps p).getD c 0) 0=c/\(reps p).getD c 0<p.length :=
 iK h p.length (Nat.le_refl _) c (by rwa [List.take_length])
theorem pF {p:List Nat}(h:Norm p)(hi:i<p.length):p.getD i 0<cls p:=by
 have:=qJX (l:=p);rw[h]at this;rw[zQ hi];exact this _ (List.getElem_mem hi)
section
variable {d:DfaV} {n k:Nat} {p:List Nat}
theorem bX (hd:VD d n k)(hp:p.length=n)(hn:Norm p)(hc:c<cls p)(ha:a<k):ent (sV d p).next c a=((p.getD (nx d ((reps p).getD c 0) a) 0:Nat):Int):=by
 have hr:=oU hn hc;unfold ent sV;rw[xY (x:=0) (by rw[pD hn];exact hc),iM (by rw[hd.row _ yo];exact ha)];rfl
theorem qDE (hd:VD d n k)(hp:p.length=n)(hn:Norm p):VD (sV d p) (cls p) k where
 hk:=hd.hk
 k1:=hd.k1
 k6:=hd.k6
 hn:=by simp[sV,pD hn]
 n1:=aT (by rw[hp];exact hd.n1)
 nbig:=Nat.le_trans (gI p) (by rw[hp];exact hd.nbig)
 nl:=by simp[sV,pD hn]
 s0:=by simp[sV]
 sn:=by
  have:=pF hn (i:=st0 d) (by rw[hp];exact jB hd);simp only[sV];omega
 row:=fun c hc=>by
  simp only[sV];rw[xY (x:=0) (by rw[pD hn];exact hc)];have hr:=oU hn hc;rw[tB,List.length_map,hd.row _ yo]
 lo:=fun c a hc ha=>by rw[bX hd hp hn hc ha];omega
 hi:=fun c a hc ha=>by
  rw[bX hd hp hn hc ha];have hr:=oU hn hc;have:=pF hn (i:=nx d ((reps p).getD c 0) a) (by rw[hp];exact mF hd yo ha);omega
theorem qQR (hd:VD d n k)(hp:p.length=n)(hn:Norm p)(a9:tR d p k=p)(hq:q<n)(ha:a<k):nx (sV d p) (p.getD q 0) a=p.getD (nx d q a) 0:=by
 have h0:∀c∈p,c<n:=by have:=mG hn;rwa [hp]at this
 have hc:=pF hn (i:=q) yo;have hr:=oU hn hc;have h1:=pE hd hp h0 (i:=(reps p).getD (p.getD q 0) 0) (j:=q) yo hq k (Nat.le_refl _);rw[a9]at h1;have h2:=(h1.1 hr.1).2 a ha;show (ent (sV d p).next (p.getD q 0) a).toNat=_;rw[bX hd hp hn hc ha,h2];simp
end
def run (d:DfaV)(q:Nat)(w:List Nat):Nat:=w.foldl (nx d) q
def qY (k:Nat)(w:List Nat):Prop:=∀a∈w,a<k
theorem qIZ {d:DfaV}{n k:Nat}(hd:VD d n k):∀(w:List Nat) {q:Nat},q<n->qY k w->run d q w<n
 | [],q,hq,_=>hq
 | a::w,q,hq,hw=>qIZ hd w (mF hd hq (hw a yq)) (fun b hb=>hw b (by simp[hb]))
theorem qMW (d:DfaV)(q:Nat)(w:List Nat)(a:Nat):run d q (w++[a])=nx d (run d q w) a:=by simp[run]
theorem qEZ {d:DfaV}{n k:Nat}{p:List Nat}(hd:VD d n k)(hp:p.length=n)(hn:Norm p)(a9:tR d p k=p):∀(w:List Nat) {q:Nat},q<n->qY k w->run (sV d p) (p.getD q 0) w=p.getD (run d q w) 0
 | [],q,_,_=>rfl
 | a::w,q,hq,hw=>by
  have ha:=hw a yq
  show run (sV d p) (nx (sV d p) (p.getD q 0) a) w=p.getD (run d (nx d q a) w) 0
  rw[qQR hd hp hn a9 hq ha]
  exact qEZ hd hp hn a9 w (mF hd hq ha) (fun b hb=>hw b (by simp[hb]))
def uJ (d:DfaV)(l:List Nat)(i:Nat):Nat->List Nat
 | 0=>l
 | a+1=>wU (uJ d l i a) (nx d (l.getD i 0) a)
def qL (d:DfaV)(k:Nat):Nat->Nat->List Nat->List Nat
 | 0,_,l=>l
 | f+1,i,l=>if i<l.length then qL d k f (i+1) (uJ d l i k) else l
def yN (d:DfaV)(k:Nat):List Nat:=qL d k d.final.length 0 [st0 d]
theorem sC (d:DfaV)(l:List Nat)(i:Nat):∀a,l <+: uJ d l i a
 | 0=>List.prefix_refl _
 | a+1=>(sC d l i a).trans (nJ _ _)
theorem mW {d:DfaV}{l:List Nat}(h:l.Nodup)(i:Nat):∀a,(uJ d l i a).Nodup
 | 0=>h
 | a+1=>gJ (mW h i a)
theorem rE {d:DfaV}{l:List Nat}{i:Nat}{y:Nat}:∀ {a},y∈uJ d l i a↔y∈l\/∃b,b<a/\y=nx d (l.getD i 0) b
 | 0=>by simp[uJ]
 | a+1=>by
  rw[uJ,lL,rE,or_assoc]
  refine or_congr_right ⟨?_,?_⟩
  ·rintro (⟨b,hb,h⟩|h)
   ·exact⟨b,yo,h⟩
   ·exact⟨a,yo,h⟩
  ·rintro ⟨b,hb,h⟩
   rcases Nat.lt_succ_iff_lt_or_eq.1 hb with hb|rfl
   ·exact .inl ⟨b,hb,h⟩
   ·exact .inr h
structure AccI (d:DfaV)(n k i:Nat)(l:List Nat):Prop where
 nd:l.Nodup
 lt:∀q∈l,q<n
 hd:0<l.length/\l.getD 0 0=st0 d
 cl:∀j a,j<i->j<l.length->a<k->nx d (l.getD j 0) a∈l
 re:∀q∈l,∃w,qY k w/\run d (st0 d) w=q
theorem pG {m:List Nat}(h:l <+: m)(hi:i<l.length):m.getD i 0=l.getD i 0:=by
 obtain⟨r,rfl⟩:=h;simp[List.getD,List.getElem?_append_left hi]
theorem AccI.row {d:DfaV}{n k:Nat}(hd:VD d n k)(h:AccI d n k i l)(hi:i<l.length):AccI d n k (i+1) (uJ d l i k):=by
 have hp:=sC d l i k;have h2:=hp.length_le;have h0:l.getD i 0∈l:=by rw[zQ hi];exact List.getElem_mem _
 have h1:=h.lt _ h0;refine⟨mW h.nd i k,fun q hq=>?_,⟨by have:=h.hd.1;omega,by rw[pG hp h.hd.1];exact h.hd.2⟩,fun j a hj hjl ha=>?_,fun q hq=>?_⟩
 ·rcases rE.1 hq with hq|⟨b,hb,rfl⟩
  ·exact h.lt q hq
  exact mF hd h1 hb
 ·rw[pG hp (show j<l.length by omega)]
  rcases Nat.lt_succ_iff_lt_or_eq.1 hj with hj|rfl
  ·exact rE.2 (.inl (h.cl j a hj yo ha))
  exact rE.2 (.inr ⟨a,ha,rfl⟩)
 rcases rE.1 hq with hq|⟨b,hb,rfl⟩
 ·exact h.re q hq
 obtain⟨w,hw,e⟩:=h.re _ h0;refine⟨w++[b],fun c hc=>?_,by rw[qMW,e]⟩;rcases List.mem_append.1 hc with hc|hc
 ·exact hw c hc
 rw[List.mem_singleton]at hc;subst hc;exact hb
theorem qN {n:Nat}(h:l.Nodup)(hl:∀q∈l,q<n):l.length<=n:=by
 have:=h.length_le_of_subset (fun q hq=>List.mem_range.2 (hl q hq));simpa using this
theorem AccI.start {d:DfaV}{n k:Nat}(hd:VD d n k):AccI d n k 0 [st0 d] :=
 ⟨yq,fun q hq=>by rw[List.mem_singleton]at hq;subst hq;exact jB hd,⟨yq,yq⟩,fun j a hj=>by omega,fun q hq=>by
  rw[List.mem_singleton]at hq;subst hq;exact⟨[],fun a ha=>by simp at ha,rfl⟩⟩
theorem qFT {d:DfaV}{n k:Nat}(hd:VD d n k):∀f i l,AccI d n k i l->n<=i+f->AccI d n k n (qL d k f i l)/\(qL d k f i l).length<=n
 | 0,i,l,h,hf=>by
  have hl:=qN h.nd h.lt
  exact⟨⟨h.nd,h.lt,h.hd,fun j a hj hjl ha=>h.cl j a yo hjl ha,h.re⟩,hl⟩
 | f+1,i,l,h,hf=>by
  rw[qL]
  split
  ·rename_i hi
   exact qFT hd f (i+1) _ (h.row hd hi) yo
  ·rename_i hi
   have hl:=qN h.nd h.lt
   exact⟨⟨h.nd,h.lt,h.hd,fun j a hj hjl ha=>h.cl j a yo hjl ha,h.re⟩,hl⟩
theorem wV {d:DfaV}{n k:Nat}(hd:VD d n k):AccI d n k n (yN d k)/\(yN d k).length<=n:=qFT hd _ _ _ (AccI.start hd) (by rw[hd.hn];omega)
theorem eU {d:DfaV}{k f:Nat}(h:¬i<l.length):qL d k f i l=l:=by
 cases f with
 | zero=>rfl
 | succ f=>rw[qL,if_neg h]
def qJ (l:List Nat)(q:Nat):Int:=if q∈l then (l.idxOf q:Int) else -1
def vV (l:List Nat)(r:List Int):List Int:=r.map fun s=>qJ l s.toNat
def wX (d:DfaV)(k:Nat):DfaV:=⟨d.letters,0,(yN d k).map fun q=>d.final.getD q false,(yN d k).map fun q=>vV (yN d k) (d.next.getD q [])⟩
section
variable {d:DfaV} {n k:Nat}
theorem kY (hd:VD d n k)(hi:i<(yN d k).length)(ha:a<k):ent (wX d k).next i a=(((yN d k).idxOf (nx d ((yN d k).getD i 0) a):Nat):Int):=by
 have hA:=(wV hd).1;have hq:=hA.lt _ (show (yN d k).getD i 0∈yN d k by rw[zQ hi];exact List.getElem_mem _);have hn:=(wV hd).2;unfold ent wX;rw[xY (x:=0) hi,vV,xY (x:=0) (by rw[hd.row _ hq];exact ha),qJ,if_pos]
 ·rfl
 exact hA.cl i a yo hi ha
theorem kH (hd:VD d n k):VD (wX d k) (yN d k).length k where
 hk:=hd.hk
 k1:=hd.k1
 k6:=hd.k6
 hn:=by simp[wX]
 n1:=(wV hd).1.hd.1
 nbig:=Nat.le_trans (wV hd).2 hd.nbig
 nl:=by simp[wX]
 s0:=by simp[wX]
 sn:=by have:=(wV hd).1.hd.1;simp only[wX];omega
 row:=fun i hi=>by
  have hA:=(wV hd).1
  have hq:=hA.lt _ (show (yN d k).getD i 0∈yN d k by rw[zQ hi];exact List.getElem_mem _)
  simp only[wX]
  rw[xY (x:=0) hi,vV,List.length_map,hd.row _ hq]
 lo:=fun i a hi ha=>by rw[kY hd hi ha];omega
 hi:=fun i a hi ha=>by
  have hn:=(wV hd).2
  rw[kY hd hi ha]
  have:=List.idxOf_lt_length_of_mem ((wV hd).1.cl i a yo hi ha)
  omega
theorem qII (hd:VD d n k)(hi:i<(yN d k).length)(ha:a<k):nx (wX d k) i a=(yN d k).idxOf (nx d ((yN d k).getD i 0) a):=by
 show (ent (wX d k).next i a).toNat=_;rw[kY hd hi ha];simp
theorem qER (hd:VD d n k):∀(w:List Nat) {i:Nat},i<(yN d k).length->qY k w->(yN d k).getD (run (wX d k) i w) 0=run d ((yN d k).getD i 0) w
 | [],i,_,_=>rfl
 | a::w,i,hi,hw=>by
  have ha:=hw a yq
  have hn:=(wV hd).2
  have hm:=(wV hd).1.cl i a yo hi ha
  have hlt:=List.idxOf_lt_length_of_mem hm
  have h:=qER hd w (i:=nx (wX d k) i a) (by rw[qII hd hi ha];exact hlt) (fun b hb=>hw b (by simp[hb]))
  show (yN d k).getD (run (wX d k) (nx (wX d k) i a) w) 0=run d (nx d ((yN d k).getD i 0) a) w
  rw[h,qII hd hi ha,zQ hlt,List.getElem_idxOf]
theorem iH (hd:VD d n k)(hi:i<(yN d k).length):(wX d k).final.getD i false=d.final.getD ((yN d k).getD i 0) false:=by
 simp only[wX];rw[xY (x:=0) hi]
end
def minD (d:DfaV)(k:Nat):DfaV:=wX (sV d (xU d k)) k
def minN (d:DfaV)(k:Nat):Nat:=(yN (sV d (xU d k)) k).length
section
variable {d:DfaV} {n k:Nat}
theorem gZ (hd:VD d n k):VD (sV d (xU d k)) (cls (xU d k)) k:=qDE hd (by rw[uI,hd.hn]) (rO d k)
theorem cJ (hd:VD d n k):VD (minD d k) (minN d k) k:=kH (gZ hd)
theorem qKI (hd:VD d n k):minN d k<=n:=Nat.le_trans (wV (gZ hd)).2 (Nat.le_trans (gI _) (by rw[uI,hd.hn];exact Nat.le_refl _))
end
open Go.RowKit
def rP (B:Nat)(w:World)(v:Value)(d:DfaV):Prop:=∃fv nv,v=.agg #[.int .i64 d.letters,.int .i64 d.start,fv,nv]/\Row B w fv (bls d.final)/\Mat B w nv d.next
theorem rP.kept {w':World}{d:DfaV}{row:Option Nat}(h:rP B w v d)(hg:w.grownBy w' row)(hr:∀k,row=some k->B<=k):rP B w' v d:=by
 obtain⟨fv,nv,h1,h2,h3⟩:=h;exact⟨fv,nv,h1,h2.kept hg hr,h3.kept hg hr⟩
theorem rP.mono {B':Nat}{d:DfaV}(h:rP B w v d)(hB:B<=B'):rP B' w v d:=by
 obtain⟨fv,nv,h1,h2,h3⟩:=h;exact⟨fv,nv,h1,h2.mono hB,h3.mono hB⟩
theorem lW {d:DfaV}(h:d.letters<1\/6<d.letters):uR d=1:=by rw[uR,if_pos h]
theorem dJ {d:DfaV}(h:¬(d.letters<1\/6<d.letters))(h2:512<d.final.length):uR d=3:=by rw[uR,if_neg h,if_pos h2]
theorem iY {d:DfaV}(h:¬(d.letters<1\/6<d.letters))(h2:¬512<d.final.length)(h3:d.final.length=0\/d.next.length≠d.final.length\/d.start<0\/d.final.length<=d.start):uR d=4:=by rw[uR,if_neg h,if_neg h2,if_pos h3]
theorem qR {d:DfaV}(h:¬(d.letters<1\/6<d.letters))(h2:¬512<d.final.length)(h3:¬(d.final.length=0\/d.next.length≠d.final.length\/d.start<0\/d.final.length<=d.start))(hq:q<d.next.length)(hb:rowD d.letters d.final.length (d.next.getD q [])=false):uR d=4:=by
 rw[uR,if_neg h,if_neg h2,if_neg h3,if_neg];intro ha;have:=List.all_eq_true.1 ha d.next[q] (List.getElem_mem hq);rw[zQ hq,this]at hb;cases hb
theorem qAE {d:DfaV}(h:¬(d.letters<1\/6<d.letters))(h2:¬512<d.final.length)(h3:¬(d.final.length=0\/d.next.length≠d.final.length\/d.start<0\/d.final.length<=d.start))(ha:∀q,q<d.next.length->rowD d.letters d.final.length (d.next.getD q [])=true):uR d=0:=by
 rw[uR,if_neg h,if_neg h2,if_neg h3,if_pos];rw[List.all_eq_true];intro r hr;obtain⟨q,hq,rfl⟩:=List.getElem_of_mem hr;have:=ha q hq
 rwa [zQ hq]at this
theorem qEX {k:Int}{n:Nat}(h:(r.length:Int)≠k):rowD k n r=false:=by simp[rowD,h]
theorem gX {k:Int}{n:Nat}{y:Nat}(hy:y<r.length)(h:r.getD y 0<0\/n<=r.getD y 0):rowD k n r=false:=by
 rw[<-Bool.not_eq_true];intro hr;have:=(oT.1 hr).2 y hy;omega
def qTM (d:DfaV)(k:Nat):Prop:=∀x,x<k->rowD d.letters d.final.length (d.next.getD x [])=true
end Go.Proofs.YtiknckajkdlppaaGreat
