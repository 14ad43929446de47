/- Part 3 of the proof. -/
import Derived.Test.YtjfdomfendbhfaaQf2
import Derived.OwnWalk
import Derived.ArgAppend
import Derived.Lib.MakeNoZero
import Derived.Lib.SlBuf
import Derived.Deep.RegionLaw
import Derived.Laws.Externs
import Derived.Deep.LoopGhost
import Derived.Deep.RegionHeld3
import Derived.Deep.DrawnRows
import Derived.Maps.Own
import Derived.Maps.Views
set_option linter.unusedVariables false
set_option linter.unusedSimpArgs false
set_option maxRecDepth 100000
set_option maxHeartbeats 16000000
namespace Go.Proofs.Ytjfdomfendbhfaa
def nxtT (ds:List DfaV)(x:List Nat)(a:Nat):List Nat:=(List.range ds.length).map fun i=>nx (ds.getD i ⟨0,0,[],[]⟩) (x.getD i 0) a
def st0T (ds:List DfaV):List Nat:=ds.map st0
def dN:DfaV:=⟨0,0,[],[]⟩
theorem oF (ds:List DfaV)(x:List Nat)(a:Nat):(nxtT ds x a).length=ds.length:=by simp[nxtT]
theorem sJ (ds:List DfaV):(st0T ds).length=ds.length:=by simp[st0T]
theorem gQ {ds:List DfaV}{x:List Nat}{a i:Nat}(hi:i<ds.length):(nxtT ds x a).getD i 0=nx (ds.getD i dN) (x.getD i 0) a:=by
 rw[zG (by rw[oF];exact hi)];simp[nxtT,dN]
theorem gN {ds:List DfaV}{i:Nat}(hi:i<ds.length):(st0T ds).getD i 0=st0 (ds.getD i dN):=by
 rw[zG (by rw[sJ];exact hi),zG hi];simp[st0T]
theorem qAZ {ds:List DfaV}{i:Nat}(hi:i<ds.length):∀ (w:List Nat) (x:List Nat),(sE (nxtT ds) x w).getD i 0=run (ds.getD i dN) (x.getD i 0) w
 | [],x=>rfl
 | a::w,x=>by
  show (sE (nxtT ds) (nxtT ds x a) w).getD i 0=run (ds.getD i dN) (nx (ds.getD i dN) (x.getD i 0) a) w
  rw[qAZ hi w,gQ hi]
def accT (ds:List DfaV)(x:List Nat)(i:Nat):Bool:=(ds.getD i dN).final.getD (x.getD i 0) false
theorem uC {ds:List DfaV}{i:Nat}(hi:i<ds.length)(w:List Nat):accT ds (sE (nxtT ds) (st0T ds) w) i=acc (ds.getD i dN) (st0 (ds.getD i dN)) w:=by
 unfold accT acc;rw[qAZ hi,gN hi]
def OkT (ds:List DfaV)(k:Nat):Prop:=∀ i,i<ds.length->∃ n,VD (ds.getD i dN) n k/\n<=512
def InT (ds:List DfaV)(x:List Nat):Prop:=x.length=ds.length/\∀ i,i<ds.length->x.getD i 0<(ds.getD i dN).final.length
theorem OkT.in0 {ds:List DfaV}{k:Nat}(h:OkT ds k):InT ds (st0T ds):=⟨sJ ds,fun i hi=>by
 obtain⟨n,hv,_⟩:=h i hi
 rw[gN hi,hv.hn];exact qR hv⟩
theorem OkT.next {ds:List DfaV}{k:Nat}(h:OkT ds k){x:List Nat}(hx:InT ds x){a:Nat}(ha:a<k):InT ds (nxtT ds x a):=⟨oF ds x a,fun i hi=>by
 obtain⟨n,hv,_⟩:=h i hi
 have h1:=hx.2 i hi
 rw[hv.hn]at h1 ⊢
 rw[gQ hi];exact qC hv h1 ha⟩
theorem OkT.small {ds:List DfaV}{k:Nat}(h:OkT ds k){x:List Nat}(hx:InT ds x):∀ i,i<ds.length->x.getD i 0<512:=fun i hi=>by
 obtain⟨n,hv,h5⟩:=h i hi
 have h1:=hx.2 i hi
 rw[hv.hn]at h1;omega
theorem OkT.walk {ds:List DfaV}{k:Nat}(h:OkT ds k):∀ (w:List Nat) {x:List Nat},InT ds x->yI k w->InT ds (sE (nxtT ds) x w)
 | [],x,hx,_=>hx
 | a::w,x,hx,hw=>OkT.walk h w (h.next hx (hw a (by simp))) (fun b hb=>hw b (List.mem_cons_of_mem _ hb))
def qID (ds:List DfaV)(k:Nat):Prop:=∃ l,BfsD (nxtT ds) k (st0T ds) l/\l.length<=4000
def Over (ds:List DfaV)(k:Nat):Prop:=∃ l:List (List Nat),l.Nodup/\(∀ x∈l,∃ w,yI k w/\sE (nxtT ds) (st0T ds) w=x)/\4000<l.length
theorem mG {ds:List DfaV}{k:Nat}(h:qID ds k)(h':Over ds k):False:=by
 obtain⟨l,hl,h1⟩:=h;obtain⟨m,hm,hr,h2⟩:=h';have:=hl.sub hm hr;omega
theorem BfsI.over {ds:List DfaV}{k i a:Nat}{l:List (List Nat)}(h:BfsI (nxtT ds) k (st0T ds) l i a)(hl:l.length=4000)(ha:a<k){x:List Nat}(hx:l[i]?=some x)(hm:nxtT ds x a ∉ l):Over ds k:=by
 have:=h.new ha hx hm;exact⟨_,this.nd,this.re,by simp;omega⟩
def Conf (ds:List DfaV)(np k:Nat):Prop:=∃ u v,yI k u/\yI k v/\(∀ i,i<np->acc (ds.getD i dN) (st0 (ds.getD i dN)) u=acc (ds.getD i dN) (st0 (ds.getD i dN)) v)/\acc (ds.getD np dN) (st0 (ds.getD np dN)) u=true/\acc (ds.getD np dN) (st0 (ds.getD np dN)) v=false
def mtsT (ds:List DfaV)(np:Nat)(x:List Nat):List Bool:=(List.range np).map fun i=>accT ds x i
theorem oI (ds:List DfaV)(np:Nat)(x:List Nat):(mtsT ds np x).length=np:=by simp[mtsT]
theorem jE {ds:List DfaV}{np i:Nat}{x:List Nat}(hi:i<np):(mtsT ds np x).getD i false=accT ds x i:=by
 rw[zG (by rw[oI];exact hi)];simp[mtsT]
theorem qGV {ds:List DfaV}{np:Nat}{x y:List Nat}:mtsT ds np x=mtsT ds np y ↔ ∀ i,i<np->accT ds x i=accT ds y i:=by
 constructor
 ·intro h i hi
  rw[<- jE hi,h,jE hi]
 ·intro h
  exact List.map_congr_left fun i hi=>h i (List.mem_range.1 hi)
theorem gX {ds:List DfaV}{np k:Nat}(hn:np<ds.length){l:List (List Nat)}(h:BfsD (nxtT ds) k (st0T ds) l):
  Conf ds np k ↔ ∃ x y,x∈l/\y∈l/\mtsT ds np x=mtsT ds np y/\accT ds x np=true/\accT ds y np=false:=by
 constructor
 ·rintro ⟨u,v,hu,hv,h1,h2,h3⟩
  refine⟨_,_,h.all u h.mem0 hu,h.all v h.mem0 hv,qGV.2 fun i hi=>?_,?_,?_⟩
  ·rw[uC (by omega),uC (by omega)];exact h1 i hi
  ·rw[uC hn];exact h2
  ·rw[uC hn];exact h3
 ·rintro ⟨x,y,hx,hy,h1,h2,h3⟩
  obtain⟨u,hu,rfl⟩:=h.re x hx;obtain⟨v,hv,rfl⟩:=h.re y hy;refine⟨u,v,hu,hv,fun i hi=>?_,?_,?_⟩
  ·have:=qGV.1 h1 i hi
   rwa [uC (by omega),uC (by omega)]at this
  ·rwa [uC hn]at h2
  ·rwa [uC hn]at h3
end Go.Proofs.Ytjfdomfendbhfaa
namespace Go.Proofs.Ytjfdomfendbhfaa
def FstI (M:Nat->List Bool)(A:Nat->Bool)(s:Nat)(m:List Bool)(y:Int):Prop :=
 (y = -1/\∀ i,i<s->M i=m->A i=false)\/∃ j:Nat,y=(j:Int)/\j<s/\M j=m/\A j=true
theorem FstI.keep {M:Nat->List Bool}{A:Nat->Bool}{s:Nat}{m:List Bool}{y:Int}(h:FstI M A s m y)(hA:M s=m->A s=true->0<=y):FstI M A (s+1) m y:=by
 rcases h with ⟨rfl,h⟩|⟨j,rfl,hj,h1,h2⟩
 ·refine .inl ⟨rfl,fun i hi hm=>?_⟩
  rcases Nat.lt_succ_iff_lt_or_eq.1 hi with hi|rfl
  ·exact h i hi hm
  ·cases hb:A i with
   | false=>rfl
   | true=>have:=hA hm hb;omega
 ·exact .inr ⟨j,rfl,by omega,h1,h2⟩
theorem FstI.lo {M:Nat->List Bool}{A:Nat->Bool}{s:Nat}{m:List Bool}{y:Int}(h:FstI M A s m y):-1<=y/\y<s\/y = -1:=by
 rcases h with ⟨rfl,h⟩|⟨j,rfl,hj,h1,h2⟩
 ·exact .inr rfl
 ·exact .inl ⟨by omega,by omega⟩
structure ClsI (M:Nat->List Bool)(A:Nat->Bool)(s t:Nat)(l:List ClaV):Prop where
 nd:(l.map ClaV.m).Nodup
 all:∀ i,i<t->M i∈l.map ClaV.m
 met:∀ c∈l,∃ i,i<t/\M i=c.m
 yes:∀ c∈l,FstI M A s c.m c.yes
 no:∀ c∈l,FstI M (fun i=>!A i) s c.m c.no
theorem ClsI.nil (M:Nat->List Bool)(A:Nat->Bool):ClsI M A 0 0 [] :=
 ⟨by simp,fun i hi=>by omega,fun c hc=>by simp at hc,fun c hc=>by simp at hc,fun c hc=>by simp at hc⟩
theorem ClsI.old {M : Nat -> List Bool}{A : Nat -> Bool}{s : Nat}{l : List ClaV}(h : ClsI M A s s l)(hm : M s ∈ l.map ClaV.m): ClsI M A s (s + 1) l :=
 ⟨h.nd, fun i hi => by
  rcases Nat.lt_succ_iff_lt_or_eq.1 hi with hi | rfl
  ·exact h.all i hi
  ·exact hm, fun c hc => by obtain⟨i, hi, e⟩ := h.met c hc; exact⟨i, by omega, e⟩, h.yes, h.no⟩
theorem ClsI.new {M:Nat->List Bool}{A:Nat->Bool}{s:Nat}{l:List ClaV}(h:ClsI M A s s l)(hm:M s ∉ l.map ClaV.m):ClsI M A s (s+1) (l++[⟨M s,-1,-1⟩]):=by
 have h0:∀ i,i<s->M i=M s->False:=fun i hi e=>hm (e ▸ h.all i hi);refine⟨?_,fun i hi=>?_,fun c hc=>?_,fun c hc=>?_,fun c hc=>?_⟩
 ·rw[List.map_append,List.nodup_append]
  exact⟨h.nd,by simp,fun a ha b hb e=>by simp at hb;subst hb;subst e;exact hm ha⟩
 ·rw[List.map_append]
  rcases Nat.lt_succ_iff_lt_or_eq.1 hi with hi|rfl
  ·exact List.mem_append_left _ (h.all i hi)
  ·exact List.mem_append_right _ (by simp)
 ·rcases List.mem_append.1 hc with hc|hc
  ·obtain⟨i,hi,e⟩:=h.met c hc;exact⟨i,by omega,e⟩
  ·simp at hc;subst hc;exact⟨s,by omega,rfl⟩
 ·rcases List.mem_append.1 hc with hc|hc
  ·exact h.yes c hc
  ·simp at hc;subst hc;exact .inl ⟨rfl,fun i hi e=>(h0 i hi e).elim⟩
 ·rcases List.mem_append.1 hc with hc|hc
  ·exact h.no c hc
  ·simp at hc;subst hc;exact .inl ⟨rfl,fun i hi e=>(h0 i hi e).elim⟩
def putC (c:ClaV)(a:Bool)(s:Nat):ClaV:=if a=true then (if c.yes<0 then ⟨c.m,s,c.no⟩ else c) else (if c.no<0 then ⟨c.m,c.yes,s⟩ else c)
theorem qEO (c:ClaV)(a:Bool)(s:Nat):(putC c a s).m=c.m:=by
 unfold putC;split<;>split<;>rfl
theorem ClsI.put {M:Nat->List Bool}{A:Nat->Bool}{s n:Nat}{l:List ClaV}(h:ClsI M A s (s+1) l)(hn:n<l.length)(hm:(l.getD n default).m=M s):ClsI M A (s+1) (s+1) (l.set n (putC (l.getD n default) (A s) s)):=by
 have e0:l.getD n default=l[n]:=zG hn;rw[e0]at hm ⊢
 have h6:(l.set n (putC l[n] (A s) s)).map ClaV.m=l.map ClaV.m:=by
  rw[List.map_set,qEO];refine List.ext_getElem (by simp) fun i h1 h2=>?_;rw[List.getElem_set]
  split
  ·rename_i e;subst e;simp
  ·rfl
 have h0:∀ c∈l.set n (putC l[n] (A s) s),c=putC l[n] (A s) s\/(c∈l/\c.m≠M s):=fun c hc=>by
  obtain⟨i,hi,rfl⟩:=List.getElem_of_mem hc;rw[List.length_set]at hi;rw[List.getElem_set]
  split
  ·exact .inl rfl
  ·rename_i e
   refine .inr ⟨List.getElem_mem hi,fun e2=>e ?_⟩;have h3:=h.nd;have h4:(l.map ClaV.m)[n]'(by simpa using hn)=(l.map ClaV.m)[i]'(by simpa using hi):=by simp only[List.getElem_map];rw[hm,e2]
   exact(List.getElem_inj h3).1 h4
 have h5:=List.getElem_mem hn;refine⟨by rw[h6];exact h.nd,fun i hi=>by rw[h6];exact h.all i hi,fun c hc=>?_,fun c hc=>?_,fun c hc=>?_⟩
 ·rcases h0 c hc with rfl|⟨hc,_⟩
  ·rw[qEO];exact h.met _ h5
  ·exact h.met c hc
 ·rcases h0 c hc with rfl|⟨hc,hne⟩
  ·rw[qEO]
   have h1:=h.yes _ h5;unfold putC
   split
   ·rename_i ha
    split
    ·exact .inr ⟨s,rfl,by omega,hm.symm,ha⟩
    ·rename_i h2;exact h1.keep (fun _ _=>by omega)
   ·rename_i ha
    split
    ·exact h1.keep (fun _ hb=>absurd hb ha)
    ·exact h1.keep (fun _ hb=>absurd hb ha)
  ·exact(h.yes c hc).keep (fun e _=>absurd e.symm hne)
 ·rcases h0 c hc with rfl|⟨hc,hne⟩
  ·rw[qEO]
   have h1:=h.no _ h5;unfold putC
   split
   ·rename_i ha
    split
    ·exact h1.keep (fun _ hb=>by rw[ha]at hb;cases hb)
    ·exact h1.keep (fun _ hb=>by rw[ha]at hb;cases hb)
   ·rename_i ha
    split
    ·exact .inr ⟨s,rfl,by omega,hm.symm,by simp only[Bool.not_eq_true]at ha;simp[ha]⟩
    ·rename_i h2;exact h1.keep (fun _ _=>by omega)
  ·exact(h.no c hc).keep (fun e _=>absurd e.symm hne)
def kL (c:ClaV):Bool:=decide (0<=c.yes/\0<=c.no)
section
variable {M:Nat->List Bool} {A:Nat->Bool} {s:Nat} {l:List ClaV}
theorem ClsI.both (h:ClsI M A s s l){c:ClaV}(hc:c∈l)(hb:kL c=true):∃ y n:Nat,c.yes=(y:Int)/\c.no=(n:Int)/\y<s/\n<s/\M y=M n/\A y=true/\A n=false:=by
 simp only[kL,decide_eq_true_eq]at hb;rcases h.yes c hc with ⟨e,_⟩|⟨y,e1,hy,hy1,hy2⟩
 ·omega
 rcases h.no c hc with ⟨e,_⟩|⟨n,e2,hn,hn1,hn2⟩
 ·omega
 exact⟨y,n,e1,e2,hy,hn,hy1.trans hn1.symm,hy2,by simpa using hn2⟩
theorem ClsI.clash (h:ClsI M A s s l)(hb:∀ c∈l,kL c=false){i j:Nat}(hi:i<s)(hj:j<s)(hm:M i=M j)(h1:A i=true)(h2:A j=false):False:=by
 obtain⟨c,hc,e⟩:=List.mem_map.1 (h.all i hi);have h3:=hb c hc
 have h4:0<=c.yes:=by
  rcases h.yes c hc with ⟨_,h5⟩|⟨y,e1,_⟩
  ·have:=h5 i hi e.symm;rw[h1]at this;cases this
  ·omega
 have h5:0<=c.no:=by
  rcases h.no c hc with ⟨_,h5⟩|⟨y,e1,_⟩
  ·have:=h5 j hj (hm ▸ e.symm);simp[h2]at this
  ·omega
 simp[kL,h4,h5]at h3
theorem ClsI.dec (h:ClsI M A s s l)(hb:∀ c∈l,kL c=false){i:Nat}(hi:i<s):∃ c∈l,c.m=M i/\c.b=A i:=by
 obtain⟨c,hc,e⟩:=List.mem_map.1 (h.all i hi);refine⟨c,hc,e,?_⟩;unfold ClaV.b;rcases h.yes c hc with ⟨h4,h5⟩|⟨y,e1,hy,hy1,hy2⟩
 ·rw[h5 i hi e.symm,h4];rfl
 ·have:A i=true:=by
   cases hA:A i with
   | true=>rfl
   | false=>exact(h.clash hb hy hi (hy1.trans e) hy2 hA).elim
  rw[this,decide_eq_true_eq];omega
theorem ClsI.len_le (h:ClsI M A s s l):l.length<=s:=by
 have h1:(l.map ClaV.m).length<=((List.range s).map M).length:=List.Nodup.length_le_of_subset h.nd (fun x hx=>by
  obtain⟨c,hc,rfl⟩:=List.mem_map.1 hx;obtain⟨i,hi,e⟩:=h.met c hc
  exact List.mem_map.2 ⟨i,List.mem_range.2 hi,e⟩)
 simpa using h1
end
section
variable {M:Nat->List Bool} {A:Nat->Bool} {s:Nat} {sets:List (List Bool)} {ys ns:List Bool}
end
structure BackI (ds:List DfaV)(k:Nat)(L:List (List Nat))(s0 s:Nat)(t:List Nat):Prop where
 ok:yI k t
 walk:sE (nxtT ds) (L.getD s []) t.reverse=L.getD s0 []
 len:t.length+s<=s0
theorem BackI.start (ds:List DfaV)(k:Nat)(L:List (List Nat))(s:Nat):BackI ds k L s s []:=⟨fun a ha=>by simp at ha,rfl,by simp⟩
theorem BackI.step {ds : List DfaV}{k : Nat}{L : List (List Nat)}{s0 s f b : Nat}{t : List Nat}(h : BackI ds k L s0 s t)(hb : b < k)(hf : f < s)(he : nxtT ds (L.getD f []) b = L.getD s []): BackI ds k L s0 f (t ++ [b]) :=
 ⟨fun a ha => by
  rcases List.mem_append.1 ha with ha | ha
  ·exact h.ok a ha
  ·simp at ha; subst ha; exact hb, by
  rw[List.reverse_append]
  show sE (nxtT ds) (nxtT ds (L.getD f []) b) t.reverse = _
  rw[he]; exact h.walk, by have := h.len; rw[List.length_append, List.length_singleton]; omega⟩
end Go.Proofs.Ytjfdomfendbhfaa
namespace Go.Proofs.Ytjfdomfendbhfaa
open Go.RowKit
theorem yP:ElemOk Try.prog 34 3 (.int .i64 0) 8:=⟨Try.underlying34,by kernel_rfl,rfl⟩
theorem wU:ElemOk Try.prog 39 4 (.bool false) 1:=⟨Try.underlying39,by kernel_rfl,rfl⟩
theorem uP:ElemOk Try.prog 40 34 (.slice none 0 0) 24:=⟨Try.underlying40,by kernel_rfl,rfl⟩
theorem pU {z:Value}(hz:z.cells=#[z]):∀ (n:Nat),(madeCells z.cells (n * 1)).toList=List.replicate n z:=by
 intro n;rw[Nat.mul_one,hz];apply List.ext_getElem
 ·simp[madeCells]
 ·intro i h1 h2
  simp[madeCells,Nat.mod_one]
theorem nD {P:Program}{w:World}{ops:Array Oper}{rest:List Oper}{o:Oper}{a:Act}{Q:Exit->Act->World->Prop}(hgd:o.guard=none)(l c:Operand)(t:TypeId)(ho:o.op=.makeSlice t l c){e:TypeId}{z:Value}{bytes:Nat}(E:ElemOk P t e z bytes)(hz:z.cells=#[z])(kl kc:IntKind)(L C:Int)(n:Nat)(hl:a.eval l=.int kl L)(hc:a.eval c=.int kc C)(hL:L=(n:Int))(hC:C=(n:Int))(hb:bytes * n<=281474976710656)(h63:n<=maxLen)(h:∀ w',Arr w' w.heap.size e (List.replicate n z)->w.grownBy w' none->w.heap.size<w'.heap.size->wpList P ops Q rest (a.put o.dst (.slice (some ⟨w.heap.size,0,none⟩) n n)) w'):wpList P ops Q (o::rest) a w:=by
 obtain⟨i,hi,h1,h2,h3⟩:=info_parts E.hi;refine wpList_make_full w hgd l c t ho w.heap.size e i z 1 E.ht hi h1 h2 kl kc L C n hl hc hL hC (by rw[h3];exact hb) h63 (Nat.le_refl _) ?_;intro w' h0 hg;have ha:=Arr.of_owns h0;rw[pU hz]at ha;exact h w' ha hg ha.lt
theorem xN {w:World}{base base' e size:Nat}{v:Value}{n:Nat}{xs:List Value}(h:w.ownsRow base e size v n xs)(hb:base'<=base):w.ownsRow base' e size v n xs:=by
 refine⟨h.1,?_⟩;rcases h.2 with h2|⟨g,cap,cur,h1,h2,h3⟩
 ·exact .inl h2
 ·exact .inr ⟨g,cap,cur,h1,Nat.le_trans hb h2,h3⟩
theorem wQ {w:World}{base e n sc:Nat}{sa:Option Addr}{xs:List Value}(h:w.ownsRow base e 1 (.slice sa n sc) n xs)(hn:0<n):∃ kb,sa=some ⟨kb,0,none⟩/\n<=sc/\sc<=maxLen/\Arr w kb e xs:=by
 rcases h.2 with ⟨h',h0⟩|⟨g,cap,cur,h1,hb,hg,hnc,hcm,_⟩
 ·omega
 ·simp only[Value.slice.injEq]at h1
  obtain⟨rfl,-,rfl⟩:=h1;exact⟨g,rfl,hnc,hcm,Arr.of_owns h⟩
def qP (w w':World)(v v':Value):Prop:=v'.ownBlock=v.ownBlock\/(w.grownBy w' none/\∀ k,v'.ownBlock=some k->w.heap.size<=k)
theorem qDH {P:Program}{w:World}{ops:Array Oper}{rest:List Oper}{o:Oper}{a:Act}{Q:Exit->Act->World->Prop}(hgd:o.guard=none)(s x:Operand)(t:TypeId)(ho:o.op=.call { callee:=.builtin .append,args:=#[s,x],argTypes:=#[t,t] }){e:TypeId}{z:Value}{bytes:Nat}(E:ElemOk P t e z bytes)(base:Nat)(v:Value)(n:Nat)(xs:List Value)(hs:a.eval s=v)(hown:w.ownsRow base e 1 v n xs)(u:Value)(hx:a.eval x=.slice (some ⟨w.heap.size,0,none⟩) 1 1)(h1:u.oneCell'=true)(h63:n+1<=maxLen)(hbytes:(n+1) * bytes<=140737488355328)(hbase:base<=w.heap.size)(h:∀ sa sc w',w'.ownsRow base e 1 (.slice sa (n+1) sc) (n+1) (xs++[u])->w.grownBy w' v.ownBlock->w.heap.size<w'.heap.size->qP w w' v (.slice sa (n+1) sc)->wpList P ops Q rest (a.put o.dst (.slice sa (n+1) sc)) w'):
  wpList P ops Q (o::rest) a (w.alloc (.cells #[u] e)):=by
 obtain⟨i,hi,hz,h6,h9⟩:=info_parts E.hi
 have h0:∀ j u',[u][j]?=some u'->(w.alloc (.cells #[u] e)).cell? ((⟨w.heap.size,0,none⟩:Addr).add j)=some u':=by
  intro j u' hj
  match j,hj with
  | 0,hj=>simp at hj;subst hj;simp[Addr.add]
 have h5:∀ u'∈[u],u'.oneCell'=true:=by intro u' hu;simp at hu;subst hu;exact h1
 have hA:=Ga w (.cells #[u] e) none
 have fin:∀ v' w',w'.ownsRow base e 1 v' (n+1) (xs++[u])->(w.alloc (.cells #[u] e)).grownBy w' v.ownBlock->(v'.ownBlock=v.ownBlock\/((w.alloc (.cells #[u] e)).grownBy w' none/\∀ k,v'.ownBlock=some k->w.heap.size<=k))->wpList P ops Q rest (a.put o.dst v') w':=by
  intro v' w' h1 h2 h3;obtain⟨sa,sc,rfl⟩:=rU h1;refine h sa sc w' h1 ?_ (by have:=h2.size;simp at this;omega) ?_
  ·exact⟨h2.os,h2.tape,h2.output,by have:=h2.size;simp at this;omega,fun k hk hne=>(h2.block k (by simp;omega) hne).trans (Below.heap_alloc w _ k hk)⟩
  ·rcases h3 with h3|⟨h3,h4⟩
   ·exact .inl h3
   ·exact .inr ⟨zD hA h3,h4⟩
 rcases hown.2 with ⟨rfl,rfl⟩|⟨g,cap,cur,rfl,hb,hg,hnc,hcm,hcs,htake⟩
 ·have hl:xs=[]:=List.eq_nil_of_length_eq_zero (by have:=hown.1;omega)
  subst hl;refine wpList_append_grows _ hgd s x t ho e i z 1 bytes E.ht hi hz h6 h9 E.hz (by decide) none 0 0 [] hs (fun _=>⟨rfl,rfl⟩) rfl (fun b hb=>by cases hb) ⟨w.heap.size,0,none⟩ 1 1 [u] hx rfl h0 h5 (by omega) h63 hbytes ?_;intro v' w' h1 h2;exact fin v' w' (xN h1 (by simp;omega)) (yQ h2) (.inr ⟨h2,fun k hk=>by have:=(h1.lt k hk).1;simp at this;omega⟩)
 ·by_cases hroom:n+1<=cap
  ·refine wpList_append_fits _ hgd s x t ho base e i 1 E.ht hi h6 g n cap xs hs (hown.alloc _) ⟨w.heap.size,0,none⟩ 1 1 [u] hx rfl h0 h5 hroom ?_
   intro w' h1 h2;exact fin _ w' h1 h2 (.inl rfl)
  ·refine wpList_append_grows _ hgd s x t ho e i z 1 bytes E.ht hi hz h6 h9 E.hz (by decide) (some ⟨g,0,none⟩) n cap xs hs (fun h=>by cases h) hown.1 (fun b hb j u' hj=>?_) ⟨w.heap.size,0,none⟩ 1 1 [u] hx rfl h0 h5 (by omega) h63 hbytes ?_
   ·simp at hb
    subst hb
    have h8:j<xs.length:=by
     rcases Nat.lt_or_ge j xs.length with h|h
     ·exact h
     ·rw[List.getElem?_eq_none h]at hj;cases hj
    have:=(Arr.of_owns (hown.alloc (.cells #[u] e))).cell j h8;rw[List.getElem?_eq_getElem h8]at hj;have h7:(⟨g,0,none⟩:Addr).add j=⟨g,j,none⟩:=by unfold Addr.add;split<;>simp_all
    rw[h7,this];exact hj
   ·intro v' w' h1 h2
    exact fin v' w' (xN h1 (by simp;omega)) (yQ h2) (.inr ⟨h2,fun k hk=>by have:=(h1.lt k hk).1;simp at this;omega⟩)
def bls (bs:List Bool):List Value:=bs.map Value.bool
def nats (l:List Nat):List Value:=l.map fun(x:Nat)=>Value.int .i64 (x:Int)
theorem xE (bs:List Bool):(bls bs).length=bs.length:=by simp[bls]
theorem zT (l:List Nat):(nats l).length=l.length:=by simp[nats]
theorem Arr.bool {w:World}{g:Nat}{e:TypeId}{bs:List Bool}(h:Arr w g e (bls bs))(i:Nat)(hi:i<bs.length):w.cell? ⟨g,i,none⟩=some (.bool (bs.getD i false)):=by
 rw[h.cell i (by rw[xE];exact hi)];simp[bls,List.getD,List.getElem?_eq_getElem hi]
theorem Arr.int {w:World}{g:Nat}{e:TypeId}{zs:List Int}(h:Arr w g e (ints zs))(i:Nat)(hi:i<zs.length):w.cell? ⟨g,i,none⟩=some (.int .i64 (zs.getD i 0)):=by
 rw[h.cell i (by rw[yE];exact hi)];simp[ints,List.getD,List.getElem?_eq_getElem hi]
theorem Arr.nat {w:World}{g:Nat}{e:TypeId}{l:List Nat}(h:Arr w g e (nats l))(i:Nat)(hi:i<l.length):w.cell? ⟨g,i,none⟩=some (.int .i64 ((l.getD i 0:Nat):Int)):=by
 rw[h.cell i (by rw[zT];exact hi)];simp[nats,List.getD,List.getElem?_eq_getElem hi]
theorem vW.nat {w:World}{b off:Nat}{l:List Nat}(h:vW w b off (nats l))(i:Nat)(hi:i<l.length):w.cell? ⟨b,off+i,none⟩=some (.int .i64 ((l.getD i 0:Nat):Int)):=by
 rw[vW.map h i hi];simp[List.getD,List.getElem?_eq_getElem hi]
theorem Arr.bool_set {w:World}{g:Nat}{e:TypeId}{bs:List Bool}(h:Arr w g e (bls bs))(i:Nat)(hi:i<bs.length)(c:Bool):Arr (w.setCell ⟨g,i,none⟩ (.bool c)) g e (bls (bs.set i c)):=by
 have:=h.set i (by rw[xE];exact hi) (.bool c)
 rwa [bls,List.map_set]
theorem Arr.int_set {w:World}{g:Nat}{e:TypeId}{zs:List Int}(h:Arr w g e (ints zs))(i:Nat)(hi:i<zs.length)(c:Int):Arr (w.setCell ⟨g,i,none⟩ (.int .i64 c)) g e (ints (zs.set i c)):=by
 have:=h.set i (by rw[yE];exact hi) (.int .i64 c)
 rwa [ints,List.map_set]
theorem Arr.nat_set {w:World}{g:Nat}{e:TypeId}{l:List Nat}(h:Arr w g e (nats l))(i:Nat)(hi:i<l.length)(c:Nat):Arr (w.setCell ⟨g,i,none⟩ (.int .i64 (c:Int))) g e (nats (l.set i c)):=by
 have:=h.set i (by rw[zT];exact hi) (.int .i64 (c:Int))
 rwa [nats,List.map_set]
theorem oS (n:Nat)(c:Bool):bls (List.replicate n c)=List.replicate n (.bool c):=by simp[bls]
theorem yV (n:Nat):nats (List.replicate n 0)=List.replicate n (.int .i64 0):=by simp[nats]
theorem sU (n:Nat):ints (List.replicate n 0)=List.replicate n (.int .i64 0):=by simp[ints]
theorem vQ (l:List Nat)(x:Nat):nats (l++[x])=nats l++[.int .i64 (x:Int)]:=by simp[nats]
theorem qX (l:List Nat):nats l=ints (l.map fun(x:Nat)=>(x:Int)):=by simp[nats,ints]
theorem getD_set_ne {α:Type}(l:List α)(i j:Nat)(c d:α)(hne:i≠j):(l.set i c).getD j d=l.getD j d:=by simp[List.getD,List.getElem?_set_ne hne]
theorem zR {α:Type}{l:List α}{k:Nat}{d:α}(h:k<l.length):l.take (k+1)=l.take k++[l.getD k d]:=by
 rw[List.take_succ_eq_append_getElem h];simp[List.getD,List.getElem?_eq_getElem h]
theorem rX (w:World)(c1 c2:Array Value)(e:Nat):((w.alloc (.cells c1 e)).alloc (.cells c2 e)).heap[w.heap.size]?=some (.cells c1 e (0,0))/\((w.alloc (.cells c1 e)).alloc (.cells c2 e)).heap[w.heap.size+1]?=some (.cells c2 e (0,0))/\w.grownBy ((w.alloc (.cells c1 e)).alloc (.cells c2 e)) none/\((w.alloc (.cells c1 e)).alloc (.cells c2 e)).heap.size=w.heap.size+2:=by
 refine⟨zA (heap_alloc_new w _) (Ga _ _ none) (by simp),?_,xR (Ga w _ none) _,by rw[zO,zO]⟩;have:=heap_alloc_new (w.alloc (.cells c1 e)) (.cells c2 e);rw[zO]at this;exact this
def zb (l:List Nat):List Int:=l.map fun(x:Nat)=>(x:Int)
def txtT (f:List Nat):ByteArray:=strOfNums (zb f)
theorem qAW (l:List Nat):(zb l).length=l.length:=by simp[zb]
def u8s (l:List Nat):List Value:=(zb l).map (Value.int .u8)
theorem cJ (l:List Nat):(u8s l).length=l.length:=by simp[u8s,zb]
theorem fE (l:List Nat)(i x:Nat):(u8s l).set i (.int .u8 (x:Int))=u8s (l.set i x):=by simp[u8s,zb,List.map_set]
theorem u8s_replicate (n:Nat):u8s (List.replicate n 0)=List.replicate n (.int .u8 0):=by simp[u8s,zb]
theorem aJ {w:World}{g:Nat}{l:List Nat}(h:Arr w g 5 (u8s l))(i:Nat)(hi:i<l.length):w.cell? ⟨g,i,none⟩=some (.int .u8 ((l.getD i 0:Nat):Int)):=by
 rw[h.cell i (by rw[cJ];exact hi),zG hi];simp[u8s,zb]
theorem qGA {f g:List Nat}(hf:∀ x∈f,x<256)(hg:∀ x∈g,x<256)(h:txtT f=txtT g):f=g:=by
 have h1:(zb f).map (fun n=>UInt8.ofNat n.toNat)=(zb g).map (fun n=>UInt8.ofNat n.toNat):=by
  have:=congrArg (fun s:ByteArray=>s.data.toList) h;simpa [txtT,strOfNums] using this
 simp only[zb,List.map_map]at h1;refine List.ext_getElem (by have:=congrArg List.length h1;simpa using this) fun i h2 h3=>?_;have h4:=congrArg (fun l=>l[i]?) h1;simp only[List.getElem?_map,List.getElem?_eq_getElem h2,List.getElem?_eq_getElem h3,Option.map_some,Option.some.injEq,Function.comp,Int.toNat_natCast]at h4;have h5:=congrArg UInt8.toNat h4;have h6:=hf _ (List.getElem_mem h2);have h7:=hg _ (List.getElem_mem h3);simp only[UInt8.toNat_ofNat']at h5;omega
theorem aK (x n:Int)(hn:1<=n):-n<x.tmod n/\x.tmod n<n:=by
 constructor
 ·by_cases h:0<=x
  ·have:=Int.tmod_nonneg n h;omega
  ·have h1:=Int.tmod_lt_of_pos (-x) (show (0:Int)<n by omega)
   rw[Int.neg_tmod]at h1;omega
 ·exact Int.tmod_lt_of_pos x (by omega)
def modI (x n:Int):Int:=if n<1 then 0 else if x.tmod n<0 then x.tmod n+n else x.tmod n
theorem oJ (x n:Int):0<=modI x n:=by
 unfold modI;split
 ·omega
 ·have:=aK x n (by omega);split<;>omega
theorem aZ (x n:Int)(h:1<=n):modI x n<n:=by
 have:=aK x n h;unfold modI;rw[if_neg (by omega)];split<;>omega
theorem modI_zero (x n:Int)(h:n<1):modI x n=0:=by
 unfold modI;rw[if_pos h]
theorem eM (x n:Int)(w:World)(hn:n<=9223372036854775807):
  Calls Try.prog 30 #[.int .i64 x,.int .i64 n] w fun e w'=>e=.returned (.int .i64 (modI x n))/\w=w':=by
 by_cases h1:n<1
 ·go_enter Try.func30,Try.ntmps30
  go_wp2;go_ret;exact⟨yC (modI_zero x n (by omega)).symm,rfl⟩
 ·have h2:=(aK x n (by omega)).1
  have h0:=(aK x n (by omega)).2;go_enter Try.func30,Try.ntmps30;go_wp2
  all_goals (go_ret;exact⟨yC (by unfold modI;rw[if_neg (by omega)];first|rw[if_pos (by omega)]|rw[if_neg (by omega)]),rfl⟩)
def xX (B:Nat)(w:World)(tb:Nat):Prop :=
 ∃ (sl:Value) (zs:List Int) (n:Nat),w.heap[tb]?=some (.cells #[sl,.int .i64 n] 82 (0,0))/\Row B w sl (zs.map (Value.int .i64))/\B<=tb/\n<=zs.length
theorem xX.lt {B:Nat}{w:World}{tb:Nat}(h:xX B w tb):tb<w.heap.size:=by
 obtain⟨_,_,_,h,_⟩:=h;exact(Array.getElem?_eq_some_iff.1 h).1
theorem xX.ge {B:Nat}{w:World}{tb:Nat}(h:xX B w tb):B<=tb:=by
 obtain⟨_,_,_,_,_,h,_⟩:=h;exact h
theorem xX.kept {B:Nat}{w w':World}{tb:Nat}{row:Option Nat}(h:xX B w tb)(hg:w.grownBy w' row)(hr:∀ k,row=some k->B<=k/\k≠tb):xX B w' tb:=by
 have hl:=h.lt;obtain⟨sl,zs,n,h1,h2,h3,h4⟩:=h;exact⟨sl,zs,n,(hg.block tb hl (fun e=>(hr tb e.symm).2 rfl)).trans h1,h2.kept hg (fun k e=>(hr k e).1),h3,h4⟩
theorem xX.of_heap {B:Nat}{w w':World}{tb:Nat}(h:xX B w tb)(e:w'.heap=w.heap):xX B w' tb:=by
 obtain⟨sl,zs,n,h1,h2,h3,h4⟩:=h;exact⟨sl,zs,n,by rw[e];exact h1,h2.of_heap e,h3,h4⟩
theorem tape_step {B:Nat}{w:World}{tb:Nat}{sl:Value}{zs:List Int}{n:Nat}(h1:w.heap[tb]?=some (.cells #[sl,.int .i64 n] 82 (0,0)))(h2:Row B w sl (zs.map (Value.int .i64)))(h3:B<=tb)(h4:n<zs.length):
  xX B (w.setCell ⟨tb,1,none⟩ (.int .i64 ((n:Int)+1))) tb :=
 ⟨sl,zs,n+1,heap_setCell_same w tb 1 _ _ _ h1,h2.kept (zC w ⟨tb,1,none⟩ _) (by simp;omega),h3,h4⟩
def Dealt (B tb:Nat)(w:World)(n:Int)(e:Ending)(w':World):Prop :=
 ∃ r:Int,e=.returned (.int .i64 r)/\0<=r/\(1<=n->r<n)/\xX B w' tb/\w.grownBy w' (some tb)
theorem sR (B tb:Nat)(w:World)(n:Int)(hn:n<=9223372036854775807)(hT:xX B w tb):
  Calls Try.prog 15 #[.pointer (some ⟨tb,0,none⟩),.int .i64 n] w (Dealt B tb w n):=by
 have HT:=Kh hT;obtain⟨sl,zs,at_,h0,h1,hB,h3⟩:=hT;have c0:w.cell? ⟨tb,0,none⟩=some sl:=by rw[cell_of_row w tb 0 _ _ _ h0];rfl
 have c1:w.cell? ⟨tb,1,none⟩=some (.int .i64 at_):=by rw[cell_of_row w tb 1 _ _ _ h0];rfl
 have f1:w.frozen? ⟨tb,1,none⟩=false:=frozen_of_row w tb 1 _ _ h0;rcases h1 with ⟨sa,sc,rfl,hz⟩|⟨b,off,cap,rfl,hbB,hlc,hcm,hra⟩
 ·have HR:=Kh hz;have:zs=[]:=by simpa using hz
  subst this;have:at_=0:=by simpa using h3
  subst this;clear h0 hz;go_enter Try.func15,Try.ntmps15;go_wp2
  go_quiet (fail)
  go_wp2;go_ret;exact⟨0,rfl,by omega,by omega,HT.out.kept (zN _ _ none) (by simp),zN _ _ _⟩
 ·rw[List.length_map]at hlc c0
  by_cases hlt:at_<zs.length
  ·have hc:=hra.2 at_ (by simpa using hlt)
   have h4:b≠tb:=(by omega);have h2:zs.length<=9223372036854775807:=by unfold maxLen at hcm;omega
   simp only[List.getElem_map]at hc;have HB:=Kh h0;have HR:=Kh hra;clear h0 hra;go_enter Try.func15,Try.ntmps15;go_wp2
   go_quiet (fail)
   go_wp2;have e1:IntKind.i64.wrap (at_:Int)=at_:=IntWalk.i64_in _ (by omega);have e2:(at_:Int)<zs.length:=by omega
   go_quiet ((go_at_call 30;first|exact bC (eM _ _ _ hn)|exact sQ (eM _ _ _ hn)))
   go_wp2;go_ret;refine⟨modI zs[at_] n,rfl,oJ _ _,aZ _ _,?_,?_⟩
   ·exact xX.of_heap (tape_step HB.out (.inr ⟨b,off,cap,by rw[List.length_map],hbB,by simpa using hlc,hcm,HR.out⟩) hB hlt) rfl
   ·exact vI (zC w ⟨tb,1,none⟩ _) rfl rfl rfl rfl
  ·have h2:zs.length<=9223372036854775807:=by unfold maxLen at hcm;omega
   clear h0 hra;go_enter Try.func15,Try.ntmps15;go_wp2
   go_quiet (fail)
   go_wp2;go_ret;exact⟨0,rfl,by omega,by omega,HT.out.kept (zN _ _ none) (by simp),zN _ _ _⟩
def qHW (B:Nat)(w:World)(e:Ending)(w':World):Prop :=
 e=.returned (.pointer (some ⟨w.heap.size,0,none⟩))/\xX B w' w.heap.size/\w.grownBy w' none
theorem aX {B:Nat}{w:World}{sl:Value}{zs:List Int}(h:Row B w sl (zs.map (Value.int .i64)))(hB:B<=w.heap.size):
  qHW B w (.returned (.pointer (some ⟨w.heap.size,0,none⟩))) (w.alloc (.cells #[sl,.int .i64 0] 82)) :=
 ⟨rfl,⟨sl,zs,0,heap_alloc_new w _,h.kept (Ga w _ none) (by simp),hB,Nat.zero_le _⟩,Ga w _ none⟩
theorem Row.cut {B:Nat}{w:World}{b off cap:Nat}{xs:List Value}(n:Nat)(hn:n<=xs.length)(hb:b<B)(hc:xs.length<=cap)(hm:cap<=maxLen)(h:vW w b off xs):
  Row B w (.slice (some ⟨b,off,none⟩) n cap) (xs.take n) :=
 .inr ⟨b,off,cap,by rw[List.length_take,Nat.min_eq_left hn],hb,by rw[List.length_take];omega,hm,h.1,fun i hi=>by
  rw[List.length_take]at hi
  rw[h.2 i (by omega),List.getElem_take]⟩
theorem new_any (B:Nat)(w:World)(sl:Value)(zs:List Int)(h:Row B w sl (zs.map (Value.int .i64)))(hB:B<=w.heap.size):
  Calls Try.prog 14 #[sl] w (qHW B w):=by
 have HH:=Kh h;rcases h with ⟨sa,sc,rfl,hz⟩|⟨b,off,cap,rfl,hbB,hlc,hcm,hra⟩
 ·have HZ:=Kh hz;clear hz
  go_enter Try.func14,Try.ntmps14;go_wp2;go_ret;exact aX HH.out hB
 ·rw[List.length_map]at *
  have h0:cap<=9223372036854775807:=by unfold maxLen at hcm;omega
  by_cases h80:80<zs.length
  ·go_enter Try.func14,Try.ntmps14
   go_wp2;go_ret;refine aX (zs:=zs.take 80) ?_ hB;rw[List.map_take];exact Row.cut 80 (by simp;omega) hbB (by simpa using hlc) hcm hra
  ·go_enter Try.func14,Try.ntmps14
   go_wp2;go_ret;exact aX HH.out hB
theorem qAI:ElemOk Try.prog 106 5 (.int .u8 0) 1:=⟨Try.underlying106,by kernel_rfl,rfl⟩
def eD (letters:Int)(n:Int):Prop:=97<=n/\n<97+letters
def Worded (B tb:Nat)(w:World)(letters most:Int)(e:Ending)(w':World):Prop :=
 ∃ l:List Int,e=.returned (.string (strOfNums l))/\(l.length:Int)<=most/\(∀ n∈l,eD letters n)/\xX B w' tb/\w.grownBy w' (some tb)
theorem aH (B tb:Nat)(w:World)(letters most:Int)(h1:1<=letters)(h6:letters<=6)(h0:0<=most)(hm:most<=1000)(hT:xX B w tb):
  Calls Try.prog 27 #[.pointer (some ⟨tb,0,none⟩),.int .i64 letters,.int .i64 most] w (Worded B tb w letters most):=by
 have H8:=hT.lt;go_enter Try.func27,Try.ntmps27;go_wp2_with fail;refine(sR B tb _ _ (by omega) hT).mono ?_;rintro e w1 ⟨r,rfl,H3,H2,H7,H6⟩;replace H2:=H2 (by omega);go_wp2
 go_loopw [7,8] (fun v i wr=>∃ (sa:Option Addr) (sc:Nat) (l:List Int) (r:Int),v=.slice sa l.length sc/\i=.int .i64 r/\0<=r/\(l.length:Int)+r<=most/\wr.ownsRow w.heap.size 5 1 (.slice sa l.length sc) l.length (l.map (Value.int .u8))/\(∀ n∈l,eD letters n)/\xX B wr tb/\w.grownBy wr (some tb))
  (fun _ i _=>(intOf i).toNat)
 case atStart=>exact⟨none,0,[],r,rfl,rfl,H3,by simp;omega,World.ownsRow_nil _ _ _ _,by simp,H7,H6⟩
 case round =>
  clear H7 H6;obtain⟨sa,sc,l,r,rfl,rfl,H3,a5,h4,H4,h9,h7⟩:=hrel;have a4:=h7.size;by_cases hp:0<r
  ·go_wp2_with fail
   refine(sR B tb _ _ (by omega) h9).mono ?_;rintro e w2 ⟨x,rfl,a3,H0,a2,h8⟩;replace H0:=H0 (by omega);have h2:=yM h4 h8 (by simpa using H8);have H9:=h8.size;go_wp2_with (at_builtin;refine app1 rfl _ _ _ rfl qAI w.heap.size _ l.length (l.map (Value.int .u8)) rfl h2 _ rfl rfl ?c1 ?c2 ?c3 ?_)
   case c1=>unfold maxLen;omega
   case c2=>omega
   case c3=>omega
   intro sa' sc' w3 h3 H5 a1;have h5:(l++[97+x]).length=l.length+1:=by simp
   have hb:=fun k (e:(Value.slice sa l.length sc).ownBlock=some k)=>(h2.lt k e).1;go_wp2;go_roundw
   case rel =>
    refine⟨sa',sc',l++[97+x],r - 1,by rw[h5],by go_num,by omega,by omega,?_,?_,a2.kept H5 ?_,?_⟩
    ·rw[h5,List.map_append];exact h3
    ·intro n hn
     rcases List.mem_append.1 hn with hn|hn
     ·exact H4 n hn
     ·simp at hn;subst hn;exact⟨by omega,by omega⟩
    ·intro k e;have:=hb k e;have:=h9.ge;omega
    ·exact xF (zD h7 h8) H5 (.inr (.inl rfl)) (by
      rcases hv:(Value.slice sa l.length sc).ownBlock with _|k
      ·exact .inl rfl
      ·exact .inr (.inr ⟨k,rfl,hb k hv⟩))
   case measure=>simp[intOf];omega
  ·have H1:=fun dst hd=>rR (P:=Try.prog) 106 5 Try.underlying106 Try.underlying5 dst hd h4
   have a0:=H1 9 Try.underlying9;clear H1;go_wp2;go_ret;exact⟨l,rfl,by omega,H4,h9,h7⟩
def lex (letters:Nat):Nat->List (List Int)
 | 0=>[[]]
 | n+1=>(lex letters n).flatMap fun w=>(List.range letters).map fun(c:Nat)=>w++[97+(c:Int)]
def block (letters:Nat)(w:List Int)(c:Nat):List (List Int):=(List.range' c (letters - c)).map fun(c:Nat)=>w++[97+(c:Int)]
theorem qAD (letters n:Nat):lex letters (n+1)=(lex letters n).flatMap fun w=>block letters w 0:=by
 simp[lex,block,List.range_eq_range']
theorem qF {letters:Nat}:∀ {n:Nat} {w:List Int},w∈lex letters n->w.length=n/\∀ x∈w,eD letters x
 | 0,w,h=>by simp[lex]at h;subst h;simp
 | n+1,w,h=>by
  simp only[lex,List.mem_flatMap,List.mem_map,List.mem_range]at h
  obtain⟨v,hv,c,hc,rfl⟩:=h
  obtain⟨h1,h2⟩:=qF hv
  refine⟨by simp[h1],fun x hx=>?_⟩
  rcases List.mem_append.1 hx with hx|hx
  ·exact h2 x hx
  ·simp at hx;subst hx;unfold eD;omega
theorem uN (letters:Nat):∀ n,(lex letters n).length=letters ^ n
 | 0=>rfl
 | n+1=>by
  rw[qAD,List.length_flatMap]
  have:(lex letters n).map (fun w=>(block letters w 0).length)=List.replicate (letters ^ n) letters:=by
   rw[<- uN letters n,<- List.map_const'];refine List.map_congr_left fun w _=>?_;simp[block]
  rw[this,List.sum_replicate_nat,Nat.pow_succ]
theorem Arr.setCells {g:Nat}{e:TypeId}:∀ (vs:List Value) (o:Nat) {w:World} {xs:List Value},Arr w g e xs->o+vs.length<=xs.length->Arr (w.setCells g o vs) g e (xs.take o++vs++xs.drop (o+vs.length))
 | [],o,w,xs,h,_=>by simpa [World.setCells] using h
 | v::r,o,w,xs,h,hl=>by
  rw[List.length_cons]at hl
  have:=Arr.setCells r (o+1) (h.set o (by omega) v) (by rw[List.length_set];omega)
  rw[World.setCells]
  have e1:(xs.set o v).take (o+1)=xs.take o++[v]:=by
   rw[List.take_succ_eq_append_getElem (by rw[List.length_set];omega),List.take_set_of_le (by omega)];simp
  rw[e1,List.drop_set_of_lt (by omega)]at this;rw[List.length_cons,show o+(r.length+1)=o+1+r.length by omega];simpa using this
def RowT (B:Nat)(e:TypeId)(w:World)(v:Value)(xs:List Value):Prop :=
 (v=.slice none 0 0/\xs=[])\/∃ b off cap cur m,v=.slice (some ⟨b,off,none⟩) xs.length cap/\b<B/\xs.length<=cap/\cap<=maxLen/\w.heap[b]?=some (.cells cur e m)/\∀ i (h:i<xs.length),cur[off+i]?=some xs[i]
theorem RowT.row {B:Nat}{e:TypeId}{w:World}{v:Value}{xs:List Value}(h:RowT B e w v xs):Row B w v xs:=by
 rcases h with h|⟨b,off,cap,cur,m,h1,h2,h3,h4,h5,h6⟩
 ·exact .inl ⟨_,_,h⟩
 ·exact .inr ⟨b,off,cap,h1,h2,h3,h4,zI h5,fun i hi=>by rw[cell_of_row w b (off+i) _ _ _ h5];exact h6 i hi⟩
theorem RowT.mono {B B':Nat}{e:TypeId}{w:World}{v:Value}{xs:List Value}(h:RowT B e w v xs)(hB:B<=B'):RowT B' e w v xs:=by
 rcases h with h|⟨b,off,cap,cur,m,h1,h2,h3⟩
 ·exact .inl h
 ·exact .inr ⟨b,off,cap,cur,m,h1,by omega,h3⟩
def yF (w:World)(e:TypeId)(k:Nat):Prop:=∃ cur e' m,w.heap[k]?=some (.cells cur e' m)/\e'≠e
theorem RowT.kept {B:Nat}{e:TypeId}{w w':World}{v:Value}{xs:List Value}{row:Option Nat}(h:RowT B e w v xs)(hg:w.grownBy w' row)(hr:∀ k,row=some k->B<=k\/yF w e k):RowT B e w' v xs:=by
 rcases h with h|⟨b,off,cap,cur,m,h1,h2,h3,h4,h5,h6⟩
 ·exact .inl h
 ·refine .inr ⟨b,off,cap,cur,m,h1,h2,h3,h4,zA h5 hg (fun eq=>?_),h6⟩
  rcases hr b eq with hk|⟨cur',e',m',hk,hne⟩
  ·omega
  ·rw[h5]at hk;simp at hk;exact hne hk.2.1.symm
theorem RowT.of_heap {B:Nat}{e:TypeId}{w w':World}{v:Value}{xs:List Value}(h:RowT B e w v xs)(he:w'.heap=w.heap):RowT B e w' v xs:=by
 rcases h with h|⟨b,off,cap,cur,m,h1,h2,h3,h4,h5,h6⟩
 ·exact .inl h
 ·exact .inr ⟨b,off,cap,cur,m,h1,h2,h3,h4,by rw[he];exact h5,h6⟩
theorem RowT.of_owns {w:World}{base e:Nat}{v:Value}{n:Nat}{xs:List Value}(h:w.ownsRow base e 1 v n xs):RowT w.heap.size e w v xs:=by
 have hl:xs.length=n:=by have:=h.1;omega
 rcases h.2 with ⟨rfl,rfl⟩|⟨g,cap,cur,rfl,hb,hg,hnc,hcm,hcs,htake⟩
 ·exact .inl ⟨rfl,List.eq_nil_of_length_eq_zero hl⟩
 ·refine .inr ⟨g,0,cap,cur,(0,0),by rw[hl],zI hg,by omega,hcm,hg,fun i hi=>?_⟩
  have:=h.cellAt i (by omega);rw[cell_of_row w g i _ _ _ hg]at this;rw[Nat.zero_add,this,List.getElem?_eq_getElem hi]
theorem yU {w:World}{base e e' size:Nat}{v:Value}{n:Nat}{xs:List Value}(h:w.ownsRow base e size v n xs)(hne:e≠e'):∀ k,v.ownBlock=some k->yF w e' k:=by
 intro k hk;rcases h.2 with ⟨rfl,_⟩|⟨g,cap,cur,rfl,_,hg,_⟩
 ·simp[Value.ownBlock]at hk
 ·simp[Value.ownBlock]at hk
  subst hk;exact⟨cur,e,(0,0),hg,hne⟩
def xY {α:Type}(B:Nat)(e:TypeId)(f:α->List Value)(w:World)(svs:List Value)(ps:List α):Prop :=
 svs.length=ps.length/\∀ i (h:i<svs.length) (h':i<ps.length),RowT B e w svs[i] (f ps[i])
section
variable {α:Type} {B:Nat} {e:TypeId} {f:α->List Value} {w:World} {svs:List Value} {ps:List α}
theorem xY.nil:xY B e f w [] []:=⟨rfl,fun i h=>by simp at h⟩
theorem xY.kept {w':World}{row:Option Nat}(h:xY B e f w svs ps)(hg:w.grownBy w' row)(hr:∀ k,row=some k->B<=k\/yF w e k):xY B e f w' svs ps :=
 ⟨h.1,fun i h1 h2=>(h.2 i h1 h2).kept hg hr⟩
theorem xY.mono {B':Nat}(h:xY B e f w svs ps)(hB:B<=B'):xY B' e f w svs ps:=⟨h.1,fun i h1 h2=>(h.2 i h1 h2).mono hB⟩
theorem xY.snoc {sv:Value}{p:α}(h:xY B e f w svs ps)(hs:RowT B e w sv (f p)):xY B e f w (svs++[sv]) (ps++[p]):=by
 refine⟨by simp[h.1],fun i h1 h2=>?_⟩;by_cases hi:i<svs.length
 ·rw[List.getElem_append_left hi,List.getElem_append_left (by rw[<- h.1];exact hi)]
  exact h.2 i hi _
 ·have:i=svs.length:=by simp at h1;omega
  subst this;rw[List.getElem_append_right (Nat.le_refl _),List.getElem_append_right (by rw[h.1];exact Nat.le_refl _)];simpa [h.1] using hs
end
theorem lB:ElemOk Try.prog 26 9 (.string ⟨#[]⟩) 16:=⟨Try.underlying26,by kernel_rfl,rfl⟩
def qCT (letters:Int)(inner:Bool)(l:List Int):Prop:=l.length<=2/\(∀ n∈l,eD letters n)/\(inner=true->l≠[])
def tK (letters:Int)(bs:List (List Int)):Prop:=bs.length<=4/\bs≠[]/\∀ i (h:i<bs.length),qCT letters (decide (0<i/\i+1<bs.length)) bs[i]
def nU (letters:Int)(r:Int)(bs:List (List Int)):Prop:=bs≠[]/\∀ i (h:i<bs.length),qCT letters (decide (0<i/\((i:Int)+1<bs.length+r))) bs[i]
def strs (bs:List (List Int)):List Value:=bs.map fun l=>.string (strOfNums l)
theorem goodSoFar_one (letters r:Int)(l:List Int)(hl:l.length<=2)(h:∀ n∈l,eD letters n):nU letters r [l]:=by
 refine⟨by simp,fun i hi=>?_⟩;have:i=0:=by simpa using hi
 subst this;exact⟨hl,h,by simp⟩
theorem pL {letters r:Int}{bs:List (List Int)}{l:List Int}(h:nU letters r bs)(hr:0<r)(hl:l.length<=2)(hok:∀ n∈l,eD letters n)(hne:1<r->l≠[]):nU letters (r - 1) (bs++[l]):=by
 refine⟨by simp,fun i hi=>?_⟩;rw[List.length_append,List.length_singleton]at hi;have e1:((bs++[l]).length:Int)+(r - 1)=bs.length+r:=by simp;omega
 rw[e1];by_cases hb:i<bs.length
 ·rw[List.getElem_append_left hb];exact h.2 i hb
 ·have:i=bs.length:=by omega
  subst this;rw[List.getElem_append_right (by omega)];simp only[Nat.sub_self,List.getElem_cons_zero];exact⟨hl,hok,fun hin=>hne (by simp at hin;omega)⟩
theorem goodSoFar_done {letters r:Int}{bs:List (List Int)}(hr:r=0)(hl:bs.length<=4)(h:nU letters r bs):tK letters bs:=by
 refine⟨hl,h.1,fun i hi=>?_⟩;have:=h.2 i hi
 rwa [show decide (0<i/\(i:Int)+1<bs.length+r)=decide (0<i/\i+1<bs.length) from decide_eq_decide.2 (by subst hr;omega)]at this
def PatternedT (B tb:Nat)(w:World)(letters:Int)(e:Ending)(w':World):Prop :=
 ∃ (v:Value) (bs:List (List Int)),e=.returned (.agg #[v])/\RowT w'.heap.size 9 w' v (strs bs)/\tK letters bs/\xX B w' tb/\w.grownBy w' (some tb)
theorem pattern_anyT (B tb:Nat)(w:World)(letters:Int)(h1:1<=letters)(h6:letters<=6)(hT:xX B w tb):
  Calls Try.prog 67 #[.pointer (some ⟨tb,0,none⟩),.int .i64 letters] w (PatternedT B tb w letters):=by
 have b6:=hT.lt;have c4:=hT.ge;go_enter Try.func67,Try.ntmps67;go_wp2_with fail;have b5:=hT.kept (Ga w (.cells #[.slice none 0 0] 28) none) (by simp);refine(aH B tb _ letters 2 h1 h6 (by omega) (by omega) b5).mono ?_;rintro e w1 ⟨l0,rfl,H0,a0,b3,a1⟩;have b1:=a1.size;simp only[zO]at b1;have e4:w1.heap[w.heap.size]?=some (.cells #[.slice none 0 0] 28 (0,0)):=zA (heap_alloc_new w _) a1 (by simp;omega);go_wp2_with fail;refine(sR B tb _ 4 (by omega) ((b3.kept (Ga _ _ none) (by simp)).kept (Ga _ _ none) (by simp))).mono ?_;rintro e w2 ⟨r0,rfl,a5,a4,a8,H3⟩;replace a4:=a4 (by omega);have b0:=H3.size;simp only[zO]at b0
 have b4:w2.heap[w.heap.size]?=some (.cells #[.slice none 0 0] 28 (0,0)) :=
  zA (zA (zA e4 (Ga _ _ none) (by simp)) (Ga _ _ none) (by simp)) H3 (by simp;omega)
 have bp:w2.heap[w1.heap.size+1]?=some (.cells #[.slice (some ⟨w1.heap.size,0,none⟩) 1 1] 28 (0,0)) :=
  zA (by simpa using heap_alloc_new (w1.alloc (.cells #[.string (strOfNums l0)] 9)) (.cells #[.slice (some ⟨w1.heap.size,0,none⟩) 1 1] 28)) H3 (by simp;omega)
 have ho:w2.ownsRow w1.heap.size 9 1 (.slice (some ⟨w1.heap.size,0,none⟩) 1 1) 1 (strs [l0]) :=
  yM ((World.ownsRow_lit w1 #[.string (strOfNums l0)] 1 (Nat.le_refl _) (by unfold maxLen;omega) (by simp)).alloc _) H3 (by simp;omega)
 have a7:w.grownBy w2 (some tb):=zD (xR (xR (zD (Ga _ _ _) a1) _) _) H3;have E4:=Kh e4;have B4:=Kh b4;have BP:=Kh bp;clear e4 b4 bp;go_wp2
 go_loopw [6] (fun i wr=>∃ (sa:Option Addr) (sc:Nat) (bs:List (List Int)) (r:Int),i=.int .i64 r/\0<=r/\(bs.length:Int)+r<=4/\nU letters r bs /\
   wr.heap[w.heap.size]?=some (.cells #[.slice none 0 0] 28 (0,0))/\wr.heap[w1.heap.size+1]?=some (.cells #[.slice sa bs.length sc] 28 (0,0)) /\
   wr.ownsRow w1.heap.size 9 1 (.slice sa bs.length sc) bs.length (strs bs)/\xX B wr tb/\w.grownBy wr (some tb))
  (fun i _=>(intOf i).toNat)
 case atStart=>exact⟨some ⟨w1.heap.size,0,none⟩,1,[l0],r0,rfl,a5,by simp;omega,goodSoFar_one letters r0 l0 (by omega) a0,B4.out,BP.out,ho,a8,a7⟩
 case round =>
  clear ho a7 a8 H3;obtain⟨sa,sc,bs,r,rfl,a5,c0,h5,b4,bp,h9,a3,H8⟩:=hrel;have b9:=zI bp;have H4:=zJ bp 0 (by simp);have H9:=zE bp 0;have a2:=zJ b4 0 (by simp);have b2:=zE b4 0;simp only[List.getElem_toArray,List.getElem_cons_zero]at H4 a2;have B4:=Kh b4;have BP:=Kh bp;clear b4 bp;have b7:=H8.size;by_cases hp:0<r
  ·go_wp2_with fail
   refine(aH B tb _ letters 2 h1 h6 (by omega) (by omega) a3).mono ?_;rintro e w3 ⟨l,rfl,hl,a6,H5,H2⟩;have b8:=H2.size;have B4':=Kh (zA B4.out H2 (by simp;omega));have BP':=Kh (zA BP.out H2 (by simp;omega));have H4:=zJ BP'.out 0 (by simp);have H9:=zE BP'.out 0;simp only[List.getElem_toArray,List.getElem_cons_zero]at H4;have h0:=yM h9 H2 (by simp;omega);have h7:=zD H8 H2;clear h9 a3 H8 H2 B4 BP a2 b2;by_cases H0:l=[]
   ·have hE:(strOfNums l).toList.isEmpty=true:=by rw[ByteArray.toList_eq,H0];rfl
    have HL:=Kh H0;clear H0;by_cases h1r:1<r
    ·go_wp2_with (at_builtin;refine app1 rfl _ _ _ rfl lB w1.heap.size _ bs.length (strs bs) rfl h0 _ rfl rfl ?c1 ?c2 ?c3 ?_)
     case c1=>unfold maxLen;omega
     case c2=>omega
     case c3=>omega
     intro sa' sc' w4 h2 h3 H6;have hb:=fun k (e:(Value.slice sa bs.length sc).ownBlock=some k)=>(h0.lt k e).1;have H1:=H5.kept h3 (fun k e=>by have:=hb k e;omega);have h4:=zB h7 h3 (fun k e=>by have:=hb k e;omega);have B5:=Kh (zA B4'.out h3 (fun e=>by have:=hb _ e;omega));have BP5:=Kh (zA BP'.out h3 (zS h0 BP'.out (by decide)));have h8:=zJ BP5.out 0 (by simp);have H7:=zE BP5.out 0;simp only[List.getElem_toArray,List.getElem_cons_zero]at h8;clear h0 H5 h7 h3 B4' BP' hb H4 H9;go_wp2;go_roundw
     case rel =>
      refine⟨sa',sc',bs++[[97]],r - 1,by go_num,by omega,by simp;omega,pL h5 hp (by simp) (fun n hn=>by simp at hn;subst hn;exact⟨by omega,by omega⟩) (fun _=>by simp),?_,?_,?_,H1.kept (zC _ _ _) (by simp;omega),zB h4 (zC _ _ _) (by simp;omega)⟩
      ·exact zA B5.out (zC _ _ _) (by simp;omega)
      ·exact by rw[List.length_append];exact heap_setCell_same _ _ 0 _ _ _ BP5.out
      ·rw[List.length_append]
       have hk:=h2.kept (zC w4 ⟨w1.heap.size+1,0,none⟩ (.slice sa' (bs.length+1) sc')) (.inr (zS h2 BP5.out (by decide)));simpa [strs,strOfNums] using hk
     case measure=>simp[intOf];omega
    ·go_wp2_with (at_builtin;refine app1 rfl _ _ _ rfl lB w1.heap.size _ bs.length (strs bs) rfl h0 _ rfl rfl ?c1 ?c2 ?c3 ?_)
     case c1=>unfold maxLen;omega
     case c2=>omega
     case c3=>omega
     intro sa' sc' w4 h2 h3 H6;have hb:=fun k (e:(Value.slice sa bs.length sc).ownBlock=some k)=>(h0.lt k e).1;have H1:=H5.kept h3 (fun k e=>by have:=hb k e;omega);have h4:=zB h7 h3 (fun k e=>by have:=hb k e;omega);have B5:=Kh (zA B4'.out h3 (fun e=>by have:=hb _ e;omega));have BP5:=Kh (zA BP'.out h3 (zS h0 BP'.out (by decide)));have h8:=zJ BP5.out 0 (by simp);have H7:=zE BP5.out 0;simp only[List.getElem_toArray,List.getElem_cons_zero]at h8;clear h0 H5 h7 h3 B4' BP' hb H4 H9;go_wp2;go_roundw
     case rel =>
      refine⟨sa',sc',bs++[l],r - 1,by go_num,by omega,by simp;omega,pL h5 hp (by omega) a6 (fun h=>by omega),?_,?_,?_,H1.kept (zC _ _ _) (by simp;omega),zB h4 (zC _ _ _) (by simp;omega)⟩
      ·exact zA B5.out (zC _ _ _) (by simp;omega)
      ·exact by rw[List.length_append];exact heap_setCell_same _ _ 0 _ _ _ BP5.out
      ·rw[List.length_append]
       have hk:=h2.kept (zC w4 ⟨w1.heap.size+1,0,none⟩ (.slice sa' (bs.length+1) sc')) (.inr (zS h2 BP5.out (by decide)));simpa [strs] using hk
     case measure=>simp[intOf];omega
   ·have hE:(strOfNums l).toList.isEmpty=false:=by
     rw[ByteArray.toList_eq,strOfNums_data,List.isEmpty_eq_false_iff];simpa using H0
    have HL:=Kh H0;clear H0;by_cases h1r:1<r
    all_goals
     go_wp2_with (at_builtin;refine app1 rfl _ _ _ rfl lB w1.heap.size _ bs.length (strs bs) rfl h0 _ rfl rfl ?c1 ?c2 ?c3 ?_)
     case c1=>unfold maxLen;omega
     case c2=>omega
     case c3=>omega
     intro sa' sc' w4 h2 h3 H6;have hb:=fun k (e:(Value.slice sa bs.length sc).ownBlock=some k)=>(h0.lt k e).1;have H1:=H5.kept h3 (fun k e=>by have:=hb k e;omega);have h4:=zB h7 h3 (fun k e=>by have:=hb k e;omega);have B5:=Kh (zA B4'.out h3 (fun e=>by have:=hb _ e;omega));have BP5:=Kh (zA BP'.out h3 (zS h0 BP'.out (by decide)));have h8:=zJ BP5.out 0 (by simp);have H7:=zE BP5.out 0;simp only[List.getElem_toArray,List.getElem_cons_zero]at h8;clear h0 H5 h7 h3 B4' BP' hb H4 H9;go_wp2;go_roundw
     case rel =>
      refine⟨sa',sc',bs++[l],r - 1,by go_num,by omega,by simp;omega,pL h5 hp (by omega) a6 (fun _=>HL.out),?_,?_,?_,H1.kept (zC _ _ _) (by simp;omega),zB h4 (zC _ _ _) (by simp;omega)⟩
      ·exact zA B5.out (zC _ _ _) (by simp;omega)
      ·exact by rw[List.length_append];exact heap_setCell_same _ _ 0 _ _ _ BP5.out
      ·rw[List.length_append]
       have hk:=h2.kept (zC w4 ⟨w1.heap.size+1,0,none⟩ (.slice sa' (bs.length+1) sc')) (.inr (zS h2 BP5.out (by decide)));simpa [strs] using hk
     case measure=>simp[intOf];omega
  ·have h3:wr.grownBy (wr.setCell ⟨w.heap.size,0,none⟩ (.slice sa bs.length sc)) (some w.heap.size):=zC _ _ _
   have h2:=h9.kept h3 (.inr (zS h9 B4.out (by decide)));have h4:=zB H8 h3 (by simp);have H1:=a3.kept h3 (by simp;omega);have a9:=h3.size;go_wp2;refine bodyPost_ret (v:=.agg #[.slice sa bs.length sc]) (by simp[results,Try.results67,go_sem,a2]) rfl ⟨_,bs,rfl,RowT.of_owns h2,goodSoFar_done (by omega) (by omega) h5,H1,h4⟩
theorem allWords_upto (letters k:Nat):(List.range (k+1)).flatMap (lex letters)=(List.range k).flatMap (lex letters)++lex letters k:=by
 rw[List.range_succ,List.flatMap_append];simp
def upTo (letters n:Nat):List (List Int):=(List.range n).flatMap (lex letters)
theorem wF (letters n:Nat):upTo letters (n+1)=upTo letters n++lex letters n:=allWords_upto letters n
theorem lR (letters:Nat)(h:letters<=6):∀ n,n<=9->(upTo letters n).length<=2000000 * n
 | 0,_=>by simp[upTo]
 | n+1,hn=>by
  have h1:=lR letters h n (by omega)
  rw[wF,List.length_append,uN]
  have h2:letters ^ n<=6 ^ n:=Nat.pow_le_pow_left h n
  have h3:6 ^ n<=6 ^ 8:=Nat.pow_le_pow_right (by omega) (by omega)
  have h4:(6:Nat) ^ 8=1679616:=by decide
  omega
theorem lU (a b:List (List Int)):strs (a++b)=strs a++strs b:=by simp[strs]
theorem vT (a:List (List Int)):(strs a).length=a.length:=by simp[strs]
def qHY (w:World)(ls:List (List Int))(e:Ending)(w':World):Prop :=
 ∃ (sa:Option Addr) (sc:Nat),e=.returned (.slice sa ls.length sc)/\RowT w'.heap.size 9 w' (.slice sa ls.length sc) (strs ls)/\w.grownBy w' none
theorem sW:ElemOk Try.prog 22 28 (.agg #[.slice none 0 0]) 24:=⟨Try.underlying22,by kernel_rfl,rfl⟩
def rJ (u:List Int):List (List Int):=[[]]++u.map (fun c=>[c])++[[]]
def oM (u:List Int)(j:Nat):List (List Int):=[[]]++(u.take j).map (fun c=>[c])
theorem extract_one (l:List Int)(j:Nat)(hj:j<l.length):(strOfNums l).extract j (j+1)=strOfNums [l[j]]:=by
 have h:((strOfNums l).extract j (j+1)).data.toList=(strOfNums [l[j]]).data.toList:=by
  rw[ByteArray.data_extract,strOfNums_data,Array.toList_extract,strOfNums_data,List.extract_eq_take_drop];rw[List.drop_eq_getElem_cons (by simpa using hj)];simp
 have h2:=Array.toList_inj.1 h;cases h3:(strOfNums l).extract j (j+1);cases h4:strOfNums [l[j]]
 simp_all
def PatListed (w:World)(ps:List (List (List Int)))(e:Ending)(w':World):Prop :=
 ∃ (sa:Option Addr) (sc:Nat) (svs:List Value),e=.returned (.slice sa ps.length sc)/\RowT w'.heap.size 28 w' (.slice sa ps.length sc) svs/\xY w'.heap.size 9 strs w' svs ps/\w.grownBy w' none
structure PatsUp (base:Nat)(w:World)(v:Value)(n:Nat)(svs:List Value)(ps:List (List (List Int))):Prop where
 own:w.ownsRow base 28 1 v n svs
 rows:xY w.heap.size 9 strs w svs ps
theorem RowT.lit {w w':World}{cs:Array Value}{e:TypeId}{row:Option Nat}{q:Nat}{xs:List Value}(hc:cs.toList=xs)(hq:cs.size=q)(hm:q<=maxLen)(hg:(w.alloc (.cells cs e)).grownBy w' row)(hr:row≠some w.heap.size):RowT w'.heap.size e w' (.slice (some ⟨w.heap.size,0,none⟩) q q) xs:=by
 have hb:=zA (heap_alloc_new w (.cells cs e)) hg hr;have hl:xs.length=q:=by rw[<- hc,<- hq];simp
 refine .inr ⟨w.heap.size,0,q,cs,(0,0),by rw[hl],zI hb,by omega,hm,hb,fun i hi=>?_⟩;rw[Nat.zero_add,<- Array.getElem?_toList,hc,List.getElem?_eq_getElem hi]
theorem PatsUp.push {base n q:Nat}{w w':World}{v v':Value}{svs:List Value}{ps:List (List (List Int))}{us:List (List Int)}{cs:Array Value}(h:PatsUp base w v n svs ps)(hc:cs.toList=strs us)(hq:cs.size=q)(hm:q<=maxLen)(hown:w'.ownsRow base 28 1 v' (n+1) (svs++[.slice (some ⟨w.heap.size,0,none⟩) q q]))(hg:(w.alloc (.cells cs 9)).grownBy w' v.ownBlock):
  PatsUp base w' v' (n+1) (svs++[.slice (some ⟨w.heap.size,0,none⟩) q q]) (ps++[us])/\w.grownBy w' v.ownBlock:=by
 have h4:∀ k,v.ownBlock=some k->k<w.heap.size:=fun k hk=>(h.own.lt k hk).2;have hA:=Ga w (.cells cs 9) none;have h3:=h.own.alloc (.cells cs 9);have h0:=yU h3 (e':=9) (by decide);refine⟨⟨hown,?_⟩,zD (Ga w _ _) hg⟩;have h1:=h.rows.kept hA (by simp);have h2:=(h1.kept hg (fun k e=>.inr (h0 k e))).mono (Nat.le_trans hA.size hg.size);exact h2.snoc (RowT.lit hc hq hm hg (fun e=>by have:=h4 _ e;omega))
theorem PatsUp.nil (base:Nat)(w:World):PatsUp base w (.slice none 0 0) 0 [] []:=⟨World.ownsRow_nil _ _ _ _,xY.nil⟩
theorem PatsUp.kept {base n:Nat}{w w':World}{v:Value}{svs:List Value}{ps:List (List (List Int))}{row:Option Nat}(h:PatsUp base w v n svs ps)(hg:w.grownBy w' row)(hr:∀ k,row=some k->w.heap.size<=k):PatsUp base w' v n svs ps:=by
 refine⟨h.own.kept hg ?_,(h.rows.kept hg (fun k e=>.inl (hr k e))).mono hg.size⟩;rcases hv:v.ownBlock with _|k
 ·exact .inl rfl
 ·exact .inr fun e=>by have:=hr k e.symm;have:=(h.own.lt k hv).2;omega
theorem PatsUp.listed {base n:Nat}{w w0:World}{sa:Option Addr}{sc:Nat}{svs:List Value}{ps:List (List (List Int))}(h:PatsUp base w (.slice sa n sc) n svs ps)(hg:w0.grownBy w none)(hn:ps.length=n):PatListed w0 ps (.returned (.slice sa n sc)) w :=
 ⟨sa,sc,svs,by rw[hn],by rw[hn];exact RowT.of_owns h.own,h.rows,hg⟩
theorem qAY {B b off sc:Nat}{w:World}{ws:List (List Int)}(h:RowT B 9 w (.slice (some ⟨b,off,none⟩) ws.length sc) (strs ws)){i:Nat}(hi:i<ws.length):w.cell? ⟨b,off+i,none⟩=some (.string (strOfNums ws[i])):=by
 rcases h.row with ⟨_,_,h,_⟩|⟨b',off',cap',hv,_,_,_,hra⟩
 ·have h2:ws.length=0:=by injection h
  omega
 ·simp only[Value.slice.injEq,Option.some.injEq,Addr.mk.injEq,and_true]at hv
  obtain⟨⟨rfl,rfl⟩,_⟩:=hv;have:=hra.map i hi;exact this
theorem cH {B:Nat}{w:World}{sa:Option Addr}{sc:Nat}{ws:List (List Int)}(h:RowT B 9 w (.slice sa ws.length sc) (strs ws))(hp:0<ws.length):∃ b off,sa=some ⟨b,off,none⟩/\ws.length<=sc/\sc<=maxLen:=by
 rcases h with ⟨hn,hn2⟩|⟨b,off,cap,cur,m,hv,hb,hc1,hc2,hblk,hcell⟩
 ·have:=congrArg List.length hn2;rw[vT]at this;simp at this;simp[this]at hp
 ·simp only[Value.slice.injEq]at hv
  obtain⟨rfl,_,rfl⟩:=hv;rw[vT]at hc1;exact⟨b,off,rfl,hc1,hc2⟩
def oneB (u:List Int):List (List Int):=[u]
def sufB (u:List Int):List (List Int):=[[],u]
def preB (u:List Int):List (List Int):=[u,[]]
def facB (u:List Int):List (List Int):=[[],u,[]]
theorem aI {letters k:Nat}(h:1<=letters):1<=(upTo letters (k+1)).length:=by
 rw[wF,List.length_append,uN];have:=Nat.one_le_pow k letters (by omega);omega
theorem qDZ {letters k:Nat}(h:1<=letters)(hk:1<=k):2<=(upTo letters (k+1)).length:=by
 obtain⟨k',rfl⟩:∃ k',k=k'+1:=⟨k - 1,by omega⟩;rw[wF,wF,List.length_append,List.length_append,uN,uN];have:=Nat.one_le_pow k' letters (by omega);have:=Nat.one_le_pow (k'+1) letters (by omega);omega
theorem upTo_len8 {letters n:Nat}(hn:n<=9){u:List Int}(hu:u∈upTo letters n):u.length<=8:=by
 simp only[upTo,List.mem_flatMap,List.mem_range]at hu;obtain⟨m,hm,hu⟩:=hu;rw[(qF hu).1];omega
theorem run_append_of_nil {P:Program}{w:World}(base:Nat)(t ty e:TypeId)(i:TypeInfo)(size:Nat)(ht:P.underlying t=some (.slice e))(hi:P.info? e=some i)(v:Value)(n:Nat)(xs:List Value)(hown:w.ownsRow base e size v n xs)(c:Nat):(Builtin.append_ #[t,t] ty #[v,.slice none 0 c]).run P w=.ok v w:=by
 rcases hown.2 with ⟨rfl,rfl⟩|⟨g,cap,cur,rfl,_,_,hnc,_⟩
 ·simp[Builtin.append_,run_underlying ht,sizeOf,typeInfo,hi,Builtin.lenOf,Builtin.firstCells]
 ·simp[Builtin.append_,run_underlying ht,sizeOf,typeInfo,hi,Builtin.lenOf,Builtin.firstCells,hnc,storeCells]
theorem qV {w:World}{base e size n:Nat}{v:Value}{xs:List Value}(h:w.ownsRow base e size v n xs):∃ sa sc,v=.slice sa n sc:=by
 rcases h.2 with ⟨rfl,rfl⟩|⟨g,cap,cur,rfl,_⟩
 ·exact⟨none,0,rfl⟩
 ·exact⟨_,_,rfl⟩
theorem wp_appR {P:Program}{w:World}{o:Oper}{a:Act}{K:Act->World->Prop}{Q:Exit->Act->World->Prop}(s x:Operand)(t:TypeId)(ho:o.op=.call { callee:=.builtin .append,args:=#[s,x],argTypes:=#[t,t] }){e:TypeId}{z:Value}{bytes:Nat}(E:ElemOk P t e z bytes)(base:Nat)(v:Value)(n:Nat)(xs:List Value)(hs:a.eval s=v)(hown:w.ownsRow base e 1 v n xs)(sv:Value)(news:List Value)(hx:a.eval x=sv)(hrow:∃ B,Row B w sv news)(h1:∀ u∈news,u.oneCell'=true)(N:Nat)(hN:n+news.length=N)(h63:N<=maxLen)(hbytes:N * bytes<=140737488355328)(hbase:base<=w.heap.size)(h:∀ sa sc w',w'.ownsRow base e 1 (.slice sa N sc) N (xs++news)->w.grownBy w' v.ownBlock->K (a.put o.dst (.slice sa N sc)) w'):o.wp P a w K Q:=by
 obtain⟨i,hi,hz,h4,h6⟩:=info_parts E.hi;subst hN
 have fin:∀ v' w',w'.ownsRow base e 1 v' (n+news.length) (xs++news)->w.grownBy w' v.ownBlock->K (a.put o.dst v') w':=by
  intro v' w' h1 h2;obtain⟨sa,sc,rfl⟩:=qV h1;exact h sa sc w' h1 h2
 obtain⟨B,hrow⟩:=hrow;rcases hrow with ⟨a',cap,rfl,rfl⟩|⟨b,off,cap,rfl,_,h2,h3,hra⟩
 ·cases a' with
  | none =>
   have hr:=run_append_of_nil (P:=P) (w:=w) base t o.type e i 1 E.ht hi v n xs hown cap;unfold Oper.wp execOp;simp only[ho,resolve,invoke,builtin,Sem.run_bind,Sem.run_pure,Result.andThen_ok,List.map_toArray,List.map_cons,List.map_nil,hs,hx,hr];exact fin v w (by simpa using hown) (World.grownBy.refl w _)
  | some ad =>
   refine wp_append_own w s x t ho base e i z 1 bytes E.ht hi hz h4 h6 E.hz (by decide) v n xs hs hown ad 0 cap [] hx rfl (fun j u hj=>by simp at hj) (fun u hu=>by simp at hu) h63 hbytes hbase ?_;intro v' w' h1 h2 _;exact fin v' w' h1 h2
 ·refine wp_append_own w s x t ho base e i z 1 bytes E.ht hi hz h4 h6 E.hz (by decide) v n xs hs hown ⟨b,off,none⟩ news.length cap news hx (by simp) (fun j u' hj=>?_) h1 h63 hbytes hbase ?_
  ·have h5:j<news.length:=by
    rcases Nat.lt_or_ge j news.length with h|h
    ·exact h
    ·rw[List.getElem?_eq_none h]at hj;cases hj
   have h0:(⟨b,off,none⟩:Addr).add j=⟨b,off+j,none⟩:=by unfold Addr.add;split<;>simp_all
   rw[List.getElem?_eq_getElem h5]at hj;rw[h0,hra.2 j h5,hj]
  ·intro v' w' h1 h2 _
   exact fin v' w' h1 h2
theorem appR {P:Program}{w:World}{ops:Array Oper}{rest:List Oper}{o:Oper}{a:Act}{Q:Exit->Act->World->Prop}(hgd:o.guard=none)(s x:Operand)(t:TypeId)(ho:o.op=.call { callee:=.builtin .append,args:=#[s,x],argTypes:=#[t,t] }){e:TypeId}{z:Value}{bytes:Nat}(E:ElemOk P t e z bytes)(base:Nat)(v:Value)(n:Nat)(xs:List Value)(hs:a.eval s=v)(hown:w.ownsRow base e 1 v n xs)(sv:Value)(news:List Value)(hx:a.eval x=sv)(hrow:∃ B,Row B w sv news)(h1:∀ u∈news,u.oneCell'=true)(N:Nat)(hN:n+news.length=N)(h63:N<=maxLen)(hbytes:N * bytes<=140737488355328)(hbase:base<=w.heap.size)(h:∀ sa sc w',w'.ownsRow base e 1 (.slice sa N sc) N (xs++news)->w.grownBy w' v.ownBlock->wpList P ops Q rest (a.put o.dst (.slice sa N sc)) w'):wpList P ops Q (o::rest) a w :=
 wpList_plain hgd fun _ hK=>wp_appR s x t ho E base v n xs hs hown sv news hx hrow h1 N hN h63 hbytes hbase fun sa sc w' h2 h3=>hK _ _ (h sa sc w' h2 h3)
theorem qBR {W:World}{e base g:Nat}(h:W.heap[g]?=some (.cells #[] e (0,0)))(hb:base<=g):W.ownsRow base e 1 (.slice (some ⟨g,0,none⟩) 0 0) 0 [] :=
 ⟨by simp,.inr ⟨g,0,#[],rfl,hb,h,Nat.le_refl _,Nat.zero_le _,by simp,by simp⟩⟩
theorem sO (w:World)(o o':Obj):((w.alloc o).alloc o').heap[w.heap.size]?=some o:=zA (heap_alloc_new w o) (Ga _ _ none) (by simp)
theorem sL (w:World)(o o':Obj):((w.alloc o).alloc o').heap[w.heap.size+1]?=some o':=by
 have:=heap_alloc_new (w.alloc o) o'
 rwa [zO]at this
theorem vW.take {w:World}{b off:Nat}{xs:List Value}(h:vW w b off xs)(k:Nat):vW w b off (xs.take k) :=
 ⟨h.1,fun i hi=>by rw[List.length_take]at hi;rw[h.2 i (by omega),List.getElem_take]⟩
theorem vW.drop {w:World}{b off:Nat}{xs:List Value}(h:vW w b off xs)(k:Nat):vW w b (off+k) (xs.drop k) :=
 ⟨h.1,fun i hi=>by rw[List.length_drop]at hi;rw[Nat.add_assoc,h.2 (k+i) (by omega),List.getElem_drop]⟩
theorem make0 {P:Program}{w:World}{ops:Array Oper}{rest:List Oper}{o:Oper}{a:Act}{Q:Exit->Act->World->Prop}(hgd:o.guard=none)(l c:Operand)(t:TypeId)(ho:o.op=.makeSlice t l c){e:TypeId}{z:Value}{bytes:Nat}(E:ElemOk P t e z bytes)(kl kc:IntKind)(C:Int)(n:Nat)(hl:a.eval l=.int kl 0)(hc:a.eval c=.int kc C)(hC:C=(n:Int))(hb:bytes * n<=281474976710656)(h63:n<=maxLen)(h:∀ w',w'.ownsRow w.heap.size e 1 (.slice (some ⟨w.heap.size,0,none⟩) 0 n) 0 []->w.grownBy w' none->wpList P ops Q rest (a.put o.dst (.slice (some ⟨w.heap.size,0,none⟩) 0 n)) w'):wpList P ops Q (o::rest) a w:=by
 obtain⟨i,hi,h0,h1,h2⟩:=info_parts E.hi;exact wpList_make_own w hgd l c t ho w.heap.size e i z 1 E.ht hi h0 h1 kl kc C n hl hc hC (by rw[h2];exact hb) h63 (Nat.le_refl _) h
end Go.Proofs.Ytjfdomfendbhfaa
namespace Go.Proofs.Ytjfdomfendbhfaa
open Go.RowKit Go.Maps
theorem qAG:Keyed Try.prog 3:=int_keyed (q:=.i64) (by kernel_rfl)
end Go.Proofs.Ytjfdomfendbhfaa
