/- Part 14 of the proof. -/
import Derived.Test.YtiknckajkdlppaaGreatQb12
import Derived.Test.YtiknckajkdlppaaGreatQb13
import Derived.DeepKeys4
import Derived.Deep.OwnRows
set_option linter.unusedVariables false
set_option linter.unusedSimpArgs false
set_option maxRecDepth 100000
set_option maxHeartbeats 16000000
namespace Go.Proofs.YtiknckajkdlppaaGreat
variable{d:DfaV}{p:List Nat}{q x k n m v:Nat}
def lR (d:DfaV)(p:List Nat)(q x:Nat):List Nat:=(p.getD q 0::(List.range x).map fun a=>p.getD (nx d q a) 0)++List.replicate (6-x) 0
theorem mC (h:x<=6):(lR d p q x).length=7:=by simp[lR];omega
theorem qIV (h:x<6):(lR d p q x).set (1+x) (p.getD (nx d q x) 0)=lR d p q (x+1):=by
 unfold lR;rw[List.set_append_right _ _ (by simp;omega),List.range_succ,List.map_append,show 6-x=(6-(x+1))+1 by omega,List.replicate_succ];simp[Nat.add_comm]
theorem qMV {N:Nat}(h:∀c∈p,c<N)(hN:0<N):∀y∈lR d p q x,y<N:=by
 intro y hy;rcases List.mem_append.1 hy with hy|hy
 ·rcases List.mem_cons.1 hy with rfl|hy
  ·exact qX h hN
  obtain⟨a,_,rfl⟩:=List.mem_map.1 hy;exact qX h hN
 rw[List.mem_replicate]at hy;omega
theorem qIW {q':Nat}:lR d p q k=lR d p q' k↔p.getD q 0=p.getD q' 0/\∀a,a<k->p.getD (nx d q a) 0=p.getD (nx d q' a) 0:=by
 unfold lR;constructor
 ·intro h
  have h:=List.append_cancel_right h;rw[List.cons.injEq,List.map_inj_left]at h;exact⟨h.1,fun a ha=>h.2 a (List.mem_range.2 ha)⟩
 rintro ⟨h1,h2⟩;rw[h1,List.map_congr_left (fun a ha=>h2 a (List.mem_range.1 ha))]
def sigL (d:DfaV)(k:Nat)(p:List Nat):List (List Nat):=(List.range p.length).map fun q=>lR d p q k
theorem kI (d:DfaV)(k:Nat)(p:List Nat):(sigL d k p).length=p.length:=by simp[sigL]
theorem bT (h:q<p.length):(sigL d k p)[q]'(by rw[kI];exact h)=lR d p q k:=by simp[sigL]
theorem qIT (hd:VD d n k)(hp:p.length=n)(hn:Norm p):numb (sigL d k p)=tR d p k:=by
 have h0:∀c∈p,c<n:=by have:=mG hn;rwa [hp]at this
 have hl:=kI d k p;refine aG (fY _) (lE hn k) ⟨by rw[xI,hl,xV],fun i j hi hj=>?_⟩;rw[xI,hl]at hi hj;rw[oX yo yo,bT hi,bT hj,qIW,pE hd hp h0 yo yo k (Nat.le_refl _)]
theorem qGW {α:Type}[DecidableEq α]{l:List α}(hk:k<l.length):(numb l).getD k 0=if l[k]∈yT (l.take k) then (yT (l.take k)).idxOf l[k] else (yT (l.take k)).length:=by
 rw[zQ (by rw[xI];exact hk),pM hk,<-qBH hk,List.take_succ_eq_append_getElem hk,sY];by_cases h:l[k]∈yT (l.take k)
 ·rw[tZ h,if_pos h]
 rw[uK h,if_neg h,List.idxOf_append,if_neg h];simp
theorem eI {α:Type}[DecidableEq α]{l:List α}(hk:k<l.length):yT (l.take (k+1))=wU (yT (l.take k)) l[k]:=by
 rw[List.take_succ_eq_append_getElem hk,sY]
theorem qOP {α:Type}[DecidableEq α](l:List α):cls (numb l)=(yT l).length:=by
 unfold cls numb;rw[eY _ _ (fun x hx y _ h=>qBQ (wI.2 hx) h),List.length_map]
def uQ (d:DfaV)(q:Nat):List Nat:=(List.range q).map fun i=>if d.final.getD i false=d.final.getD 0 false then 0 else 1
def fstC (d:DfaV)(q:Nat):Nat:=if (uQ d q).all (· == 0) then 1 else 2
def fstF (d:DfaV)(n q:Nat):List Nat:=uQ d q++List.replicate (n-q) 0
theorem kP (h:q<=n):(fstF d n q).length=n:=by simp[fstF,uQ];omega
theorem qLB (h:q<n)(e:d.final.getD q false=d.final.getD 0 false):fstF d n (q+1)=fstF d n q/\fstC d (q+1)=fstC d q:=by
 have h1:uQ d (q+1)=uQ d q++[0]:=by
  simp only[uQ,List.range_succ,List.map_append,List.map_cons,List.map_nil,if_pos e]
 constructor
 ·unfold fstF
  rw[h1,show n-q=(n-(q+1))+1 by omega,List.replicate_succ,List.append_assoc];rfl
 unfold fstC;rw[h1,List.all_append];simp
theorem qLC (h:q<n)(e:d.final.getD q false≠d.final.getD 0 false):fstF d n (q+1)=(fstF d n q).set q 1/\fstC d (q+1)=2:=by
 have h1:uQ d (q+1)=uQ d q++[1]:=by
  simp only[uQ,List.range_succ,List.map_append,List.map_cons,List.map_nil,if_neg e]
 have hl:(uQ d q).length=q:=by simp[uQ]
 constructor
 ·unfold fstF
  rw[h1,List.set_append_right _ _ yo,hl,Nat.sub_self,show n-q=(n-(q+1))+1 by omega,List.replicate_succ,List.set_cons_zero,List.append_assoc];rfl
 unfold fstC;rw[h1,List.all_append];simp
theorem qLA (hd:VD d n k):uQ d n=jH d/\fstC d n=cls (jH d):=by
 have hl:(uQ d n).length=n:=by simp[uQ]
 have hg:∀i,i<n->(uQ d n).getD i 0=if d.final.getD i false=d.final.getD 0 false then 0 else 1:=fun i hi=>by
  rw[zQ yo];simp[uQ]
 have h8:∀i j,i<n->j<n->((uQ d n).getD i 0=(uQ d n).getD j 0↔(jH d).getD i 0=(jH d).getD j 0):=fun i j hi hj=>by
  rw[hg i hi,hg j hj,fW hd hi hj];cases d.final.getD i false<;>cases d.final.getD j false<;>cases d.final.getD 0 false<;>simp
 have H4:=mE d;have h9:=hd.n1
 have h6:Norm (uQ d n):=by
  unfold Norm;have h0:(uQ d n).getD 0 0=0:=by rw[hg 0 yo,if_pos rfl]
  refine List.ext_getElem (xI _) fun i h1 h2=>?_;have hi:i<n:=yo
  rw[pM h2]
  have key:∀m,0<m->m<=n->yT ((uQ d n).take m)=if (∃j,j<m/\(uQ d n).getD j 0=1) then [0,1] else [0]:=by
   intro m hm H7
   induction m with
   | zero=>omega
   | succ m ih =>
    have H0:m<(uQ d n).length:=yo;rw[eI H0,<-zQ (d:=0) H0];have h7:(uQ d n).getD m 0=0\/(uQ d n).getD m 0=1:=by rw[hg m yo];split<;>simp
    by_cases hm0:m=0
    ·subst hm0
     rw[h0]
     have:¬∃j,j<0+1/\(uQ d n).getD j 0=1:=by
      rintro ⟨j,hj,e⟩;have:j=0:=yo
      subst this;omega
     rw[if_neg this];rfl
    rw[ih yo yo];by_cases hex:∃j,j<m/\(uQ d n).getD j 0=1
    ·have h5:∃j,j<m+1/\(uQ d n).getD j 0=1:=hex.imp fun j h=>⟨yo,h.2⟩
     rw[if_pos hex,if_pos h5];rcases h7 with e|e<;>rw[e]<;>rfl
    rw[if_neg hex];rcases h7 with e|e
    ·have h5:¬∃j,j<m+1/\(uQ d n).getD j 0=1:=by
      rintro ⟨j,hj,e2⟩;rcases Nat.lt_succ_iff_lt_or_eq.1 hj with hj|rfl
      ·exact hex ⟨j,hj,e2⟩
      ·omega
     rw[if_neg h5,e];rfl
    rw[if_pos ⟨m,yo,e⟩,e];rfl
  have hk:=key n yo (Nat.le_refl _);rw[show (uQ d n).take n=uQ d n by rw[List.take_of_length_le yo]]at hk;rw[hk];have h7:(uQ d n).getD i 0=0\/(uQ d n).getD i 0=1:=by rw[hg i hi];split<;>simp
  rw[zQ h2]at h7;rcases h7 with e|e
  ·rw[e];split<;>rfl
  rw[e,if_pos ⟨i,hi,by rw[zQ h2,e]⟩];rfl
 have H1:uQ d n=jH d:=aG h6 (dX d) ⟨by rw[hl,H4,hd.hn],fun i j hi hj=>h8 i j yo yo⟩;refine⟨H1,?_⟩;rw[<-H1];unfold fstC;by_cases ha:(uQ d n).all (· == 0)=true
 ·rw[if_pos ha]
  have:uQ d n=List.replicate n 0:=by
   refine List.eq_replicate_iff.2 ⟨hl,fun x hx=>?_⟩;simpa using List.all_eq_true.1 ha x hx
  rw[this]
  have h1:(yT (List.replicate n 0)) ⊆ [0]:=fun x hx=>by
   have:=wI.1 hx;rw[List.mem_replicate]at this;simp[this.2]
  have h2:=(rH (List.replicate n 0)).length_le_of_subset h1;have h3:=aT (p:=List.replicate n 0) (by simp;omega);unfold cls at h3⊢;simp at h2;omega
 rw[if_neg ha]
 have h1:yT (uQ d n) ⊆ [0,1]:=fun x hx=>by
  obtain⟨i,_,rfl⟩:=List.mem_map.1 (wI.1 hx)
  split<;>simp
 have h2:=(rH (uQ d n)).length_le_of_subset h1
 have h9:∃x∈uQ d n,x≠0:=by
  apply Classical.byContradiction;intro H5
  exact ha (List.all_eq_true.2 fun x hx=>by
   have:x=0:=Classical.byContradiction fun h=>H5 ⟨x,hx,h⟩
   simp[this])
 obtain⟨x,hx,H3⟩:=h9
 have H2:x=1:=by
  obtain⟨i,_,rfl⟩:=List.mem_map.1 hx
  split at H3
  ·omega
  rename_i h;rw[if_neg h]
 have H6:0∈uQ d n:=by
  rw[uQ,List.mem_map];exact⟨0,List.mem_range.2 yo,if_pos rfl⟩
 have h3:[0,1] ⊆ yT (uQ d n):=fun y hy=>by
  simp only[List.mem_cons,List.not_mem_nil,or_false]at hy;rcases hy with rfl|rfl
  ·exact wI.2 H6
  exact wI.2 (H2 ▸ hx)
 have h4:=(show [0,1].Nodup by decide).length_le_of_subset h3;unfold cls;simp at h2 h4;omega
theorem qLL (hd:VD d n k)(m:Nat):numb (sigL d k (xJ d k m))=xJ d k (m+1):=qIT hd (by rw[xQ,hd.hn]) (tY d k m)
theorem qHP (hd:VD d n k)(hm:m<=n)(h:cls (xJ d k (m+1))=cls (xJ d k m)):xJ d k (m+1)=xU d k:=by
 have e:tR d (xJ d k m) k=xJ d k m:=Classical.byContradiction fun hne=>by
  have:=oV hd (by rw[xQ,hd.hn]) (tY d k m) hne;rw[xJ]at h;omega
 rw[pT (by rw[hd.hn];exact hm) e,xJ,e]
theorem qHQ (hd:VD d n k)(h:cls (xJ d k (m+1))≠cls (xJ d k m)):cls (xJ d k m)<cls (xJ d k (m+1)):=by
 have e:tR d (xJ d k m) k≠xJ d k m:=fun e=>h (by rw[xJ,e]);exact oV hd (by rw[xQ,hd.hn]) (tY d k m) e
theorem qOR (hd:VD d n k)(m:Nat):cls (xJ d k m)<=n:=by
 have:=gI (xJ d k m)
 rwa [xQ,hd.hn]at this
open Go.Maps Go.RowKit
theorem fO:Tryz.prog.underlying 132=some (.array 7 3):=yk
theorem qAL:Tryz.prog.underlying 130=some (.map 132 3):=yk
theorem qIU:Keyed Tryz.prog 132:=Keyed.of_law (deep_law_laid (m:=5) yk jd (of_decide_eq_true yk) yk yk)
theorem qSR (hx:x<4611686018427387904):(Lit.int .i64 (x:Int)).wf=true:=cK (x:=(x:Int)) ⟨yo,yo⟩
theorem nD (d:Nat)(hx:x<4611686018427387904):Tryz.prog.keyLits (d+1) 3 [.int .i64 (x:Int)]=some [.int .i64 (x:Int)]:=by
 unfold Program.keyLits;rw[tT];simp[qSR hx]
def sigV (L:List Nat):Value:=.agg #[.int .i64 ((L.getD 0 0:Nat):Int),.int .i64 ((L.getD 1 0:Nat):Int),.int .i64 ((L.getD 2 0:Nat):Int),.int .i64 ((L.getD 3 0:Nat):Int),.int .i64 ((L.getD 4 0:Nat):Int),.int .i64 ((L.getD 5 0:Nat):Int),.int .i64 ((L.getD 6 0:Nat):Int)]
def qPI (L:List Nat):Prop:=L.length=7/\∀x∈L,x<4611686018427387904
theorem qAM:Tryz.prog.cellsOf 132=7:=yk
theorem qKV:Tryz.prog.cellsOf 3=1:=yk
theorem qMU {x0 x1 x2 x3 x4 x5 x6:Nat}(h0:x0<4611686018427387904)(h1:x1<4611686018427387904)(h2:x2<4611686018427387904)(h3:x3<4611686018427387904)(h4:x4<4611686018427387904)(h5:x5<4611686018427387904)(h6:x6<4611686018427387904):(keyOf Tryz.prog 132 (.agg #[.int .i64 (x0:Int),.int .i64 (x1:Int),.int .i64 (x2:Int),.int .i64 (x3:Int),.int .i64 (x4:Int),.int .i64 (x5:Int),.int .i64 (x6:Int)])).isSome=true:=by
 have hk:Tryz.prog.keyType 132=true:=yk
 unfold keyOf;rw[fO];simp only[hk,Bool.true_and]
 have hf:(Value.agg #[.int .i64 (x0:Int),.int .i64 (x1:Int),.int .i64 (x2:Int),.int .i64 (x3:Int),.int .i64 (x4:Int),.int .i64 (x5:Int),.int .i64 (x6:Int)]).formed Tryz.prog 132=true:=by
  simp[Value.formed,fO,qAM]
 rw[if_pos hf]
 have hl:Tryz.prog.keyLits (Tryz.prog.types.size+1) 132 (Value.agg #[.int .i64 (x0:Int),.int .i64 (x1:Int),.int .i64 (x2:Int),.int .i64 (x3:Int),.int .i64 (x4:Int),.int .i64 (x5:Int),.int .i64 (x6:Int)]).cells.toList=some [.int .i64 (x0:Int),.int .i64 (x1:Int),.int .i64 (x2:Int),.int .i64 (x3:Int),.int .i64 (x4:Int),.int .i64 (x5:Int),.int .i64 (x6:Int)]:=by
  have hz:Tryz.prog.types.size=(Tryz.prog.types.size-1)+1:=yk
  rw[hz];unfold Program.keyLits;rw[fO];simp[Value.cells,qAM,qKV,List.range,List.range.loop,nD _ h0,nD _ h1,nD _ h2,nD _ h3,nD _ h4,nD _ h5,nD _ h6]
 rw[hl];rfl
theorem bS:KeyK 130 132 qPI sigV where
 key:=qIU
 und:=qAL
 of:=fun L h=>by
  have hg:∀i,L.getD i 0<4611686018427387904:=fun i=>by
   by_cases hi:i<L.length
   ·rw[zQ hi];exact h.2 _ (List.getElem_mem hi)
   ·rw[List.getD,List.getElem?_eq_none yo];simp
  exact qMU (hg 0) (hg 1) (hg 2) (hg 3) (hg 4) (hg 5) (hg 6)
 inj:=fun L M hL hM e=>by
  simp only[sigV,Value.agg.injEq]at e
  have e:=congrArg Array.toList e
  simp only[List.cons.injEq,Value.int.injEq,true_and,and_true]at e
  refine List.ext_getElem (by rw[hL.1,hM.1]) fun i h1 h2=>?_
  rw[<-zQ (d:=0) h1,<-zQ (d:=0) h2]
  have:i<7:=by rw[<-hL.1];exact h1
  match i,this with
  | 0,_=>omega
  | 1,_=>omega
  | 2,_=>omega
  | 3,_=>omega
  | 4,_=>omega
  | 5,_=>omega
  | 6,_=>omega
def numF {α:Type}[DecidableEq α](l:List α)(L:α):Option Nat:=if L∈l then some (l.idxOf L) else none
theorem qNM {α:Type}[DecidableEq α]{l:List α}{L:α}(h:L ∉ l):(fun q=>if q=L then some l.length else numF l q)=numF (l++[L]):=by
 funext q;unfold numF;by_cases e:q=L
 ·subst e
  rw[if_pos rfl,if_pos yq,List.idxOf_append,if_neg h];simp
 rw[if_neg e];by_cases hq:q∈l
 ·rw[if_pos hq,if_pos (by simp[hq]),List.idxOf_append,if_pos hq]
 rw[if_neg hq,if_neg (by simp[hq,e])]
theorem qNK {α:Type}[DecidableEq α]{l:List α}{L:α}(h:L∈l):numF l L=some (if L∈l then l.idxOf L else l.length):=by rw[numF,if_pos h,if_pos h]
theorem qRI {α:Type}[DecidableEq α]{l:List α}{L:α}(h:L ∉ l):numF l L=none:=if_neg h
theorem qNI {α:Type}[DecidableEq α]{l:List α}{L:α}(hv:v=if L∈l then l.idxOf L else l.length)(h:L∈l):numF l L=some v:=by rw[hv,qNK h]
theorem qNJ {α:Type}[DecidableEq α]{l:List α}{L:α}(hv:v=if L∈l then l.idxOf L else l.length)(h:L ∉ l):v=l.length:=by rw[hv,if_neg h]
theorem qTQ {L:List Nat}(h:L.length=7):∃y0 y1 y2 y3 y4 y5 y6,L=[y0,y1,y2,y3,y4,y5,y6]:=by
 match L,h with
 | [y0,y1,y2,y3,y4,y5,y6],_=>exact⟨y0,y1,y2,y3,y4,y5,y6,rfl⟩
theorem qGC {w:World}{g e y0 y1 y2 y3 y4 y5 y6:Nat}(h:Arr w g e (nats [y0,y1,y2,y3,y4,y5,y6])):w.cell? ⟨g,0,none⟩=some (.int .i64 (y0:Int))/\w.cell? ⟨g,1,none⟩=some (.int .i64 (y1:Int))/\w.cell? ⟨g,2,none⟩=some (.int .i64 (y2:Int))/\w.cell? ⟨g,3,none⟩=some (.int .i64 (y3:Int))/\w.cell? ⟨g,4,none⟩=some (.int .i64 (y4:Int))/\w.cell? ⟨g,5,none⟩=some (.int .i64 (y5:Int))/\w.cell? ⟨g,6,none⟩=some (.int .i64 (y6:Int)) :=
 ⟨h.cell 0 (by simp[nats]),h.cell 1 (by simp[nats]),h.cell 2 (by simp[nats]),h.cell 3 (by simp[nats]),h.cell 4 (by simp[nats]),h.cell 5 (by simp[nats]),h.cell 6 (by simp[nats])⟩
theorem qNL:(fun _=>none)=numF ([]:List (List Nat)):=by funext L;simp[numF]
theorem qBD (B:Nat)(w:World)(v:Value)(d:DfaV)(n k:Nat)(hB:B<=w.heap.size)(h:rP B w v d)(hd:VD d n k)(h5:n<=512):Calls Tryz.prog 94 #[v] w (qEM w (xU d k)):=by
 have r7:=@run_makeMap Tryz.prog;have b6:=h;obtain⟨fb,fo,fc,b,off,cap,RB,RO,RC,rfl,c4⟩:=h.at hd;have hn:=hd.hn;have o0:=hd.n1;have l2:=hd.k6;have s0:=hd.k1;have s6:=c4.fcap.1;have d4:=c4.fcap.2;have s9:=c4.cap.1;have d5:=c4.cap.2;have o2:fc<=9223372036854775807:=jl d4
 have o1:cap<=9223372036854775807:=jl d5
 obtain⟨S,hS⟩:=Nm (st0 d);have j8:dAgg k (st0 d) fb fo fc b off cap n=.agg #[.int .i64 (k:Int),.int .i64 (S:Int),.slice (some ⟨fb,fo,none⟩) n fc,.slice (some ⟨b,off,none⟩) n cap]:=by rw[hS];rfl
 rw[j8]at b6⊢;obtain⟨wA,j0⟩:=Nm (w.alloc (.cells #[.int .i64 (k:Int),.int .i64 (S:Int),.slice (some ⟨fb,fo,none⟩) n fc,.slice (some ⟨b,off,none⟩) n cap] 29));have f6:=Ga w (.cells #[.int .i64 (k:Int),.int .i64 (S:Int),.slice (some ⟨fb,fo,none⟩) n fc,.slice (some ⟨b,off,none⟩) n cap] 29) none;have b9:=heap_alloc_new w (.cells #[.int .i64 (k:Int),.int .i64 (S:Int),.slice (some ⟨fb,fo,none⟩) n fc,.slice (some ⟨b,off,none⟩) n cap] 29);rw[<-j0]at b9 f6;obtain⟨P,hP⟩:=Nm w.heap.size;rw[<-hP]at b9;obtain⟨c0,c1,c2,c3⟩:=zM b9;have t1:=zS b9;have p0:B<=wA.heap.size:=yo
 have p7:=Kh hP;have t2:w.heap.size<=P:=yo
 obtain⟨m9,q5,p3⟩:=Kc b9 f6 j0;have c8:Hid (∀W:World,w.grownBy W none->DAt B W d n k fb fo fc b off cap RB RO RC):=Kh (fun W hg=>c4.kept hg yq);have HN:=Kh hn;have HD:=Kh hd;have l7:=Kh (qM B wA _ d p0 (b6.kept f6 yq));have p4:=Kh (kW hd h5);clear b9 f6 j0 c4 hn hd h b6 j8 d4 d5 hS hP;go_enter Tryz.func94,Tryz.ntmps94;go_upto_region 1 with fail;rw[<-p3.out,<-p7.out];go_wp2_with fail;refine l7.out.mono ?_;rintro e w1 ⟨rfl,f9⟩;rw[p4.out];have r3:=f9.size;have q6:=Kh (zE q5.out f9);have g3:=Kh (zD m9.out f9);obtain⟨d0,d1,d2,d3⟩:=zM g3.out;have t9:B<=w.heap.size:=hB;clear f9 l7 c0 c1 c2 c3 m9;go_wp2_with (first|(at_make;refine pL rfl _ _ _ rfl yJ rfl .i64 .i64 _ _ n rfl rfl rfl rfl ?b1 ?b2 ?_;(case b1=>omega);(case b2=>(unfold maxLen;omega));intro w2 h0 f8 i5;(obtain⟨e0,e1,e2,e3⟩:=zM (zD g3.out f8)))|fail);obtain⟨G,hG⟩:=Nm w1.heap.size;rw[<-hG]at h0 i5⊢;have t6:P<G:=yo
 have o9:w.heap.size<=G:=yo
 have n3:Hid (Arr w2 G 3 (nats (fstF d n 0))):=Kh (by
  rw[show fstF d n 0=List.replicate n 0 by simp[fstF,uQ],yW];exact h0)
 have m3:=Kh (zE q6.out f8);have m8:=Kh (zD g3.out f8);clear h0 f8 hG g3 d0 d1 d2 d3 e0 e1 e2 e3
 go_loopg [4,5,6,26] n (fun gh a4 a5 a6 i wr=>∃q:Nat,gh+q=n/\i=.int .i64 q/\a4=.int .i64 (fstC d q:Nat)/\Arr wr G 3 (nats (fstF d n q))/\wr.heap[P]?=some (.cells #[.int .i64 (k:Int),.int .i64 (S:Int),.slice (some ⟨fb,fo,none⟩) n fc,.slice (some ⟨b,off,none⟩) n cap] 29 (0,0))/\w.grownBy wr none)
 case atStart=>exact⟨0,rfl,rfl,rfl,n3.out,m8.out,m3.out⟩
 clear n3 m8 m3;obtain⟨q,a1,rfl,rfl,h0,h6,h3⟩:=hrel;obtain⟨h7,HA,H5,H4⟩:=Kd a1 h0 h6 h3;obtain⟨d0,d1,d2,d3⟩:=zM h6;clear a1;by_cases hq:q<n
 ·have n9:(q:Int)<n:=yo
  have cf0:=(c8.out _ h3).fin (q:=0) yo;have cfq:=(c8.out _ h3).fin hq;have s5:=h0.frozen q;have t0:=h0.nat q (by rw[kP yo];exact hq);have i9:(nats (fstF d n q)).length=n:=by rw[zV,kP yo]
  rw[Nat.add_zero]at cf0;by_cases e:d.final.getD q false=d.final.getD 0 false
  ·obtain⟨h1,h2⟩:=qLB hq e
   have H1:=Kh h1;have H2:=Kh h2;rw[e]at cfq
   generalize d.final.getD 0 false=b0 at cf0 cfq
   have e1:(b0 != b0)=false:=yq
   clear h1 h2 e h0 h6;go_wp2;go_roundg (n-(q+1))
   case measure=>have:=h7.out;omega
   exact⟨q+1,by have:=h7.out;omega,by go_num,by rw[H2.out],by rw[H1.out];exact HA.out,H5.out,H4.out⟩
  obtain⟨h1,h2⟩:=qLC hq e;have H1:=Kh h1;have H2:=Kh h2;have e1:(d.final.getD q false == d.final.getD 0 false)=false:=by rw[beq_eq_false_iff_ne];exact e
  generalize d.final.getD 0 false=b0 at cf0 e1
  generalize d.final.getD q false=b1 at cfq e1
  clear h1 h2 e h0 h6;go_wp2;go_roundg (n-(q+1))
  case measure=>have:=h7.out;omega
  exact⟨q+1,by have:=h7.out;omega,by go_num,by rw[H2.out];rfl,by rw[H1.out];exact HA.out.nat_set q (by rw[kP yo];exact hq) 1,zD H5.out (zH wr ⟨G,q,none⟩ _) (fun e=>by have e:G=P:=Oj e;omega),yM H4.out (zH wr ⟨G,q,none⟩ _) (by show _<=G;omega)⟩
 have f3:q=n:=by have:=h7.out;omega
 obtain⟨l1,l4⟩:=qLA HD.out
 have n4:Hid (Arr wr G 3 (nats (xJ d k 0))):=Kh (by
  rw[show xJ d k 0=fstF d n q by rw[f3,fstF,l1];simp[xJ]];exact h0)
 have r0:Hid (fstC d q=cls (xJ d k 0)):=Kh (by rw[f3,l4];rfl);rw[r0.out];have H8:=Kh f3;clear f3 l1 l4 HA h7 h0 h6 h3;obtain⟨w3,rfl⟩:=Nm (wr:World);go_wp2_with fail
 go_loopg [3,4,7,8,9,10,11,12,13,14,15] (n-cls (xJ d k 0)) (fun gh a3 a4 a7 a8 a9 a10 a11 a12 a13 a14 a15 wr=>∃(m g:Nat),gh=n-cls (xJ d k m)/\m<=cls (xJ d k m)/\a3=.slice (some ⟨g,0,none⟩) n n/\a4=.int .i64 (cls (xJ d k m):Nat)/\Arr wr g 3 (nats (xJ d k m))/\w.heap.size<=g/\g≠P/\wr.heap[P]?=some (.cells #[.int .i64 (k:Int),.int .i64 (S:Int),.slice (some ⟨fb,fo,none⟩) n fc,.slice (some ⟨b,off,none⟩) n cap] 29 (0,0))/\w.grownBy wr none)
 case atStart=>exact⟨0,G,rfl,yo,rfl,rfl,n4.out,o9,yo,H5.out,H4.out⟩
 clear n4 H5 H4;obtain⟨m,g,rfl,o3,rfl,rfl,h0,s1,s3,h6,h3⟩:=hrel;obtain⟨p,hp⟩:=Nm (xJ d k m);have l0:p.length=n:=by rw[hp,xQ,HN.out]
 have o7:=qOR HD.out m;have c9:∀c∈p,c<n:=(by have:=mG (tY d k m);rw[<-hp,l0]at this;exact this);have j2:Hid (numb (sigL d k p)=xJ d k (m+1)):=Kh (by rw[hp];exact qLL HD.out m);have d8:Hid (cls (xJ d k (m+1))=cls (xJ d k m)->xJ d k (m+1)=xU d k):=Kh (qHP HD.out yo);have e7:Hid (cls (xJ d k (m+1))≠cls (xJ d k m)->cls (xJ d k m)<cls (xJ d k (m+1))):=Kh (qHQ HD.out);rw[<-hp]at h0;obtain⟨C,hC⟩:=Nm (cls (xJ d k m));rw[<-hC]at d8 e7 o3 o7⊢;obtain⟨x2,j3,q9,HA,H5,H4⟩:=Kf hp c9 hC h0 h6 h3;have k7:(sigL d k p).length=n:=by rw[kI,l0]
 obtain⟨wm,f1⟩:=Nm (wr.alloc (.map #[] 0));obtain⟨mb,i3⟩:=Nm wr.heap.size;have i8:wr.grownBy wm none:=by rw[f1];exact Ga wr _ none
 have e6:Hid (MapK 132 qPI sigV wm mb 0 0 (numF [])):=Kh (by
  rw[f1,i3,<-qNL];exact MapK.made _ _ _ _)
 have t3:=zS h6;have s2:=h0.lt;obtain⟨p1,c6,q0⟩:=Kc f1 i8 i3;have r2:=i8.size;have r6:=e6.out.lt;have t4:P<mb:=yo;have o4:g<mb:=yo;have n7:w.heap.size<=mb:=by have:=h3.size;omega
 clear hp c9 hC h0 h6 h3 i8 f1 i3;obtain⟨wo,rfl⟩:=Nm (wr:World);go_upto_region 11 with fail;rw[<-p1.out,<-q0.out];obtain⟨d0,d1,d2,d3⟩:=zM (zD H5.out c6.out);go_wp2_with (first|(at_make;refine pL rfl _ _ _ rfl yJ rfl .i64 .i64 _ _ n rfl rfl rfl rfl ?b1 ?b2 ?_;(case b1=>omega);(case b2=>(unfold maxLen;omega));intro w4 h0 b8 i4;(obtain⟨e0,e1,e2,e3⟩:=zM (zD (zD H5.out c6.out) b8)))|fail);obtain⟨F,hF⟩:=Nm wm.heap.size;rw[<-hF]at h0 i4⊢;obtain⟨sg,g5⟩:=Nm (sigL d k p);rw[<-g5]at j2 k7;have s4:g<F:=yo;have t5:P<F:=yo;have r8:mb<F:=yo;have l6:w.heap.size<=F:=yo
 have i2:(numb sg).length=n:=by rw[xI,k7]
 have p5:=Kh g5;have g0:=Kh i2
 have m4:Hid (Arr w4 F 3 (nats (vO (numb sg) 0))):=Kh (by
  rw[tH,i2,yW];exact h0)
 have l8:=Kh (e6.out.kept b8 yq);have n2:=Kh ((HA.out.kept c6.out yq).kept b8 yq);have m7:=Kh (zD (zD H5.out c6.out) b8);have m2:=Kh (zE (zE H4.out c6.out) b8);clear g5 i2 h0 b8 hF e6 HA H5 H4 c6 d0 d1 d2 d3 e0 e1 e2 e3
 go_loopg [9,10,11,12,13,14,15,48] n (fun gh a9 a10 a11 a12 a13 a14 a15 i wr=>∃(q c:Nat),gh+q=n/\i=.int .i64 q/\Arr wr F 3 (nats (vO (numb sg) q))/\MapK 132 qPI sigV wr mb q c (numF (yT (sg.take q)))/\c=(yT (sg.take q)).length/\Arr wr g 3 (nats p)/\wr.heap[P]?=some (.cells #[.int .i64 (k:Int),.int .i64 (S:Int),.slice (some ⟨fb,fo,none⟩) n fc,.slice (some ⟨b,off,none⟩) n cap] 29 (0,0))/\w.grownBy wr none)
 case atStart=>exact⟨0,0,rfl,rfl,m4.out,by simpa [yT] using l8.out,by simp[yT],n2.out,m7.out,m2.out⟩
 clear m4 l8 n2 m7 m2;obtain⟨q,c,a1,rfl,h0,H0,hc,d7,h6,h3⟩:=hrel;obtain⟨h7,HF,e6,HA,H5,H4⟩:=Kf a1 h0 H0 d7 h6 h3;have e9:=Kh hc;obtain⟨d0,d1,d2,d3⟩:=zM h6;have r1:=h3.size;have t7:=h0.lt;have s8:c<=q:=by rw[hc];have:=sK (sg.take q);rw[List.length_take]at this;omega
 clear a1;by_cases hq:q<n
 ·have n9:(q:Int)<n:=yo
  have hh:=(c8.out _ h3).hd q hq;have g9:=(c8.out _ h3).rcap q hq;have n8:=(c8.out _ h3).rlt q hq;have g8:=g9.1;have g7:RC q<=9223372036854775807:=by have:=g9.2;unfold maxLen at this;omega
  have d6:=d7.nat q yo;obtain⟨rb,i0⟩:=Nm (RB q);obtain⟨ro,g6⟩:=Nm (RO q);obtain⟨rc,a2⟩:=Nm (RC q);rw[<-i0,<-g6,<-a2]at hh;rw[<-a2]at g8 g7;have q8:Hid (∀W:World,w.grownBy W none->∀a,a<k->W.cell? ⟨rb,ro+a,none⟩=some (.int .i64 ((nx d q a:Nat):Int))):=Kh (fun W hg a ha=>by rw[i0,g6];exact(c8.out W hg).el q a hq ha);obtain⟨pq,f4⟩:=Nm (p.getD q 0);rw[<-f4]at d6;have x1:=Kh f4;obtain⟨wk,f2⟩:=Nm (wr.alloc (.cells #[.int .i64 (pq:Int),.int .i64 0,.int .i64 0,.int .i64 0,.int .i64 0,.int .i64 0,.int .i64 0] 132));obtain⟨kb,i7⟩:=Nm wr.heap.size;have b7:wr.grownBy wk none:=by rw[f2];exact Ga wr _ none
  have m0:Hid (Arr wk kb 132 (nats (lR d p q 0))):=Kh (by
   rw[f2,i7];have:=Arr.new wr 132 #[.int .i64 (pq:Int),.int .i64 0,.int .i64 0,.int .i64 0,.int .i64 0,.int .i64 0,.int .i64 0];rw[show nats (lR d p q 0)=#[Value.int .i64 (pq:Int),.int .i64 0,.int .i64 0,.int .i64 0,.int .i64 0,.int .i64 0,.int .i64 0].toList by rw[lR,<-f4];rfl]
   exact this)
  have p2:=Kh f2;have q2:=Kh i7;have q3:=Kh (zE h3 b7);have m5:=Kh (h0.kept b7 yq);have l9:=Kh (H0.kept b7 yq);have j7:=Kh (d7.kept b7 yq);have f0:=Kh (zD h6 b7);have t8:F<kb:=yo;clear h0 H0 d7 h6 h3 i0 g6 a2 f4 f2 i7 b7 g9 n8 hc;go_upto_region 16 with fail;rw[<-p2.out,<-q2.out];clear d0 d1 d2 d3 d6 hh HF e6 HA H5 H4;have r5:g<kb:=yo;go_wp2_with fail
  go_loopg [12,13,60] k (fun gh a12 a13 i wr=>∃x:Nat,gh+x=k/\i=.int .i64 x/\Arr wr kb 132 (nats (lR d p q x))/\wk.grownBy wr (some kb))
  case atStart=>exact⟨0,rfl,rfl,m0.out,zX _ _⟩
  clear m0;obtain⟨x,a1,rfl,h0,h3⟩:=hrel;obtain⟨H8,HK,H4⟩:=Kc a1 h0 h3;have H6:=yM q3.out h3 (by show _<=kb;omega);have m1:=Kh H6;clear a1;by_cases hx:x<k
  ·have r4:(x:Int)<k:=yo
   have cel:=q8.out wr H6 x hx;have n6:=mF HD.out hq hx;obtain⟨y,hy⟩:=Nm (nx d q x);rw[<-hy]at cel n6;have n5:(y:Int)<n:=yo;have cy:=(j7.out.kept h3 (fun e=>by have e:kb=g:=Oj e;omega)).nat y yo;have h4:=qIV (d:=d) (p:=p) (q:=q) (x:=x) yo;rw[<-hy]at h4;have H3:=Kh h4;have k8:=mC (d:=d) (p:=p) (q:=q) (x:=x) yo;have ck:=h0.nat (1+x) yo;have fk:=h0.frozen (1+x);have p6:=Kh k8;obtain⟨z,hz⟩:=Nm (p.getD y 0);rw[<-hz]at cy;have HZ:=Kh hz;clear h4 k8 hz hy h0 h3 H6;go_wp2;go_roundg (k-(x+1))
   case measure=>have:=H8.out;omega
   exact⟨x+1,by have:=H8.out;omega,by go_num,by rw[<-H3.out,<-HZ.out];exact HK.out.nat_set (1+x) (by rw[p6.out];omega) z,zI H4.out (zH wr ⟨kb,1+x,none⟩ _)⟩
  have g4:x=k:=by have:=H8.out;omega
  have x0:=Kh g4;rw[g4]at h0 HK;have c7:=Kh (m5.out.kept h3 (fun e=>by have e:kb=F:=Oj e;omega));have e4:=Kh (l9.out.kept h3 (fun e=>by have e:kb=mb:=Oj e;omega));have n0:=Kh (j7.out.kept h3 (fun e=>by have e:kb=g:=Oj e;omega));have m6:=Kh (zD f0.out h3 (fun e=>by have e:kb=P:=Oj e;omega));have k9:q<sg.length:=yo
  have j9:sg[q]=lR d p q k:=by
   have e:=p5.out;subst e;exact bT yo
  have b4:=qGW k9;have H7:=eI k9;rw[j9]at b4 H7;obtain⟨y0,y1,y2,y3,y4,y5,y6,hL⟩:=qTQ (mC (d:=d) (p:=p) (q:=q) (x:=k) l2)
  have i1:qPI [y0,y1,y2,y3,y4,y5,y6]:=by
   rw[<-hL];exact⟨mC l2,fun z hz=>by have:=qMV j3.out o0 z hz;omega⟩
  rw[hL]at h0 HK b4 H7;obtain⟨k0,k1,k2,k3,k4,k5,k6⟩:=qGC h0;have h4:=tW (l:=numb sg) (k:=q) (by have:=g0.out;omega);have i9:=yZ (l:=numb sg) (k:=q) (by have:=g0.out;omega);have g2:Hid ((vO (numb sg) q).length=n):=Kh (by rw[i9,g0.out]);have cF:=c7.out.nat q (by rw[g2.out];exact hq);have fF:=c7.out.frozen q;have b5:=e4.out.lookup bS i1;obtain⟨Fs,j1⟩:=Nm (yT (sg.take q));rw[<-j1]at b4 H7 b5 e4 e9;have x4:=Kh j1;have p8:=Kh i1;clear hL j9 i9 h0 h3 H6 j1 i1 g4 m5 l9 j7 f0;by_cases hin:[y0,y1,y2,y3,y4,y5,y6]∈Fs
  ·obtain⟨I,hI⟩:=Nm ((numb sg).getD q 0)
   have H9:=qNI (hI.trans b4) hin;rw[tZ hin]at H7;rw[H9]at b5;rw[<-hI]at h4;replace b5:(Instr.lookup 130 (.map (some mb)) (.agg #[.int .i64 (y0:Int),.int .i64 (y1:Int),.int .i64 (y2:Int),.int .i64 (y3:Int),.int .i64 (y4:Int),.int .i64 (y5:Int),.int .i64 (y6:Int)]) true).run Tryz.prog wr=.ok (.tuple #[.int .i64 (I:Int),.bool true]) wr:=b5;have H3:=Kh h4;have e8:=Kh H7;clear h4 H7 b4 hI hin H9;go_wp2;go_roundg (n-(q+1))
   case measure=>have:=h7.out;omega
   refine⟨q+1,c,by have:=h7.out;omega,by go_num,by rw[<-H3.out];exact c7.out.nat_set q (by rw[g2.out];exact hq) I,?_,by rw[e8.out];exact e9.out,n0.out.kept (zH wr ⟨F,q,none⟩ _) (fun e=>by have e:F=g:=Oj e;omega),zD m6.out (zH wr ⟨F,q,none⟩ _) (fun e=>by have e:F=P:=Oj e;omega),yM m1.out (zH wr ⟨F,q,none⟩ _) (by show _<=F;omega)⟩;rw[e8.out];exact(e4.out.mono yo).kept (zH wr ⟨F,q,none⟩ _) (fun e=>by have e:F=mb:=Oj e;omega)
  obtain⟨I,hI⟩:=Nm ((numb sg).getD q 0);have h8:=qRI hin;have l5:=qNJ (hI.trans b4) hin;rw[uK hin]at H7;rw[h8]at b5;rw[<-hI]at h4;have o8:I=c:=by rw[l5];exact e9.out.symm
  have o5:c<4611686018427387904:=yo;have h9:=qNM hin;rw[<-e9.out]at h9;subst o8;replace b5:(Instr.lookup 130 (.map (some mb)) (.agg #[.int .i64 (y0:Int),.int .i64 (y1:Int),.int .i64 (y2:Int),.int .i64 (y3:Int),.int .i64 (y4:Int),.int .i64 (y5:Int),.int .i64 (y6:Int)]) true).run Tryz.prog wr=.ok (.tuple #[.int .i64 0,.bool false]) wr:=b5;have i6:=e4.out.len bS;obtain⟨H3,e8,j4,d9⟩:=Kd h4 H7 h9 h8;clear h4 H7 b4 hI hin h8 l5 h9;go_wp2_with (first|(at_mapUpdate;refine qIQ bS rfl _ _ _ rfl mb q I (numF Fs) [y0,y1,y2,y3,y4,y5,y6] I rfl rfl rfl e4.out jm p8.out o5 ?_;intro w5 a0 f7;(have c5:=Kh a0);(have g1:=Kh f7);(have fF5:=(c7.out.kept f7 (fun e=>by have e:mb=F:=Oj e;omega)).frozen q);(have cF5:=(c7.out.kept f7 (fun e=>by have e:mb=F:=Oj e;omega)).nat q (by rw[g2.out];exact hq));clear a0 f7)|fail);rw[d9.out]at c5;replace c5:=c5.out;have e5:(if (none:Option Nat).isSome=true then I else I+1)=I+1:=rfl;rw[e5,j4.out]at c5;have q1:=Kh c5;clear c5 e5;go_roundg (n-(q+1))
  case measure=>have:=h7.out;omega
  have f5:=zH w5 ⟨F,q,none⟩ (.int .i64 (I:Int));refine⟨q+1,I+1,by have:=h7.out;omega,by go_num,?_,?_,by rw[e8.out,List.length_append,<-e9.out];rfl,(n0.out.kept g1.out (fun e=>by have e:mb=g:=Oj e;omega)).kept f5 (fun e=>by have e:F=g:=Oj e;omega),zD (zD m6.out g1.out (fun e=>by have e:mb=P:=Oj e;omega)) f5 (fun e=>by have e:F=P:=Oj e;omega),yM (yM m1.out g1.out (by show _<=mb;omega)) f5 (by show _<=F;omega)⟩
  ·rw[<-H3.out]
   exact(c7.out.kept g1.out (fun e=>by have e:mb=F:=Oj e;omega)).nat_set q (by rw[g2.out];exact hq) I
  rw[e8.out];exact q1.out.kept f5 (fun e=>by have e:F=mb:=Oj e;omega)
 have b3:q=n:=by have:=h7.out;omega
 have l3:c=cls (xJ d k (m+1)):=by
  rw[hc,b3,List.take_of_length_le yo,<-j2.out,qOP]
 have i6:=H0.len bS
 have j5:Hid (Arr wr F 3 (nats (xJ d k (m+1)))):=Kh (by
  have e:vO (numb sg) q=xJ d k (m+1):=by rw[b3,<-j2.out,<-g0.out];exact tX _
  rw[<-e];exact h0)
 have j6:=Kh l3;rw[<-l3]at d8 e7;have o6:c<=n:=yo
 clear h0 H0 hc d7 b3;by_cases he:c=C
 ·have q7:=Kh (d8.out he)
  have p9:Hid ((xU d k).length=n):=Kh (by rw[uI,HN.out]);subst he;clear d8 e7 j6;go_wp2;go_ret;rw[q7.out]at j5;exact⟨F,by rw[p9.out];rfl,l6,j5.out,h3⟩
 have r9:=e7.out he;have s7:((c:Int) == (C:Int))=false:=by rw[beq_eq_false_iff_ne];omega
 have x3:=Kh he;have q4:=Kh h3;clear d8 e7 he h3;go_wp2;go_roundg (n-cls (xJ d k (m+1)))
 case measure=>have:=j6.out;have:=q9.out;omega
 exact⟨m+1,F,rfl,by have:=j6.out;omega,rfl,rfl,j5.out,l6,yo,h6,q4.out⟩
def qTI (w:World)(m:DfaV)(e:Ending)(w':World):Prop:=∃v sv,e=.returned (.tuple #[v,sv])/\rT w w' v m/\w.grownBy w' none
def gS (d:DfaV)(p:List Nat)(k q x:Nat):List Nat:=(List.range x).map (fun a=>p.getD (nx d q a) 0)++List.replicate (k-x) 0
theorem mJ (h:x<=k):(gS d p k q x).length=k:=by simp[gS];omega
theorem qKR (h:x<k):(gS d p k q x).set x (p.getD (nx d q x) 0)=gS d p k q (x+1):=by
 unfold gS;rw[List.set_append_right _ _ yq,List.range_succ,List.map_append,show k-x=(k-(x+1))+1 by omega,List.replicate_succ];simp
theorem qHC (hd:VD d n k)(hq:q<n):nats (gS d p k q k)=ints (tB p (d.next.getD q [])):=by
 have e:(gS d p k q k).map (fun(x:Nat)=>(x:Int))=tB p (d.next.getD q []):=by
  refine List.ext_getElem (by rw[List.length_map,mJ (Nat.le_refl k),tB,List.length_map,hd.row q hq]) fun i h1 h2=>?_;have hi:i<k:=by rw[List.length_map,mJ (Nat.le_refl k)]at h1;exact h1
  rw[<-zQ (d:=0) h2,iM (by rw[hd.row q hq];exact hi)];simp[gS,hi,nx,entN,ent]
 rw[<-e];simp[nats,ints]
theorem qAZ (B:Nat)(w:World)(v:Value)(d:DfaV)(n k:Nat)(hB:B<=w.heap.size)(h:rP B w v d)(hd:VD d n k)(h5:n<=512):Calls Tryz.prog 81 #[v] w (qTI w (minD (wX d k) k)):=by
 have c8:=h;obtain⟨fb,fo,fc,b,off,cap,RB,RO,RC,rfl,z2⟩:=h.at hd;have E0:=hd.n1;have E1:=hd.k6;have E2:=hd.k1;have i2:=kH hd;have z7:=(wV hd).2;obtain⟨T,hT⟩:=Nm (wX d k);obtain⟨N,hN⟩:=Nm ((yN d k).length);rw[<-hT,<-hN]at i2;rw[<-hN]at z7;rw[<-hT];have F2:=i2.n1;obtain⟨H0,o2,B7⟩:=Kc i2 hT hN;obtain⟨p,hp⟩:=Nm (xU T k);have e9:p.length=N:=by rw[hp,uI,i2.hn]
 have q6:Norm p:=by rw[hp];exact rO T k
 have f5:minD T k=wX (sV T p) k:=by rw[hp];rfl
 obtain⟨HP,c4,o7⟩:=Kc hp q6 f5;obtain⟨S,hS⟩:=Nm (st0 d);have p9:dAgg k (st0 d) fb fo fc b off cap n=.agg #[.int .i64 (k:Int),.int .i64 (S:Int),.slice (some ⟨fb,fo,none⟩) n fc,.slice (some ⟨b,off,none⟩) n cap]:=by rw[hS];rfl
 rw[p9]at c8⊢;obtain⟨b7,j6,j2,p6⟩:=rK w #[.int .i64 (k:Int),.int .i64 (S:Int),.slice (some ⟨fb,fo,none⟩) n fc,.slice (some ⟨b,off,none⟩) n cap] #[.int .i64 0,.int .i64 0,.slice none 0 0,.slice none 0 0] 29;obtain⟨wA,m7⟩:=Nm ((w.alloc (.cells #[.int .i64 (k:Int),.int .i64 (S:Int),.slice (some ⟨fb,fo,none⟩) n fc,.slice (some ⟨b,off,none⟩) n cap] 29)).alloc (.cells #[.int .i64 0,.int .i64 0,.slice none 0 0,.slice none 0 0] 29));rw[<-m7]at b7 j6 j2 p6;obtain⟨c0,c1,c2,c3⟩:=zM b7;obtain⟨P,hP⟩:=Nm w.heap.size;obtain⟨Q,hQ⟩:=Nm (w.heap.size+1);have B4:=Kh hP;have B2:Hid (Q=P+1):=Kh yo;have F1:P<Q:=yo
 have E8:Q<wA.heap.size:=yo
 have F0:w.heap.size<=P:=yo
 have A3:B<=wA.heap.size:=yo
 rw[<-hQ]at j6;rw[<-hP]at b7 c0 c1 c2 c3 hB;obtain⟨t8,t7,C1,A6⟩:=Kd b7 j6 j2 m7;have i3:=Kh (qAT B wA _ d n k A3 (c8.kept j2 yq) hd h5);clear b7 j6 j2 m7 z2 hd h c8 p9 hS p6 hP hQ hT hN hp q6 f5 i2;go_enter Tryz.func81,Tryz.ntmps81;go_upto_region 1 with fail;rw[<-A6.out,<-B4.out,<-B2.out];go_wp2_with fail;refine i3.out.mono ?_;rintro e w1 ⟨v1,G,rfl,⟨o,hs,sf,cf,sn,cn,rfl,ho,c9⟩,F5,s0,f7⟩;rw[<-o2.out]at c9⊢;have h6:T.letters=k:=H0.out.hk;have i1:T.start=0:=by rw[o2.out];rfl
 have m9:T.final.length=N:=H0.out.hn;have m8:T.next.length=N:=H0.out.nl
 have j4:rP w1.heap.size w1 (.agg #[.int .i64 (k:Int),.int .i64 0,.slice sf N cf,.slice sn N cn]) T:=by
  have:=c9.dfa;rw[h6,i1,m9,m8]at this;have e:(⟨(k:Int),0,T.final,T.next⟩:DfaV)=T:=by rw[<-h6,<-i1]
  rwa [e]at this
 rw[h6,i1,m9,m8];obtain⟨tfb,tfo,tfc,tb,toff,tcap,TRB,TRO,TRC,ev,a6⟩:=j4.at H0.out;have k8:(st0 T:Int)=0:=by rw[bQ H0.out];exact i1
 rw[dAgg,k8,Value.agg.injEq]at ev;have ev:=congrArg Array.toList ev;simp only[List.cons.injEq,Value.slice.injEq,true_and,and_true]at ev;obtain⟨⟨rfl,rfl⟩,rfl,rfl⟩:=ev;have x8:=a6.fcap;have x9:=a6.cap;unfold maxLen at x8 x9;have H7:Hid (∀W:World,w1.grownBy W none->DAt w1.heap.size W T N k tfb tfo cf tb toff cn TRB TRO TRC):=Kh (fun W hg=>a6.kept hg yq);clear a6
 obtain⟨zs,k0,k2⟩:∃zs:List Int,Arr w1 G 3 (ints zs)/\zs.length=n/\∀q,q<n->zs.getD q 0 = -1\/∃i:Nat,i<N/\zs.getD q 0=(i:Int):=⟨_,s0,uO _ _,fun q hq=>by
  rw[dW hq,qJ]
  split
  ·rename_i hm
   exact .inr ⟨_,by rw[B7.out];exact List.idxOf_lt_length_of_mem hm,rfl⟩
  exact .inl rfl⟩
 have A4:=Kh k2.2;have D2:=k2.1;obtain⟨T4,n0⟩:=Nm w1.heap.size;obtain⟨w2,k5⟩:=Nm (w1.alloc (.cells #[.int .i64 (k:Int),.int .i64 0,.slice (some ⟨tfb,tfo,none⟩) N cf,.slice (some ⟨tb,toff,none⟩) N cn] 29));have H8:=Ga w1 (.cells #[.int .i64 (k:Int),.int .i64 0,.slice (some ⟨tfb,tfo,none⟩) N cf,.slice (some ⟨tb,toff,none⟩) N cn] 29) none;have e7:=heap_alloc_new w1 (.cells #[.int .i64 (k:Int),.int .i64 0,.slice (some ⟨tfb,tfo,none⟩) N cf,.slice (some ⟨tb,toff,none⟩) N cn] 29);rw[<-k5]at H8 e7;rw[<-n0]at e7;have D5:=f7.size;have x1:=H8.size;have z4:=zS e7;have E9:Q<T4:=yo
 obtain⟨d0,d1,d2,d3⟩:=zM e7;have e4:=Kh (zD (zD t8.out f7) H8);have i7:=Kh (zD (zD t7.out f7) H8);obtain⟨t6,A8,A9⟩:=Kc e7 k5 n0;have s1:=Kh (k0.kept H8 yq);have E5:=k0.lt;have s9:=Kh (j4.kept H8 yq);have C6:=Kh (zE (zE C1.out f7) H8);have p0:=Kh H8;have t4:=Kh (qBD w1.heap.size w2 _ T N k x1 (j4.kept H8 yq) H0.out yo);clear c9 s0 h6 i1 m9 m8 j4 k0 k2 e7 k5 H8 f7 i3 t8 t7 c0 c1 c2 c3 n0;obtain⟨a0,a1,a2,a3⟩:=zM e4.out;go_upto_region 2 with fail;rw[<-A8.out,<-A9.out];go_wp2_with fail;refine t4.out.mono ?_;rintro e w3 ⟨G6,rfl,F6,h4,a4⟩;rw[<-HP.out]at h4⊢;rw[e9];have D4:=a4.size;have i9:=Kh (zD e4.out a4);have p3:=Kh (zD i7.out a4);have d9:=Kh (zD t6.out a4);have n9:=Kh (s1.out.kept a4 yq);have C7:=Kh (s9.out.kept a4 yq);have C5:=Kh (zE C6.out a4);have H6:=Kh (zE p0.out a4);have p5:=Kh h4;have A2:=h4.lt;clear t4 h4 a4 d0 d1 d2 d3 a0 a1 a2 a3 e4 i7 t6 s1 s9;obtain⟨a0,a1,a2,a3⟩:=zM i9.out;obtain⟨oQ,l5⟩:=Nm w3.heap.size;obtain⟨w5,k4⟩:=Nm (w3.alloc (.cells #[.int .i64 (k:Int),.int .i64 0,.slice none 0 0,.slice none 0 0] 29));have m0:=Ga w3 (.cells #[.int .i64 (k:Int),.int .i64 0,.slice none 0 0,.slice none 0 0] 29) none;have g0:=heap_alloc_new w3 (.cells #[.int .i64 (k:Int),.int .i64 0,.slice none 0 0,.slice none 0 0] 29);rw[<-k4]at m0 g0;rw[<-l5]at g0;have A7:=Kh k4;have B5:=Kh l5;have b3:Hid (BX w3 w5 oQ (fun _=>False) k (sH T p 0) (rS T p 0) [] none 0 none 0):=Kh (BX.start g0 yo m0);have y2:=zS g0;clear k4 l5 m0 g0;go_upto_region 4 with fail;rw[<-A7.out,<-B5.out];go_wp2_with fail
 go_loopg [8,9,10,11,12,30] N (fun gh a8 a9 a10 a11 a12 i wr=>∃(q:Nat) (X:Nat->Prop) (hs:List Value) (sf:Option Addr) (cf:Nat) (sn:Option Addr) (cn:Nat),gh+q=N/\i=.int .i64 q/\BX w3 wr oQ X k (sH T p q) (rS T p q) hs sf cf sn cn)
 case atStart=>exact⟨0,_,_,_,_,_,_,rfl,rfl,b3.out⟩
 clear b3;obtain⟨q,X,hs,sf,cf,sn,cn,H9,rfl,e6⟩:=hrel;have e8:=Kh H9;have b3:=Kh e6;have h9:=e6.grown;have d7:=Kh h9;obtain⟨d0,d1,d2,d3⟩:=zM e6.box;obtain⟨t0,t1,t2,t3⟩:=zM (zD d9.out h9);obtain⟨a0,a1,a2,a3⟩:=zM (zD i9.out h9);by_cases hq:q<N
 ·have D8:(q:Int)<N:=yo
  have cq:=(p5.out.kept h9 yq).nat q yo;obtain⟨f4,l6,y6⟩:=jM c4.out (q:=q) yo;have a7:=dR (d:=T) c4.out (show q<=p.length by omega);have h6:=dP (d:=T) c4.out (show q<=p.length by omega);obtain⟨M,hM⟩:=Nm (cls (p.take q));obtain⟨c,hc⟩:=Nm (p.getD q 0);have F3:M<=q:=by rw[hM];have:=gI (p.take q);rw[List.length_take]at this;omega
  rw[<-hM]at a7 h6 f4 l6;rw[<-hc]at cq f4 l6;obtain⟨HM,HC,j9,o1⟩:=Kd hM hc a7 h6;rw[a7]at d2;rw[h6]at d3;clear H9 e6 h9 l6 y6 hM hc a7 h6;by_cases m4:c<M
  ·have f9:(c:Int)<M:=yo
   have e1:Hid (sH T p (q+1)=sH T p q/\rS T p (q+1)=rS T p q):=Kh (by
    have:p.getD q 0≠cls (p.take q):=by rw[<-HC.out,<-HM.out];omega
    exact⟨qGN this,qGL this⟩)
   go_wp2;go_roundg (N-(q+1))
   case measure=>have:=e8.out;omega
   exact⟨q+1,X,hs,sf,cf,sn,cn,by have:=e8.out;omega,by go_num,by rw[e1.out.1,e1.out.2];exact b3.out⟩
  have z0:c=M:=yo
  have f9:¬(c:Int)<M:=yo
  have e1:Hid (sH T p (q+1)=sH T p q++[T.final.getD q false]/\rS T p (q+1)=rS T p q++[tB p (T.next.getD q [])]):=Kh (by
   have:p.getD q 0=cls (p.take q):=by rw[<-HC.out,<-HM.out];exact z0
   exact⟨qGO this,qGM this⟩)
  have i0:=H7.out wr (zE H6.out d7.out);have H1:=i0.rcap q hq;have l1:=H1.1;have l0:TRC q<=9223372036854775807:=by have:=H1.2;unfold maxLen at this;omega
  obtain⟨rb,l3⟩:=Nm (TRB q);obtain⟨ro,k9⟩:=Nm (TRO q);obtain⟨rc,l2⟩:=Nm (TRC q);have s6:Hid (∀W:World,w3.grownBy W none->W.cell? ⟨tb,toff+q,none⟩=some (.slice (some ⟨rb,ro,none⟩) k rc)):=Kh (fun W hg=>by rw[l3,k9,l2];exact(H7.out W (zE H6.out hg)).hd q hq);have s8:Hid (∀W:World,w3.grownBy W none->∀a,a<k->W.cell? ⟨rb,ro+a,none⟩=some (.int .i64 ((nx T q a:Nat):Int))):=Kh (fun W hg a ha=>by rw[l3,k9];exact(H7.out W (zE H6.out hg)).el q a hq ha);have i5:Hid (∀W:World,w3.grownBy W none->W.cell? ⟨tfb,tfo+q,none⟩=some (.bool (T.final.getD q false))):=Kh (fun W hg=>(H7.out W (zE H6.out hg)).fin hq);rw[<-l2]at l1 l0;clear i0 H1 l3 k9 l2;go_wp2_with (first|(at_make;refine pL rfl _ _ _ rfl yJ rfl .i64 .i64 _ _ k rfl rfl rfl rfl ?b1 ?b2 ?_;(case b1=>omega);(case b2=>(unfold maxLen;omega));intro w7 h0 e5 l8;(obtain⟨u0,u1,u2,u3⟩:=zM (zD (zD d9.out d7.out) e5));(have chd:=s6.out _ (zE d7.out e5)))|fail);obtain⟨g,hg⟩:=Nm wr.heap.size;rw[<-hg]at h0 l8⊢
  have p4:Hid (Arr w7 g 3 (nats (gS T p k q 0))):=Kh (by
   rw[show gS T p k q 0=List.replicate k 0 by simp[gS],yW];exact h0)
  have i6:=Kh (b3.out.grow e5);have q8:∀j,X j->j<g:=fun j hj=>by have:=b3.out.lt j hj;omega
  have B8:=Kh q8;have E7:oQ<g:=(by have:=zS b3.out.box;omega);have m1:w3.heap.size<=g:=by have:=d7.out.size;omega
  have C2:=Kh (zE d7.out e5);have F7:=Kh e5.size;have E6:wr.heap.size<=g:=yo
  clear h0 e5 q8 hg d0 d1 d2 d3 t0 t1 t2 t3 a0 a1 a2 a3 u0 u1 u2 u3 chd cq
  go_loopg [11,12,49] k (fun gh a11 a12 i wr=>∃x:Nat,gh+x=k/\i=.int .i64 x/\Arr wr g 3 (nats (gS T p k q x))/\w7.grownBy wr (some g))
  case atStart=>exact⟨0,rfl,rfl,p4.out,zX _ _⟩
  obtain⟨x,H9,rfl,h0,h9⟩:=hrel;obtain⟨d8,HA,o9⟩:=Kc H9 h0 h9;have h3:=yM C2.out h9 (by show _<=g;omega);have C4:=Kh h3;clear H9;by_cases hx:x<k
  ·have D7:(x:Int)<k:=yo
   have cel:=s8.out wr h3 x hx;have x4:=mF H0.out hq hx;obtain⟨y,hy⟩:=Nm (nx T q x);rw[<-hy]at cel x4;have x3:(y:Int)<N:=yo;have cy:=(p5.out.kept h3 yq).nat y yo;have c6:=qKR (d:=T) (p:=p) (q:=q) hx;rw[<-hy]at c6;have o4:=Kh c6;have s5:=Kh (mJ (d:=T) (p:=p) (q:=q) (k:=k) (x:=x) yo);have ck:=h0.nat x (by rw[s5.out];exact hx);have fk:=h0.frozen x;obtain⟨z,hz⟩:=Nm (p.getD y 0);rw[<-hz]at cy;have HZ:=Kh hz;clear c6 hz hy h0 h9 h3;go_wp2;go_roundg (k-(x+1))
   case measure=>have:=d8.out;omega
   exact⟨x+1,by have:=d8.out;omega,by go_num,by rw[<-o4.out,<-HZ.out];exact HA.out.nat_set x (by rw[s5.out];exact hx) z,zI o9.out (zH wr ⟨g,x,none⟩ _)⟩
  have x5:x=k:=by have:=d8.out;omega
  subst x5;obtain⟨cur,rest,f8,_⟩:=p4.out;have z3:¬X g:=fun hx=>by have:=B8.out g hx;omega
  have H3:=i6.out.put h9 f8 z3 m1;have p2:=Kh H3;have t9:Hid (Arr wr g 3 (ints (tB p (T.next.getD q [])))):=Kh (by rw[<-qHC H0.out hq];exact h0);obtain⟨d0,d1,d2,d3⟩:=zM H3.box;have fz2:=zB H3.box 2;have d5:=zD d9.out h3;obtain⟨t0,t1,t2,t3⟩:=zM d5;have cfin:=i5.out wr h3;have z5:=zS d5;have y3:=zS H3.box
  have x7:tfb<wr.heap.size:=by
   have:=(H7.out wr (zE H6.out h3)).frow.1;exact this
  rw[j9.out]at d2;rw[o1.out]at d3;obtain⟨bf,m5⟩:=Nm (T.final.getD q false);rw[<-m5]at cfin;have C9:=Kh m5;have o5:Hid (∀W1:World,wr.grownBy W1 none->W1.ownsRow oQ 4 1 (.slice sf M cf) M (bls (sH T p q))/\oQ<=W1.heap.size):=Kh (fun W1 hg=>⟨by have:=zZ p2.out.ownF hg;rwa [j9.out]at this,by have:=hg.size;omega⟩)
  have b9:Hid (∀(W1 w':World) (sf':Option Addr) (cf':Nat),w'.ownsRow oQ 4 1 (.slice sf' (M+1) cf') (M+1) (bls (sH T p q)++[.bool bf])->W1.grownBy w' (Value.slice sf M cf).ownBlock->wr.grownBy W1 none ->
    BX w3 (w'.setCell ⟨oQ,2,none⟩ (.slice sf' (M+1) cf')) oQ X x (sH T p q++[bf]) (rS T p q) hs sf' cf' sn cn/\Arr (w'.setCell ⟨oQ,2,none⟩ (.slice sf' (M+1) cf')) g 3 (ints (tB p (T.next.getD q [])))/\w'.frozen? ⟨oQ,2,none⟩=false/\w'.cell? ⟨oQ,2,none⟩=some (.slice sf M cf)):=Kh (fun W1 w' sf' cf' ho hg h1=>by
   have n2:=p2.out.grow h1;have n8:=n2.ownF;have m6:=n2.box;rw[j9.out]at n8 m6;have b7:=zD m6 hg (zR n8 m6 jd);have hp:=n2.pushF (b:=bf) j9.out ho hg rfl;have r6:=t9.out.kept h1 yq;obtain⟨cg,rg,y9,_⟩:=id r6
   exact⟨hp,(r6.kept hg (zR n8 y9 jd)).kept (zH w' ⟨oQ,2,none⟩ _) (fun e=>by have e:oQ=g:=Oj e;omega),zB b7 2,(zM b7).2.2.1⟩)
  obtain⟨wo,rfl⟩:=Nm (wr:World);clear f8 H3 h0 h9 h3 d5 m5 p4;go_wp2_with fail
  go_region_law (first|(refine mB ?g1 (.tmp 63) (.tmp 69) 26 ?g2 xK oQ (.slice sf M cf) M (bls (sH T p q)) ?g3 ?g4 (.bool bf) wo.heap.size (0,0) ?g5 ?g6 ?g7 ?g8 ?g9 ?g10 ?_;(case g1=>rfl);(case g2=>rfl);(case g3=>rfl);(case g4=>(refine(o5.out _ ?_).1;exact qV (o:=.cells #[.bool bf] 4) rfl rfl rfl rfl));(case g5=>rfl);(case g6=>exact heap_alloc_new (wo.drew) _);(case g7=>rfl);(case g8=>(unfold maxLen;omega));(case g9=>omega);(case g10=>(refine(o5.out _ ?_).2;exact qV (o:=.cells #[.bool bf] 4) rfl rfl rfl rfl));intro sf8 cf8 w8 b4 q9;have j0:=b9.out _ _ _ _ b4 q9 (qV (o:=.cells #[.bool bf] 4) rfl rfl rfl rfl);have m2:=j0.2.2.1;have m3:=j0.2.2.2;have j8:=Kh j0;clear j0 b4 q9)|fail)
  all_goals
   clear b9 o5 m2 m3 d0 d1 d2 d3 fz2 t0 t1 t2 t3 cfin p2 t9 i6 b3 s6 s8 i5;obtain⟨w9,p8⟩:=Nm (w8.setCell ⟨oQ,2,none⟩ (.slice sf8 (M+1) cf8));rw[<-p8]at j8⊢;have H4:=j8.out.1;have x0:=Kh j8.out.2.1;have j7:=Kh H4;have n6:=H4.ownN;obtain⟨d0,d1,d2,d3⟩:=zM H4.box;rw[o1.out]at d3 n6;have s4:=Kh n6;have y1:=zS H4.box;clear p8 j8 H4 n6;go_wp2_with (first|(at_builtin;refine iE rfl _ _ _ rfl xT oQ (.slice sn M cn) M hs rfl s4.out (.slice (some ⟨g,0,none⟩) x x) rfl rfl ?a1 ?a2 ?a3 ?_;(case a1=>(unfold maxLen;omega));(case a2=>omega);(case a3=>omega);intro sn6 cn6 w10 b5 l9 D3 l7;(have B6:=Kh b5);(have C3:=Kh l9);(have r5:=zD j7.out.box l9 (zR s4.out j7.out.box jd));(obtain⟨e0,e1',e2,e3⟩:=zM r5);(have fz6:=zB r5 3);clear b5 l9 l7)|fail);go_roundg (N-(q+1))
   case measure=>have:=e8.out;omega
   have hp:=j7.out.pushN (Y:=fun j=>X j\/j=g) o1.out (fun j hj=>.inl hj) (fun j hj=>by
    rcases hj with hj|rfl
    ·exact j7.out.lt j hj
    exact x0.out.lt) B6.out C3.out (RowX.of_arr x0.out (by rw[zL,tB,List.length_map,H0.out.row q hq]) jm (.inr rfl)) rfl
   rw[C9.out,<-e1.out.1,<-e1.out.2]at hp;exact⟨q+1,_,_,_,_,_,_,by have:=e8.out;omega,by go_num,hp⟩
 have l4:q=N:=by have:=e8.out;omega
 have a7:(sH T p q).length=cls p:=by rw[dR c4.out yo,l4,<-e9,List.take_length]
 have h6:(rS T p q).length=cls p:=by rw[dP c4.out yo,l4,<-e9,List.take_length]
 have q5:(⟨(k:Int),0,sH T p q,rS T p q⟩:DfaV)=sV T p:=by
  have:=qJH (d:=T) (p:=p) (q:=q) yo (by
   have e:st0 T=0:=by rw[o2.out];rfl
   rw[e];exact qJZ c4.out)
  rw[<-this,H0.out.hk]
 have j3:=(e6.built (a7.trans h6.symm)).dfa;rw[q5,a7,h6]at j3;obtain⟨M,hM⟩:=Nm (cls p);have F4:M<=N:=by rw[hM,<-e9];exact gI p
 have q4:VD (sV T p) M k:=(by rw[hM];exact qDE H0.out e9 c4.out);rw[<-hM]at j3;rw[a7,<-hM]at d2;rw[h6,<-hM]at d3;have B3:Hid (∀i,i<N->p.getD i 0<M):=Kh (fun i hi=>by rw[hM];exact pF c4.out yo);have i3:=Kh (qAT wr.heap.size wr _ (sV T p) M k (Nat.le_refl _) j3 q4 yo);have C0:Hid (w.grownBy wr none):=Kh (zE C5.out h9);clear H9 e6 a7 h6 q5 j3 q4 hM l4 e8 t0 t1 t2 t3 a0 a1 a2 a3;go_wp2_with fail;refine i3.out.mono ?_;rintro e wt ⟨vt,Gt,rfl,⟨ot,y0,sft,cft,snt,cnt,rfl,D9,j5⟩,z8,b8,j1⟩;rw[<-o7.out]at j5⊢;obtain⟨R,hR⟩:=Nm (minD T k);rw[<-hR]at j5⊢;have n4:R.letters=k:=by rw[hR];exact(cJ H0.out).hk
 have n3:R.start=0:=by rw[hR];rfl
 obtain⟨FL,n7⟩:=Nm R.final.length;obtain⟨NL,n5⟩:=Nm R.next.length;rw[n4,n3,<-n7,<-n5];obtain⟨ys,k3,D6⟩:∃ys:List Int,Arr wt Gt 3 (ints ys)/\ys.length=M:=⟨_,b8,uO _ _⟩;obtain⟨s3,B1,B0,p1,o6,C8⟩:=Kf hR n4 n3 n7 n5 j5;have A5:=Kh k3;have B9:=Kh (zE C0.out j1);have o8:=Kh (zE d7.out j1);obtain⟨T13,d6⟩:=Nm wt.heap.size;obtain⟨w13,c5⟩:=Nm (wt.alloc (.cells #[.int .i64 (k:Int),.int .i64 0,.slice sft FL cft,.slice snt NL cnt] 29));have a5:=Ga wt (.cells #[.int .i64 (k:Int),.int .i64 0,.slice sft FL cft,.slice snt NL cnt] 29) none;have H5:=heap_alloc_new wt (.cells #[.int .i64 (k:Int),.int .i64 0,.slice sft FL cft,.slice snt NL cnt] 29);rw[<-c5]at a5 H5;rw[<-d6]at H5;have D1:=d7.out.size;have D0:=j1.size;have x2:=a5.size;have r7:=zS H5;have y7:=k3.lt;obtain⟨i8,o0,o3,h8⟩:=Kd H5 c5 d6 a5;have z6:Q<T13:=yo;have r8:w3.heap.size<=T13:=yo
 clear hR n4 n3 n7 n5 j5 b8 k3 j1 H5 c5 d6 a5 d0 d1 d2 d3 b3 i3;go_upto_region 18 with fail;rw[<-o0.out,<-o3.out];go_wp2_with (first|(at_make;refine pL rfl _ _ _ rfl yJ rfl .i64 .i64 _ _ n rfl rfl rfl rfl ?b1 ?b2 ?_;(case b1=>omega);(case b2=>(unfold maxLen;omega));intro ws h0 q7 f6)|fail);obtain⟨Gs,r9⟩:=Nm w13.heap.size;rw[<-r9]at h0 f6⊢;have s2:Hid (Arr ws Gs 3 (ints (List.replicate n 0))):=Kh (by simpa [pS] using h0);have A1:T13<Gs:=yo;have z9:Gt<Gs:=yo;have s7:=Kh q7;have A0:w13.heap.size<=Gs:=yo
 clear h0 q7 r9 f6
 go_loopg [16,17,89] n (fun gh a16 a17 i wr=>∃(j:Nat) (vs:List Int),gh+j=n/\i=.int .i64 j/\vs.length=n/\Arr wr Gs 3 (ints vs)/\w13.grownBy wr none)
 case atStart=>exact⟨0,_,rfl,rfl,yq,s2.out,s7.out⟩
 clear s2 s7;obtain⟨j,vs,H9,rfl,k7,h0,h2⟩:=hrel;obtain⟨b0,HA,i4⟩:=Kc H9 h0 h2;have H2:=zE (zE o8.out h8.out) h2;clear H9;by_cases hj:j<n
 ·have E3:(j:Int)<n:=yo
  have cz:=(n9.out.kept H2 yq).int j yo;have cs:=h0.int j yo;have fs:=h0.frozen j;have b6:=A4.out j hj;obtain⟨z,hz⟩:=Nm (zs.getD j 0);rw[<-hz]at cz b6;have x6:(ints vs).length=n:=by rw[zL,k7]
  rcases b6 with rfl|⟨i,hi,rfl⟩
  ·clear hz h0 h2 H2
   go_wp2;go_roundg (n-(j+1))
   case measure=>have:=b0.out;omega
   exact⟨j+1,vs.set j (-1),by have:=b0.out;omega,by go_num,by rw[List.length_set,k7],HA.out.int_set j yo (-1),yM i4.out (zH wr ⟨Gs,j,none⟩ _) (by show _<=Gs;omega)⟩
  have E4:(i:Int)<N:=yo
  have cp:=(p5.out.kept H2 yq).nat i yo;have m4:=B3.out i hi;obtain⟨c,hc⟩:=Nm (p.getD i 0);rw[<-hc]at cp m4;have f9:(c:Int)<M:=yo;have cy:=((A5.out.kept h8.out yq).kept h2 yq).int c yo;obtain⟨y,hy⟩:=Nm (ys.getD c 0);rw[<-hy]at cy;have F8:=Kh (And.intro hi m4);clear hz hc hy h0 h2 H2;have y5:G6≠Gs:=yo;have y4:Gt≠Gs:=yo;go_wp2;go_roundg (n-(j+1))
  case measure=>have:=b0.out;omega
  exact⟨j+1,(vs.set j (-1)).set j y,by have:=b0.out;omega,by go_num,by rw[List.length_set,List.length_set,k7],(HA.out.int_set j yo (-1)).int_set j (by rw[List.length_set];omega) y,yM (yM i4.out (zH wr ⟨Gs,j,none⟩ _) (by show _<=Gs;omega)) (zH (wr.setCell ⟨Gs,j,none⟩ (.int .i64 (-1))) ⟨Gs,j,none⟩ _) (by show _<=Gs;omega)⟩
 obtain⟨e0,e1,e2,e3⟩:=zM (zD i8.out h2);have d4:=zD p3.out H2;obtain⟨q0,q1,q2,q3⟩:=zM d4;have f0:=zB d4 0;have f1:=zB d4 1;have f2:=zB d4 2;have f3:=zB d4 3;have t5:=Kh d4;clear d4;go_wp2;obtain⟨r4,c7⟩:=vS t5.out (.int .i64 (k:Int)) (.int .i64 0) (.slice sft FL cft) (.slice snt NL cnt);obtain⟨wz,p7⟩:=Nm ((((wr.setCell ⟨Q,0,none⟩ (.int .i64 (k:Int))).setCell ⟨Q,1,none⟩ (.int .i64 0)).setCell ⟨Q,2,none⟩ (.slice sft FL cft)).setCell ⟨Q,3,none⟩ (.slice snt NL cnt));rw[<-p7]at r4 c7⊢;clear p7;obtain⟨r0,r1,r2,r3⟩:=zM r4;clear e0 e1 e2 e3 q0 q1 q2 q3 f0 f1 f2 f3;refine bodyPost_ret (v:=.tuple #[.agg #[.int .i64 (k:Int),.int .i64 0,.slice sft FL cft,.slice snt NL cnt],.slice (some ⟨Gs,0,none⟩) n n]) (by simp[results,Tryz.results81,go_sem,r0,r1,r2,r3]) rfl ?_;have y8:w.grownBy wz none:=zE (zE (zE B9.out h8.out) h2) c7 (fun k e=>by have h7:Q=k:=Oj e;omega);have z1:=((C8.out.grow h8.out).grow h2).far c7 t5.out yo;refine⟨_,_,rfl,⟨ot,y0,sft,cft,snt,cnt,?_,yo,by rw[<-s3.out];exact z1⟩,y8⟩;rw[<-s3.out,B0.out,B1.out,p1.out,o6.out]
end Go.Proofs.YtiknckajkdlppaaGreat
namespace Go.Proofs.YtiknckajkdlppaaGreat
open Go.RowKit
variable{Q:Exit->Act->World->Prop}{v1 v2 v4 v5 v8 v9 i4 i5 i6 i7 i8 i9 g0 g1 g2 g3 g4 g5 g6 g7 g8 g9 f0 f2 f3 f4 f5 f6 f7 f8 f9 e0 e1 e2 e3 e4 e5 k4 k5 k6 k7 k8 k9 j0 j1 j2 j3 j4 j5 j6 j7 j8 j9 i0 i1 i2 i3 e6 e7 e8 e9 d0 d2 d6 d7 d8 d9 c0 c6 c7 c8 c9 b0 b1 b2 b3 b4 b5 b6 b7 b8 b9 a0 a1 a2 a3 a8:Value}{w0 we w:World}{B o gb k mx:Nat}
theorem qNC (B:Nat)(w:World)(v:Value)(d:DfaV)(n k:Nat)(hB:B<=w.heap.size)(h:rP B w v d)(hd:VD d n k)(h5:n<=512):Calls Tryz.prog 69 #[v] w (qSD w (minD d k)):=by
 have h0:=h;obtain⟨fb,fo,fc,b,off,cap,RB,RO,RC,rfl,b6⟩:=h.at hd;obtain⟨S,hS⟩:=Nm (st0 d);have a7:dAgg k (st0 d) fb fo fc b off cap n=.agg #[.int .i64 (k:Int),.int .i64 (S:Int),.slice (some ⟨fb,fo,none⟩) n fc,.slice (some ⟨b,off,none⟩) n cap]:=by rw[hS];rfl
 rw[a7]at h0⊢;obtain⟨h4,H1,h6,a5⟩:=rK w #[.int .i64 (k:Int),.int .i64 (S:Int),.slice (some ⟨fb,fo,none⟩) n fc,.slice (some ⟨b,off,none⟩) n cap] #[.int .i64 0,.int .i64 0,.slice none 0 0,.slice none 0 0] 29;obtain⟨wA,H4⟩:=Nm ((w.alloc (.cells #[.int .i64 (k:Int),.int .i64 (S:Int),.slice (some ⟨fb,fo,none⟩) n fc,.slice (some ⟨b,off,none⟩) n cap] 29)).alloc (.cells #[.int .i64 0,.int .i64 0,.slice none 0 0,.slice none 0 0] 29));rw[<-H4]at h4 H1 h6 a5;obtain⟨c0,c1,c2,c3⟩:=zM h4;obtain⟨P,hP⟩:=Nm w.heap.size;obtain⟨Q,hQ⟩:=Nm (w.heap.size+1);have c9:=Kh hP;have c8:Hid (Q=P+1):=Kh yo;have f4:P<Q:=yo
 have e7:Q<wA.heap.size:=yo
 have e9:w.heap.size<=P:=yo
 have b7:B<=wA.heap.size:=yo
 rw[<-hQ]at H1;rw[<-hP]at h4 c0 c1 c2 c3 hB;obtain⟨d9,d8,d4,b8,HD⟩:=Ke h4 H1 h6 H4 hd;have a2:=Kh (h0.kept h6 yq);have a9:=Kh (qM B wA _ d b7 a2.out);have c4:=Kh (kW hd h5);clear h4 H1 h6 H4 b6 hd h h0 a7 hS a5 hP hQ;go_enter Tryz.func69,Tryz.ntmps69;go_upto_region 1 with fail;rw[<-b8.out,<-c9.out,<-c8.out];go_wp2_with fail;refine a9.out.mono ?_;rintro e w1 ⟨rfl,h2⟩;rw[c4.out];have e6:=h2.size;have d6:=Kh h2;have a4:=Kh (zD d9.out h2);have a3:=Kh (zD d8.out h2);have b1:=Kh (qAZ B w1 _ d n k yo (a2.out.kept h2 yq) HD.out h5);obtain⟨d0,d1,d2,d3⟩:=zM a4.out;clear h2 a9 c0 c1 c2 c3;go_wp2_with fail;refine b1.out.mono ?_;rintro e w2 ⟨v2,sv,rfl,⟨o,hs,sf,cf,sn,cn,rfl,ho,h9⟩,h8⟩;rw[qNR HD.out]at h9⊢;obtain⟨R,hR⟩:=Nm (minD d k);rw[<-hR]at h9⊢;have H7:R.letters=k:=by rw[hR];exact(cJ HD.out).hk
 have H6:R.start=0:=by rw[hR];rfl
 obtain⟨FL,H9⟩:=Nm R.final.length;obtain⟨NL,H8⟩:=Nm R.next.length;rw[H7,H6,<-H9,<-H8];obtain⟨b0,c7,c6,a1,a0,d7⟩:=Kf hR H7 H6 H9 H8 h9;have d5:=Kh h8;obtain⟨T3,H5⟩:=Nm w2.heap.size;obtain⟨w3,H2⟩:=Nm (w2.alloc (.cells #[.int .i64 (k:Int),.int .i64 0,.slice sf FL cf,.slice sn NL cn] 29));have h3:=Ga w2 (.cells #[.int .i64 (k:Int),.int .i64 0,.slice sf FL cf,.slice sn NL cn] 29) none;have H0:=heap_alloc_new w2 (.cells #[.int .i64 (k:Int),.int .i64 0,.slice sf FL cf,.slice sn NL cn] 29);rw[<-H2]at h3 H0;rw[<-H5]at H0;have e5:=h8.size;have e4:=h3.size;obtain⟨b9,c5,b2⟩:=Kc H2 H5 h3;have h1:=zD (zD a3.out h8) h3;have b3:=Kh h1;obtain⟨e0,e1,e2,e3⟩:=zM H0;obtain⟨q0,q1,q2,q3⟩:=zM h1;have f0:=zB h1 0;have f1:=zB h1 1;have f2:=zB h1 2;have f3:=zB h1 3;have e8:Q<T3:=yo
 clear hR H7 H6 H9 H8 h9 h8 H2 H5 h3 H0 h1 d0 d1 d2 d3 b1 a2;go_upto_region 4 with fail;rw[<-b9.out,<-c5.out];go_wp2;obtain⟨a8,H3⟩:=vS b3.out (.int .i64 (k:Int)) (.int .i64 0) (.slice sf FL cf) (.slice sn NL cn);obtain⟨wz,a6⟩:=Nm ((((w3.setCell ⟨Q,0,none⟩ (.int .i64 (k:Int))).setCell ⟨Q,1,none⟩ (.int .i64 0)).setCell ⟨Q,2,none⟩ (.slice sf FL cf)).setCell ⟨Q,3,none⟩ (.slice sn NL cn));rw[<-a6]at a8 H3⊢;clear a6;obtain⟨r0,r1,r2,r3⟩:=zM a8;clear e0 e1 e2 e3 q0 q1 q2 q3 f0 f1 f2 f3;refine bodyPost_ret (v:=.agg #[.int .i64 (k:Int),.int .i64 0,.slice sf FL cf,.slice sn NL cn]) (by simp[results,Tryz.results69,go_sem,r0,r1,r2,r3]) rfl ?_;have b4:w.grownBy wz none:=zE (zE (zE (zE d4.out d6.out) d5.out) b2.out) H3 (fun k e=>by have h7:Q=k:=Oj e;omega);have b5:=(d7.out.grow b2.out).far H3 b3.out yo;refine⟨_,rfl,⟨o,hs,sf,cf,sn,cn,?_,yo,by rw[<-b0.out];exact b5⟩,b4⟩;rw[<-b0.out,c6.out,c7.out,a1.out,a0.out]
def qQG:DfaV:=⟨0,0,[],[]⟩
open Go.Maps
inductive SysG (w0 we:World)(B o gb k a q r:Nat)(done:List (List Nat))(cur:List Nat)(w:World):Prop
 | mk (X:Nat->Prop) (hsD:List Value) (sR:Option Addr) (cR:Nat) (hB:BoxS B X o 101 w0 w (⟨B,22,.slice (some ⟨gb,0,none⟩) k k,k,hsD++.slice sR q cR::List.replicate r (.slice none 0 0),1⟩::⟨B,3,.slice sR q cR,q,nats cur,1⟩::[]) #[.slice (some ⟨gb,0,none⟩) k k,.slice none 0 0,.int .i64 ((0:Nat):Int)] w) (hD:xX X 3 nats w hsD done) (hl:hsD.length=a/\done.length=a/\a+1+r=k/\cur.length=q) (hG:we.grownBy w (some o)) (hgb:we.heap.size<=gb) (hB0:we.heap.size<=B)
theorem qQS {l6 l7 l8 l9 k0 k1 k2 k3 c1 c2 a7:Value}{a q r n nb no nc rb ro rc y:Nat}{done:List (List Nat)}{a9:List Nat}(h:SysG w0 we B o gb k a q r done a9 w)(l3:k<=6)(hq:q<n)(hn:n<=32)(l5:y<32)(c3:w.cell? ⟨mx,3,none⟩=some (.slice (some ⟨nb,no,none⟩) n nc))(c4:w.cell? ⟨nb,no+q,none⟩=some (.slice (some ⟨rb,ro,none⟩) k rc))(c5:w.cell? ⟨rb,ro+a,none⟩=some (.int .i64 (y:Int)))(a4:n<=nc/\nc<=maxLen)(a5:k<=rc/\rc<=maxLen)(l4:mx<we.heap.size/\nb<we.heap.size/\rb<we.heap.size)(a6:∀(z41 z42 z43 z44 z45 z46 z47 z48 z49 z50 z51 z52 z53 z54 z55 z56 z57 z58 z59 z60 z61 z62 z63 z64 z65 z66 z67 z68:Value) (w':World),SysG w0 we B o gb k a (q+1) r done (a9++[y]) w'->Q .normal ⟨((Value.pointer (some ⟨o,0,none⟩))::v1::v2::(Value.pointer (some ⟨mx,0,none⟩))::v4::v5::(Value.int .i64 (a:Int))::(Value.int .i64 (q:Int))::v8::v9::i4::i5::i6::i7::i8::i9::g0::g1::g2::g3::g4::g5::g6::g7::g8::g9::f0::f2::f3::f4::f5::f6::f7::f8::f9::e0::e1::e2::e3::e4::e5::z41::z42::z43::z44::z45::z46::z47::z48::z49::z50::z51::z52::z53::z54::z55::z56::z57::z58::z59::z60::z61::z62::z63::z64::z65::z66::z67::z68::e6::e7::e8::e9::d0::d2::d6::d7::d8::d9::c0::c1::c2::c6::c7::c8::c9::b0::b1::b2::b3::b4::b5::b6::b7::b8::b9::a0::a1::a2::a3::a7::a8::[]).toArray,[]⟩ w'):Code.wp Tryz.prog (reg Tryz.f68 12) Q ⟨((Value.pointer (some ⟨o,0,none⟩))::v1::v2::(Value.pointer (some ⟨mx,0,none⟩))::v4::v5::(Value.int .i64 (a:Int))::(Value.int .i64 (q:Int))::v8::v9::i4::i5::i6::i7::i8::i9::g0::g1::g2::g3::g4::g5::g6::g7::g8::g9::f0::f2::f3::f4::f5::f6::f7::f8::f9::e0::e1::e2::e3::e4::e5::l6::l7::l8::l9::k0::k1::k2::k3::k4::k5::k6::k7::k8::k9::j0::j1::j2::j3::j4::j5::j6::j7::j8::j9::i0::i1::i2::i3::e6::e7::e8::e9::d0::d2::d6::d7::d8::d9::c0::c1::c2::c6::c7::c8::c9::b0::b1::b2::b3::b4::b5::b6::b7::b8::b9::a0::a1::a2::a3::a7::a8::[]).toArray,[]⟩ w:=by
 obtain⟨X,h2,sR,cR,hB,hD,⟨H7,n2,n1,n0⟩,hG,n3,m3⟩:=h;have n5:a<k:=yo
 have H5:=hB.own (r:=⟨B,22,.slice (some ⟨gb,0,none⟩) k k,k,h2++.slice sR q cR::List.replicate r (.slice none 0 0),1⟩) yq;simp only at H5;have H2:=Arr.of_owns H5;have h1:∀W:World,w.grownBy W none->W.cell? ⟨gb,a,none⟩=some (.slice sR q cR):=fun W hg=>zN (pI H2 (by rw[List.getElem?_append_right yo,H7,Nat.sub_self];rfl)) hg
 have o3:gb≠o:=fun e=>by
  obtain⟨_,_,hb,_⟩:=H2;have:=hB.box;rw[<-e,hb]at this;simp at this
 obtain⟨HS,HD,HG,o0⟩:=Kd hB hD hG H2
 have m5:Hid (∀W:World,w.grownBy W none->W.cell? ⟨o,0,none⟩=some (.slice (some ⟨gb,0,none⟩) k k)/\W.cell? ⟨gb,a,none⟩=some (.slice sR q cR)/\W.cell? ⟨o,2,none⟩=some (.int .i64 ((0:Nat):Int))/\W.cell? ⟨mx,3,none⟩=some (.slice (some ⟨nb,no,none⟩) n nc)/\W.cell? ⟨nb,no+q,none⟩=some (.slice (some ⟨rb,ro,none⟩) k rc)/\W.cell? ⟨rb,ro+a,none⟩=some (.int .i64 (y:Int))):=Kh (fun W hg=>by
  have hb:=(HS.out.grow hg).box;have q0:=zJ hb 0;have q2:=zJ hb 2;simp only[sPd,sPe,sPf]at q0 q2
  exact⟨q0,h1 W hg,q2,zN c3 hg,zN c4 hg,zN c5 hg⟩)
 have n4:(a:Int)<k:=yo
 have o2:(q:Int)<n:=yo
 have m9:=a4.1;have m7:=a5.1;have m8:nc<=9223372036854775807:=by have:=a4.2;unfold maxLen at this;omega
 have m6:rc<=9223372036854775807:=by have:=a5.2;unfold maxLen at this;omega
 clear hB hD hG H5 H2 h1 c3 c4 c5 a4 a5;have o1:IntKind.i64.wrap (y:Int)=y:=wK yo
 conv=>arg 2;whnf
 obtain⟨w7,H3⟩:=Nm w.drew;have m2:w.grownBy w7 none:=by rw[H3];exact zY w none
 have n7:=Kh H3;have l0:=Kh m2;clear H3 m2;refine wp_region_noPanic ?_;refine yI (G:=xM 28 (fun _=>True) (fun W=>W.cell? ⟨o,0,none⟩=some (.slice (some ⟨gb,0,none⟩) k k)/\W.cell? ⟨gb,a,none⟩=some (.slice sR q cR)/\W.cell? ⟨o,2,none⟩=some (.int .i64 ((0:Nat):Int))/\W.cell? ⟨mx,3,none⟩=some (.slice (some ⟨nb,no,none⟩) n nc)/\W.cell? ⟨nb,no+q,none⟩=some (.slice (some ⟨rb,ro,none⟩) k rc)/\W.cell? ⟨rb,ro+a,none⟩=some (.int .i64 (y:Int)))) yk ?_;rw[<-n7.out];have m4:Hid (BoxS B X o 101 w0 w (⟨B,22,.slice (some ⟨gb,0,none⟩) k k,k,h2++.slice sR q cR::List.replicate r (.slice none 0 0),1⟩::⟨B,3,.slice sR q cR,q,nats a9,1⟩::[]) #[.slice (some ⟨gb,0,none⟩) k k,.slice none 0 0,.int .i64 ((0:Nat):Int)] w7):=Kh (HS.out.grow l0.out);have C:=Kh (m5.out w7 l0.out);refine zP 0 ?_;refine zP 1 ?_;refine zP 2 ?_;refine xD 3 ?_;refine zP 4 ?_;refine zP 5 ?_;refine zP 6 ?_;refine zP 7 ?_;refine xD 8 ?_;refine zP 9 ?_;refine zP 10 ?_;refine xD 11 ?_;refine zP 12 ?_;refine zP 13 ?_;refine zP 14 ?_;refine xD 15 ?_;refine zP 16 ?_;refine xD 17 ?_;refine zP 18 ?_;refine zP 19 ?_;refine xD 20 ?_;refine zP 21 ?_;refine zP 22 ?_;refine xD 23 ?_;refine zP 24 ?_;refine jg 25 fun K hK=>?_;go_simp;have H0:=heap_alloc_new w7 (.cells #[Value.int .i64 (y:Int)] 3);have H1:=Ga w7 (.cells #[Value.int .i64 (y:Int)] 3) none;obtain⟨gR,m1⟩:=Nm w7.heap.size;obtain⟨w9,l2⟩:=Nm (w7.alloc (.cells #[Value.int .i64 (y:Int)] 3));rw[<-m1]at H0⊢;rw[<-l2]at H0 H1⊢;have h7:Hid (BoxS B X o 101 w0 w (⟨B,22,.slice (some ⟨gb,0,none⟩) k k,k,h2++.slice sR q cR::List.replicate r (.slice none 0 0),1⟩::⟨B,3,.slice sR q cR,q,nats a9,1⟩::[]) #[.slice (some ⟨gb,0,none⟩) k k,.slice none 0 0,.int .i64 ((0:Nat):Int)] w9):=Kh (m4.out.grow H1);have H9:=Kh (zE l0.out H1);have C9:=Kh (m5.out w9 H9.out);refine hK.out _ _ ⟨trivial,fun _=>C9.out⟩ ?_;clear hK K C m1 l2 H1
 try simp only[Act.put,sPa,sPb,sPc]
 have h8:=h7.out.own (r:=⟨B,3,.slice sR q cR,q,nats a9,1⟩) yq;have l1:=Nat.le_trans h7.out.base h7.out.wk;have h3:=o0.out.kept H9.out yq;refine jg 26 fun K hK=>?_;refine tP rfl (.tmp 52) (.tmp 66) 22 rfl yJ.toN B (.slice sR q cR) q (nats a9) rfl h8 [.int .i64 (y:Int)] gR rfl (0,0) rfl H0 ?z1 ?z2 ?z3 l1 ?_
 case z1=>intro v hv;simp only[List.mem_cons,List.not_mem_nil,or_false]at hv;subst hv;rfl
 case z2=>unfold maxLen;omega
 case z3=>show (q+1)*8<=140737488355328;omega
 intro sN cN wM h5 h6 m0;have H8:Hid (BoxS B X o 101 w0 w (⟨B,22,.slice (some ⟨gb,0,none⟩) k k,k,h2++.slice sR q cR::List.replicate r (.slice none 0 0),1⟩::⟨B,3,.slice sN (q+1) cN,(q+1),nats a9++[.int .i64 (y:Int)],1⟩::[]) #[.slice (some ⟨gb,0,none⟩) k k,.slice none 0 0,.int .i64 ((0:Nat):Int)] wM):=Kh (h7.out.appAt (j:=1) rfl h5 h6 m0)
 have H6:(Value.slice sR q cR).ownBlock≠some gb:=fun e=>by
  obtain⟨_,_,hb,_⟩:=h3;exact zR h8 hb (by show (3:Nat)≠22;decide) e
 have h0:∀j,(Value.slice sR q cR).ownBlock=some j->we.heap.size<=j:=fun j hj=>Nat.le_trans m3 (h8.lt j hj).1;have n8:Hid (we.grownBy wM (some o)):=Kh (zE (zE HG.out H9.out) h6 h0);have n9:=Kh (h3.kept h6 (fun e=>H6 e))
 have CM:Hid (wM.cell? ⟨o,0,none⟩=some (.slice (some ⟨gb,0,none⟩) k k)/\wM.cell? ⟨gb,a,none⟩=some (.slice sR q cR)/\wM.cell? ⟨o,2,none⟩=some (.int .i64 ((0:Nat):Int))/\wM.cell? ⟨mx,3,none⟩=some (.slice (some ⟨nb,no,none⟩) n nc)/\wM.cell? ⟨nb,no+q,none⟩=some (.slice (some ⟨rb,ro,none⟩) k rc)/\wM.cell? ⟨rb,ro+a,none⟩=some (.int .i64 (y:Int))):=Kh (by
  have q0:=zJ H8.out.box 0;have q2:=zJ H8.out.box 2;simp only[sPd,sPe,sPf]at q0 q2;obtain⟨_,d1,_,d3,d4,d5⟩:=C9.out;have far:∀(b i:Nat) (u:Value),(∀j,(Value.slice sR q cR).ownBlock=some j->j≠b)->w9.cell? ⟨b,i,none⟩=some u->wM.cell? ⟨b,i,none⟩=some u:=fun b i u hb hc=>(World.cell?_of_block (h6.block b (World.block_lt_of_cell? _ _ hc) (fun e=>hb b e.symm rfl))).trans hc
  exact⟨q0,far gb a _ (fun j hj e=>H6 (e ▸ hj)) d1,q2,far mx 3 _ (fun j hj e=>by have:=h0 j hj;omega) d3,far nb (no+q) _ (fun j hj e=>by have:=h0 j hj;omega) d4,far rb (ro+a) _ (fun j hj e=>by have:=h0 j hj;omega) d5⟩)
 refine hK.out _ _ ⟨trivial,fun _=>CM.out⟩ ?_;clear hK K C9 h7 m4 h5 h6 m0 H0 h8 l1 H6 h0 h3
 try simp only[Act.put,sPa,sPb,sPc]
 refine zP 27 ?_;refine jg 28 fun K hK=>?_;have q1:=CM.out.2.1;have f1:=n9.out.frozen a;go_simp;refine hK.out _ _ ⟨trivial,fun h=>by simp at h⟩ ?_;clear hK K q1 f1 CM
 try simp only[Act.put,sPa,sPb,sPc]
 refine uY yk ?_ _;refine NoPanic.normal ?_;have h4:=H8.out.put (j:=0) rfl n5 (.slice sN (q+1) cN);have n6:we.grownBy (wM.setCell ⟨gb,a,none⟩ (.slice sN (q+1) cN)) (some o):=yM n8.out (zH wM ⟨gb,a,none⟩ _) (by show _<=gb;omega)
 have H4:(h2++Value.slice sR q cR::List.replicate r (Value.slice none 0 0)).set a (.slice sN (q+1) cN)=h2++Value.slice sN (q+1) cN::List.replicate r (Value.slice none 0 0):=by
  rw[List.set_append_right _ _ yo,H7,Nat.sub_self];rfl
 refine a6 _ _ _ _ _ _ _ _ _ _ _ _ _ _ _ _ _ _ _ _ _ _ _ _ _ _ _ _  _ ⟨X,h2,sN,cN,?_,HD.out.kept h4.kept h4.wk,⟨H7,n2,n1,by simp[n0]⟩,n6,n3,m3⟩;have h9:=h4.rebase;simp only[List.set_cons_zero]at h9;rw[H4,show nats a9++[.int .i64 (y:Int)]=nats (a9++[y]) by simp[nats]]at h9;exact h9
theorem qLH:ElemN Tryz.prog 99 115 3 (.agg #[.int .i64 0,.slice none 0 0,.int .i64 0]) 40:=⟨yk,yk,by rfl,jd⟩
inductive SysF (w0 we:World)(B o gb k:Nat)(gs:List (List Nat))(w:World):Prop
 | mk (X:Nat->Prop) (hsD:List Value) (hB:BoxS B X o 101 w0 w (⟨B,22,.slice (some ⟨gb,0,none⟩) k k,k,hsD,1⟩::[]) #[.slice (some ⟨gb,0,none⟩) k k,.slice none 0 0,.int .i64 ((0:Nat):Int)] w) (hD:xX X 3 nats w hsD gs) (hl:hsD.length=k) (hG:we.grownBy w (some o)) (hB0:we.heap.size<=B)
inductive SysP (w0 we:World)(B o gb k st:Nat)(fA:Option Addr)(fN fC:Nat)(gs:List (List Nat))(w:World):Prop
 | mk (X:Nat->Prop) (hsD:List Value) (sN:Option Addr) (cN:Nat) (hB:BoxS B X o 101 w0 w (⟨B,22,.slice (some ⟨gb,0,none⟩) k k,k,hsD,1⟩::⟨B,115,.slice sN 1 cN,1,[Value.int .i64 (st:Int),.slice fA fN fC,.int .i64 ((0:Nat):Int)],3⟩::[]) #[.slice (some ⟨gb,0,none⟩) k k,.slice sN 1 cN,.int .i64 ((0:Nat):Int)] w) (hD:xX X 3 nats w hsD gs) (hl:hsD.length=k) (hG:we.grownBy w (some o)) (hB0:we.heap.size<=B)
theorem qQT {v6 v7 d1 d3 d4 d5 c3 c4 c5 a4 a5 a6 a9:Value}{st fN fC:Nat}{fA:Option Addr}{gs:List (List Nat)}(h:SysF w0 we B o gb k gs w)(c1:w.cell? ⟨mx,1,none⟩=some (.int .i64 (st:Int)))(c2:w.cell? ⟨mx,2,none⟩=some (.slice fA fN fC))(k3:st<32)(k2:mx<we.heap.size)(a7:∀(z71 z72 z73 z74 z75 z76 z77 z78 z79 z80 z81 z82 z83 z84 z85 z86 z87 z88 z89 z90 z91 z92 z93:Value) (w':World),SysP w0 we B o gb k st fA fN fC gs w'->Q .normal ⟨((Value.pointer (some ⟨o,0,none⟩))::v1::v2::(Value.pointer (some ⟨mx,0,none⟩))::v4::v5::v6::v7::v8::v9::i7::i8::i9::g0::g1::g2::g3::g4::g5::g6::g7::g8::g9::f0::f2::f3::f4::f5::f6::f7::f8::f9::e0::e1::e2::e3::e4::e5::e6::e7::e8::e9::d0::d1::d2::d3::d4::d5::d6::d7::d8::d9::c0::c3::c4::c5::c6::c7::c8::c9::b0::b1::b2::b3::b4::b5::b6::b7::b8::b9::a0::z71::z72::z73::z74::z75::z76::z77::z78::z79::z80::z81::z82::z83::z84::z85::z86::z87::z88::z89::z90::z91::z92::z93::a1::a2::a3::a4::a5::a6::a8::a9::[]).toArray,[]⟩ w'):Code.wp Tryz.prog (reg Tryz.f68 15) Q ⟨((Value.pointer (some ⟨o,0,none⟩))::v1::v2::(Value.pointer (some ⟨mx,0,none⟩))::v4::v5::v6::v7::v8::v9::i7::i8::i9::g0::g1::g2::g3::g4::g5::g6::g7::g8::g9::f0::f2::f3::f4::f5::f6::f7::f8::f9::e0::e1::e2::e3::e4::e5::e6::e7::e8::e9::d0::d1::d2::d3::d4::d5::d6::d7::d8::d9::c0::c3::c4::c5::c6::c7::c8::c9::b0::b1::b2::b3::b4::b5::b6::b7::b8::b9::a0::k4::k5::k6::k7::k8::k9::j0::j1::j2::j3::j4::j5::j6::j7::j8::j9::i0::i1::i2::i3::i4::i5::i6::a1::a2::a3::a4::a5::a6::a8::a9::[]).toArray,[]⟩ w:=by
 obtain⟨X,h4,hB,hD,hl,hG,k0⟩:=h;have hS:=hB.nil (e:=115) (sz:=3) jd;simp only[List.cons_append,List.nil_append]at hS;obtain⟨HS,HD,HG⟩:=Kc hS hD hG
 have H8:Hid (∀W:World,w.grownBy W none->W.cell? ⟨o,1,none⟩=some (.slice none 0 0)/\W.cell? ⟨o,2,none⟩=some (.int .i64 ((0:Nat):Int))/\W.cell? ⟨mx,1,none⟩=some (.int .i64 (st:Int))/\W.cell? ⟨mx,2,none⟩=some (.slice fA fN fC)):=Kh (fun W hg=>by
  have hb:=(HS.out.grow hg).box;have q1:=zJ hb 1;have q2:=zJ hb 2;simp only[sPd,sPe,sPf]at q1 q2
  exact⟨q1,q2,zN c1 hg,zN c2 hg⟩)
 have l1:IntKind.i64.wrap (st:Int)=st:=wK yo;clear hB hD hG hS c1 c2
 conv=>arg 2;whnf
 obtain⟨w7,h8⟩:=Nm w.drew;have H5:w.grownBy w7 none:=by rw[h8];exact zY w none
 have k1:=Kh h8;have H0:=Kh H5;clear h8 H5;refine wp_region_noPanic ?_;refine yI (G:=xM 23 (fun _=>True) (fun W=>W.cell? ⟨o,1,none⟩=some (.slice none 0 0)/\W.cell? ⟨o,2,none⟩=some (.int .i64 ((0:Nat):Int))/\W.cell? ⟨mx,1,none⟩=some (.int .i64 (st:Int))/\W.cell? ⟨mx,2,none⟩=some (.slice fA fN fC))) yk ?_;rw[<-k1.out];have H6:Hid (BoxS B X o 101 w0 w (⟨B,22,.slice (some ⟨gb,0,none⟩) k k,k,h4,1⟩::⟨B,115,.slice none 0 0,0,[],3⟩::[]) #[.slice (some ⟨gb,0,none⟩) k k,.slice none 0 0,.int .i64 ((0:Nat):Int)] w7):=Kh (HS.out.grow H0.out);have C:=Kh (H8.out w7 H0.out);refine zP 0 ?_;refine zP 1 ?_;refine zP 2 ?_;refine zP 3 ?_;refine xD 4 ?_;refine zP 5 ?_;refine zP 6 ?_;refine zP 7 ?_;refine xD 8 ?_;refine zP 9 ?_;refine xD 10 ?_;refine zP 11 ?_;refine zP 12 ?_;refine xD 13 ?_;refine zP 14 ?_;refine zP 15 ?_;refine zP 16 ?_;refine xD 17 ?_;refine zP 18 ?_;refine jg 19 fun K hK=>?_;go_simp;have h5:=heap_alloc_new w7 (.cells #[Value.int .i64 (st:Int),.slice fA fN fC,.int .i64 ((0:Nat):Int)] 115);have h6:=Ga w7 (.cells #[Value.int .i64 (st:Int),.slice fA fN fC,.int .i64 ((0:Nat):Int)] 115) none;obtain⟨gR,H4⟩:=Nm w7.heap.size;obtain⟨w9,h3⟩:=Nm (w7.alloc (.cells #[Value.int .i64 (st:Int),.slice fA fN fC,.int .i64 ((0:Nat):Int)] 115));rw[<-H4]at h5⊢;rw[<-h3]at h5 h6
 try rw[<-h3]
 try rw[show w7.alloc (.cells #[Value.int .i64 (st:Int),.slice fA fN fC,.int .i64 0] 115)=w9 from h3.symm]
 have h2:Hid (BoxS B X o 101 w0 w (⟨B,22,.slice (some ⟨gb,0,none⟩) k k,k,h4,1⟩::⟨B,115,.slice none 0 0,0,[],3⟩::[]) #[.slice (some ⟨gb,0,none⟩) k k,.slice none 0 0,.int .i64 ((0:Nat):Int)] w9):=Kh (H6.out.grow h6);have H7:=Kh (zE H0.out h6);have C9:=Kh (H8.out w9 H7.out);refine hK.out _ _ ⟨trivial,fun _=>C9.out⟩ ?_;clear hK K C H4 h3 h6
 try simp only[Act.put,sPa,sPb,sPc]
 have H2:=h2.out.own (r:=⟨B,115,.slice none 0 0,0,[],3⟩) yq;have H1:=Nat.le_trans h2.out.base h2.out.wk;refine jg 20 fun K hK=>?_;refine tP rfl (.tmp 75) (.tmp 90) 99 rfl qLH B (.slice none 0 0) 0 [] rfl H2 [Value.int .i64 (st:Int),.slice fA fN fC,.int .i64 ((0:Nat):Int)] gR rfl (0,0) rfl h5 ?z1 ?z2 ?z3 H1 ?_
 case z1=>intro v hv;simp only[List.mem_cons,List.not_mem_nil,or_false]at hv;rcases hv with rfl|rfl|rfl<;>rfl
 case z2=>unfold maxLen;omega
 case z3=>decide
 intro sN cN wM h1 h9 H3;have h7:Hid (BoxS B X o 101 w0 w (⟨B,22,.slice (some ⟨gb,0,none⟩) k k,k,h4,1⟩::⟨B,115,.slice sN 1 cN,1,[Value.int .i64 (st:Int),.slice fA fN fC,.int .i64 ((0:Nat):Int)],3⟩::[]) #[.slice (some ⟨gb,0,none⟩) k k,.slice none 0 0,.int .i64 ((0:Nat):Int)] wM):=Kh (h2.out.appAt (j:=1) rfl h1 h9 H3);have h0:w9.grownBy wM none:=h9;have l0:Hid (we.grownBy wM (some o)):=Kh (zE (zE HG.out H7.out) h0)
 have CM:Hid (wM.cell? ⟨o,1,none⟩=some (.slice none 0 0)/\wM.cell? ⟨o,2,none⟩=some (.int .i64 ((0:Nat):Int))/\wM.cell? ⟨mx,1,none⟩=some (.int .i64 (st:Int))/\wM.cell? ⟨mx,2,none⟩=some (.slice fA fN fC)):=Kh (by
  have q1:=zJ h7.out.box 1;have q2:=zJ h7.out.box 2;simp only[sPd,sPe,sPf]at q1 q2
  exact⟨q1,q2,zN C9.out.2.2.1 h0,zN C9.out.2.2.2 h0⟩)
 refine hK.out _ _ ⟨trivial,fun _=>CM.out⟩ ?_;clear hK K C9 h2 H6 h1 h9 H3 h5 H2 H1 h0
 try simp only[Act.put,sPa,sPb,sPc]
 refine zP 21 ?_;refine zP 22 ?_;refine jg 23 fun K hK=>?_;have q1:=CM.out.1;have f1:=zB h7.out.box 1;go_simp;refine hK.out _ _ ⟨trivial,fun h=>by simp at h⟩ ?_;clear hK K q1 f1 CM
 try simp only[Act.put,sPa,sPb,sPc]
 refine uY yk ?_ _;refine NoPanic.normal ?_;have hZ:=h7.out.set 1 (.slice sN 1 cN);have H9:we.grownBy (wM.setCell ⟨o,1,none⟩ (.slice sN 1 cN)) (some o):=zI l0.out (zH wM ⟨o,1,none⟩ _);exact a7 _ _ _ _ _ _ _ _ _ _ _ _ _ _ _ _ _ _ _ _ _ _ _  _ ⟨X,h4,sN,cN,hZ.rebase,HD.out.kept hZ.kept hZ.wk,hl,H9,k0⟩
end Go.Proofs.YtiknckajkdlppaaGreat
