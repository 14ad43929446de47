/- Part 6 of the proof. -/
import Derived.Test.YtjfdomfendbhfaaQg5
import Derived.DeepKeys4
set_option linter.unusedVariables false
set_option linter.unusedSimpArgs false
set_option maxRecDepth 100000
set_option maxHeartbeats 16000000
namespace Go.Proofs.Ytjfdomfendbhfaa
def mU (d:DfaV)(p:List Nat)(q x:Nat):List Nat:=(p.getD q 0::(List.range x).map fun a=>p.getD (nx d q a) 0)++List.replicate (6 - x) 0
theorem nH {d:DfaV}{p:List Nat}{q x:Nat}(h:x<=6):(mU d p q x).length=7:=by simp[mU];omega
theorem sigTo_set {d:DfaV}{p:List Nat}{q x:Nat}(h:x<6):(mU d p q x).set (1+x) (p.getD (nx d q x) 0)=mU d p q (x+1):=by
 unfold mU;rw[List.set_append_right _ _ (by simp;omega),List.range_succ,List.map_append,show 6 - x=(6 - (x+1))+1 by omega,List.replicate_succ];simp[Nat.add_comm]
theorem sigTo_lt {d:DfaV}{p:List Nat}{q x N:Nat}(h:∀ c∈p,c<N)(hN:0<N):∀ y∈mU d p q x,y<N:=by
 intro y hy;rcases List.mem_append.1 hy with hy|hy
 ·rcases List.mem_cons.1 hy with rfl|hy
  ·exact rR h hN
  ·obtain⟨a,_,rfl⟩:=List.mem_map.1 hy
   exact rR h hN
 ·rw[List.mem_replicate]at hy;omega
theorem sigTo_iff {d:DfaV}{p:List Nat}{q q' k:Nat}:mU d p q k=mU d p q' k ↔ p.getD q 0=p.getD q' 0/\∀ a,a<k->p.getD (nx d q a) 0=p.getD (nx d q' a) 0:=by
 unfold mU;constructor
 ·intro h
  have h:=List.append_cancel_right h;rw[List.cons.injEq,List.map_inj_left]at h;exact⟨h.1,fun a ha=>h.2 a (List.mem_range.2 ha)⟩
 ·rintro ⟨h1,h2⟩
  rw[h1,List.map_congr_left (fun a ha=>h2 a (List.mem_range.1 ha))]
def sigL (d:DfaV)(k:Nat)(p:List Nat):List (List Nat):=(List.range p.length).map fun q=>mU d p q k
theorem lK (d:DfaV)(k:Nat)(p:List Nat):(sigL d k p).length=p.length:=by simp[sigL]
theorem bT {d:DfaV}{k:Nat}{p:List Nat}{q:Nat}(h:q<p.length):(sigL d k p)[q]'(by rw[lK];exact h)=mU d p q k:=by simp[sigL]
theorem sig_refTo {d:DfaV}{n k:Nat}(hd:VD d n k){p:List Nat}(hp:p.length=n)(hn:Norm p):numb (sigL d k p)=uJ d p k:=by
 have h0:∀ c∈p,c<n:=by have:=nP hn;rwa [hp]at this
 have hl:=lK d k p;refine aD (fK _) (mE hn k) ⟨by rw[yN,hl,yV],fun i j hi hj=>?_⟩;rw[yN,hl]at hi hj;rw[oG (by omega) (by omega),bT hi,bT hj,sigTo_iff,rU hd hp h0 (by omega) (by omega) k (Nat.le_refl _)]
theorem numb_stepG {α:Type}[DecidableEq α]{l:List α}{k:Nat}(hk:k<l.length):(numb l).getD k 0=if l[k]∈zZ (l.take k) then (zZ (l.take k)).idxOf l[k] else (zZ (l.take k)).length:=by
 rw[zG (by rw[yN];exact hk),qL hk,<- qAZ hk,List.take_succ_eq_append_getElem hk,tJ];by_cases h:l[k]∈zZ (l.take k)
 ·rw[uR h,if_pos h]
 ·rw[wV h,if_neg h,List.idxOf_append,if_neg h];simp
theorem fU {α:Type}[DecidableEq α]{l:List α}{k:Nat}(hk:k<l.length):zZ (l.take (k+1))=xP (zZ (l.take k)) l[k]:=by
 rw[List.take_succ_eq_append_getElem hk,tJ]
theorem cls_numb {α:Type}[DecidableEq α](l:List α):cls (numb l)=(zZ l).length:=by
 unfold cls numb;rw[firsts_map_inj _ _ (fun x hx y _ h=>qBP (wF.2 hx) h),List.length_map]
def vG (d:DfaV)(q:Nat):List Nat:=(List.range q).map fun i=>if d.final.getD i false=d.final.getD 0 false then 0 else 1
def fstC (d:DfaV)(q:Nat):Nat:=if (vG d q).all (· == 0) then 1 else 2
def fstF (d:DfaV)(n q:Nat):List Nat:=vG d q++List.replicate (n - q) 0
theorem lS {d:DfaV}{n q:Nat}(h:q<=n):(fstF d n q).length=n:=by simp[fstF,vG];omega
theorem fstF_same {d:DfaV}{n q:Nat}(h:q<n)(e:d.final.getD q false=d.final.getD 0 false):fstF d n (q+1)=fstF d n q/\fstC d (q+1)=fstC d q:=by
 have h1:vG d (q+1)=vG d q++[0]:=by
  simp only[vG,List.range_succ,List.map_append,List.map_cons,List.map_nil,if_pos e]
 constructor
 ·unfold fstF
  rw[h1,show n - q=(n - (q+1))+1 by omega,List.replicate_succ,List.append_assoc];rfl
 ·unfold fstC
  rw[h1,List.all_append];simp
theorem fstF_diff {d:DfaV}{n q:Nat}(h:q<n)(e:d.final.getD q false≠d.final.getD 0 false):fstF d n (q+1)=(fstF d n q).set q 1/\fstC d (q+1)=2:=by
 have h1:vG d (q+1)=vG d q++[1]:=by
  simp only[vG,List.range_succ,List.map_append,List.map_cons,List.map_nil,if_neg e]
 have hl:(vG d q).length=q:=by simp[vG]
 constructor
 ·unfold fstF
  rw[h1,List.set_append_right _ _ (by omega),hl,Nat.sub_self,show n - q=(n - (q+1))+1 by omega,List.replicate_succ,List.set_cons_zero,List.append_assoc];rfl
 ·unfold fstC
  rw[h1,List.all_append];simp
theorem fst_part0 {d:DfaV}{n k:Nat}(hd:VD d n k):vG d n=kM d/\fstC d n=cls (kM d):=by
 have hl:(vG d n).length=n:=by simp[vG]
 have hg:∀ i,i<n->(vG d n).getD i 0=if d.final.getD i false=d.final.getD 0 false then 0 else 1:=fun i hi=>by
  rw[zG (by omega)];simp[vG]
 have h8:∀ i j,i<n->j<n->((vG d n).getD i 0=(vG d n).getD j 0 ↔ (kM d).getD i 0=(kM d).getD j 0):=fun i j hi hj=>by
  rw[hg i hi,hg j hj,fB hd hi hj];cases d.final.getD i false<;>cases d.final.getD j false<;>cases d.final.getD 0 false<;>simp
 have H4:=nM d;have h9:=hd.n1
 have h6:Norm (vG d n):=by
  unfold Norm;have h0:(vG d n).getD 0 0=0:=by rw[hg 0 (by omega),if_pos rfl]
  refine List.ext_getElem (yN _) fun i h1 h2=>?_;have hi:i<n:=by omega
  rw[qL h2]
  have key:∀ m,0<m->m<=n->zZ ((vG d n).take m)=if (∃ j,j<m/\(vG d n).getD j 0=1) then [0,1] else [0]:=by
   intro m hm H7
   induction m with
   | zero=>omega
   | succ m ih =>
    have H0:m<(vG d n).length:=(by omega);rw[fU H0,<- zG (d:=0) H0];have h7:(vG d n).getD m 0=0\/(vG d n).getD m 0=1:=by rw[hg m (by omega)];split<;>simp
    by_cases hm0:m=0
    ·subst hm0
     rw[h0]
     have:¬ ∃ j,j<0+1/\(vG d n).getD j 0=1:=by
      rintro ⟨j,hj,e⟩;have:j=0:=by omega
      subst this;omega
     rw[if_neg this];rfl
    ·rw[ih (by omega) (by omega)]
     by_cases hex:∃ j,j<m/\(vG d n).getD j 0=1
     ·have h5:∃ j,j<m+1/\(vG d n).getD j 0=1:=hex.imp fun j h=>⟨by omega,h.2⟩
      rw[if_pos hex,if_pos h5];rcases h7 with e|e<;>rw[e]<;>rfl
     ·rw[if_neg hex]
      rcases h7 with e|e
      ·have h5:¬ ∃ j,j<m+1/\(vG d n).getD j 0=1:=by
        rintro ⟨j,hj,e2⟩;rcases Nat.lt_succ_iff_lt_or_eq.1 hj with hj|rfl
        ·exact hex ⟨j,hj,e2⟩
        ·omega
       rw[if_neg h5,e];rfl
      ·rw[if_pos ⟨m,by omega,e⟩,e];rfl
  have hk:=key n (by omega) (Nat.le_refl _);rw[show (vG d n).take n=vG d n by rw[List.take_of_length_le (by omega)]]at hk;rw[hk];have h7:(vG d n).getD i 0=0\/(vG d n).getD i 0=1:=by rw[hg i hi];split<;>simp
  rw[zG h2]at h7;rcases h7 with e|e
  ·rw[e];split<;>rfl
  ·rw[e,if_pos ⟨i,hi,by rw[zG h2,e]⟩];rfl
 have H1:vG d n=kM d:=aD h6 (cQ d) ⟨by rw[hl,H4,hd.hn],fun i j hi hj=>h8 i j (by omega) (by omega)⟩;refine⟨H1,?_⟩;rw[<- H1];unfold fstC;by_cases ha:(vG d n).all (· == 0)=true
 ·rw[if_pos ha]
  have:vG d n=List.replicate n 0:=by
   refine List.eq_replicate_iff.2 ⟨hl,fun x hx=>?_⟩;simpa using List.all_eq_true.1 ha x hx
  rw[this]
  have h1:(zZ (List.replicate n 0)) ⊆ [0]:=fun x hx=>by
   have:=wF.1 hx;rw[List.mem_replicate]at this;simp[this.2]
  have h2:=(rB (List.replicate n 0)).length_le_of_subset h1;have h3:=aQ (p:=List.replicate n 0) (by simp;omega);unfold cls at h3 ⊢;simp at h2;omega
 ·rw[if_neg ha]
  have h1:zZ (vG d n) ⊆ [0,1]:=fun x hx=>by
   obtain⟨i,_,rfl⟩:=List.mem_map.1 (wF.1 hx)
   split<;>simp
  have h2:=(rB (vG d n)).length_le_of_subset h1
  have h9:∃ x∈vG d n,x≠0:=by
   apply Classical.byContradiction;intro H5
   exact ha (List.all_eq_true.2 fun x hx=>by
    have:x=0:=Classical.byContradiction fun h=>H5 ⟨x,hx,h⟩
    simp[this])
  obtain⟨x,hx,H3⟩:=h9
  have H2:x=1:=by
   obtain⟨i,_,rfl⟩:=List.mem_map.1 hx
   split at H3
   ·omega
   ·rename_i h;rw[if_neg h]
  have H6:0∈vG d n:=by
   rw[vG,List.mem_map];exact⟨0,List.mem_range.2 (by omega),if_pos rfl⟩
  have h3:[0,1] ⊆ zZ (vG d n):=fun y hy=>by
   simp only[List.mem_cons,List.not_mem_nil,or_false]at hy;rcases hy with rfl|rfl
   ·exact wF.2 H6
   ·exact wF.2 (H2 ▸ hx)
  have h4:=(show [0,1].Nodup by decide).length_le_of_subset h3;unfold cls;simp at h2 h4;omega
theorem clsIt_sig {d:DfaV}{n k:Nat}(hd:VD d n k)(m:Nat):numb (sigL d k (yP d k m))=yP d k (m+1):=sig_refTo hd (by rw[yS,hd.hn]) (uQ d k m)
theorem clsIt_stop {d:DfaV}{n k:Nat}(hd:VD d n k){m:Nat}(hm:m<=n)(h:cls (yP d k (m+1))=cls (yP d k m)):yP d k (m+1)=yO d k:=by
 have e:uJ d (yP d k m) k=yP d k m:=Classical.byContradiction fun hne=>by
  have:=oB hd (by rw[yS,hd.hn]) (uQ d k m) hne;rw[yP]at h;omega
 rw[pD (by rw[hd.hn];exact hm) e,yP,e]
theorem clsIt_more {d:DfaV}{n k:Nat}(hd:VD d n k){m:Nat}(h:cls (yP d k (m+1))≠cls (yP d k m)):cls (yP d k m)<cls (yP d k (m+1)):=by
 have e:uJ d (yP d k m) k≠yP d k m:=fun e=>h (by rw[yP,e]);exact oB hd (by rw[yS,hd.hn]) (uQ d k m) e
theorem cls_le_n {d:DfaV}{n k:Nat}(hd:VD d n k)(m:Nat):cls (yP d k m)<=n:=by
 have:=iP (yP d k m)
 rwa [yS,hd.hn]at this
open Go.Maps Go.RowKit
structure KeyK {α:Type}(mt kt:TypeId)(V:α->Prop)(kv:α->Value):Prop where
 key:Keyed Try.prog kt
 und:Try.prog.underlying mt=some (.map kt 3)
 of:∀ a,V a->(keyOf Try.prog kt (kv a)).isSome=true
 inj:∀ a b,V a->V b->kv a=kv b->a=b
section
variable {α:Type} {mt kt:TypeId} {V:α->Prop} {kv:α->Value}
def MapK (kt:TypeId)(V:α->Prop)(kv:α->Value)(w:World)(b n c:Nat)(f:α->Option Nat):Prop :=
 ∃ D:DataW Unit,w.ownsMap Try.prog kt (plainElem Try.prog 3) b n D/\size D=c /\
  ∀ a l,V a->keyOf Try.prog kt (kv a)=some l->has D l=(f a).isSome/\D.atKey l (.lit (.int .i64 0))=.lit (.int .i64 (((f a).getD 0:Nat):Int))
theorem MapK.made (kt:TypeId)(V:α->Prop)(kv:α->Value)(w:World):MapK kt V kv (w.alloc (.map #[] 0)) w.heap.size 0 0 (fun _=>none):=by
 refine⟨.map [],World.ownsMap_made _ _ _ _,rfl,fun x _ _ _=>⟨by simp[has_eq],?_⟩⟩;rw[WideAt.atKey_none _ (by simp)];simp
variable {w w':World} {b n c:Nat} {f:α->Option Nat}
theorem MapK.kept {row:Option Nat}(h:MapK kt V kv w b n c f)(hg:w.grownBy w' row)(hne:row≠some b):MapK kt V kv w' b n c f:=by
 obtain⟨D,h1,h2,h3⟩:=h;exact⟨D,h1.kept hg (fun e=>hne e.symm),h2,h3⟩
theorem MapK.mono {n':Nat}(h:MapK kt V kv w b n c f)(hn:n<=n'):MapK kt V kv w b n' c f:=by
 obtain⟨D,h1,h2,h3⟩:=h;exact⟨D,h1.mono hn,h2,h3⟩
theorem MapK.lt (h:MapK kt V kv w b n c f):b<w.heap.size:=by
 obtain⟨D,h1,_⟩:=h;exact h1.lt
theorem MapK.obj (h:MapK kt V kv w b n c f):∃ es clock,w.heap[b]?=some (.map es clock):=by
 obtain⟨D,⟨es,clock,hb,_⟩,_⟩:=h;exact⟨es,clock,hb⟩
theorem MapK.lookup (h:MapK kt V kv w b n c f)(K:KeyK mt kt V kv){x:α}(hx:V x):(Instr.lookup mt (.map (some b)) (kv x) true).run Try.prog w=.ok (.tuple #[.int .i64 (((f x).getD 0:Nat):Int),.bool (f x).isSome]) w:=by
 obtain⟨D,h1,h2,h3⟩:=h;obtain⟨kl,h4⟩:=Option.isSome_iff_exists.1 (K.of x hx);obtain⟨v,ps,h0,hv⟩:=h1.look_ok K.key K.und (iW w) (plainElem_int tV (by decide)) h4;obtain⟨c,rfl,hc,_⟩:=plainElem_int_inv tV hv;obtain⟨e1,e2⟩:=h3 x kl hx h4;have e3:=congrArg Prod.fst hc;simp only[e2]at e3;rw[h0,e1]
 have e4:(((f x).getD 0:Nat):Int)=c:=by
  simp only[Lit.int.injEq,DataW.lit.injEq,true_and]at e3;exact e3
 rw[e4]
theorem MapK.look1 (h:MapK kt V kv w b n c f)(K:KeyK mt kt V kv){x:α}(hx:V x):(Instr.lookup mt (.map (some b)) (kv x) false).run Try.prog w=.ok (.int .i64 (((f x).getD 0:Nat):Int)) w:=by
 obtain⟨D,h1,h2,h3⟩:=h;obtain⟨kl,h5⟩:=Option.isSome_iff_exists.1 (K.of x hx);obtain⟨c,h0,h4,_⟩:=h1.lookup_int K.key K.und tV (iW w) h5;rw[h0];rw[(h3 x kl hx h5).2]at h4
 have e4:(((f x).getD 0:Nat):Int)=c:=by
  simp only[Lit.int.injEq,DataW.lit.injEq,true_and]at h4;exact h4
 rw[e4]
theorem MapK.len (h:MapK kt V kv w b n c f)(K:KeyK mt kt V kv):(Builtin.len_ #[mt] 3 #[.map (some b)]).run Try.prog w=.ok (.int .i64 (c:Nat)) w:=by
 obtain⟨D,h1,h2,h3⟩:=h;have h0:=h1.len K.und 3;rw[h2]at h0;exact h0
theorem pI [DecidableEq α]{ops:Array Oper}{rest:List Oper}{o:Oper}{a:Act}{Q:Exit->Act->World->Prop}(K:KeyK mt kt V kv)(hg:o.guard=none)(m x v:Operand)(hop:o.op=Op.mapUpdate mt m x v)(b n c:Nat)(f:α->Option Nat)(z:α)(y:Nat)(hm:a.eval m=.map (some b))(hx:a.eval x=kv z)(hv:a.eval v=.int .i64 (y:Int))(h:MapK kt V kv w b n c f)(hn:n<maxLen)(hz:V z)(hy:y<4611686018427387904)(hK:∀ w',MapK kt V kv w' b (n+1) (if (f z).isSome then c else c+1) (fun q=>if q=z then some y else f q)->w.grownBy w' (some b)->wpList Try.prog ops Q rest (a.put o.dst undef) w'):wpList Try.prog ops Q (o::rest) a w:=by
 obtain⟨D,h1,h2,h3⟩:=h;obtain⟨kl,h0⟩:=Option.isSome_iff_exists.1 (K.of z hz);obtain⟨w',h4,h5,h7⟩:=h1.update K.key K.und hn h0 (plainElem_int tV (qBE (x:=(y:Int)) ⟨by omega,by omega⟩));refine wpList_plain hg fun K' hK'=>?_;unfold Oper.wp;simp[execOp,hop,hm,hx,hv,h4,Result.andThen];refine hK' _ _ (hK w' ⟨_,h5,?_,fun q ql hq hql=>?_⟩ h7)
 ·rw[size_put (h1.tidy K.key),(h3 z kl hz h0).1,h2]
 ·by_cases e:q=z
  ·subst e
   rw[h0]at hql;cases hql;refine⟨by rw[has_put_same h1.isMap (K.key.key h0)];simp,?_⟩;simp only[if_pos];rw[atKey_put_same h1.isMap (K.key.key h0)];rfl
  ·have h6:ql≠kl:=fun h=>e (K.inj q z hq hz (K.key.inj (hql.trans (congrArg some h)) h0))
   obtain⟨e1,e2⟩:=h3 q ql hq hql;simp only[if_neg e];exact⟨by rw[has_put_other h6,e1],by rw[atKey_put_other h6,e2]⟩
end
theorem gP:Try.prog.underlying 176=some (.array 7 3):=by kernel_rfl
theorem sigmap_under:Try.prog.underlying 174=some (.map 176 3):=by kernel_rfl
theorem sig_keyed:Keyed Try.prog 176:=Keyed.of_law (deep_law_laid (m:=5) (by kernel_rfl) (by decide) (of_decide_eq_true (by kernel_rfl)) (by kernel_rfl) (by kernel_rfl))
theorem nat_wf {x:Nat}(hx:x<4611686018427387904):(Lit.int .i64 (x:Int)).wf=true:=qBE (x:=(x:Int)) ⟨by omega,by omega⟩
theorem tE (d:Nat){x:Nat}(hx:x<4611686018427387904):Try.prog.keyLits (d+1) 3 [.int .i64 (x:Int)]=some [.int .i64 (x:Int)]:=by
 unfold Program.keyLits;rw[tV];simp[nat_wf hx]
def sigV (L:List Nat):Value:=.agg #[.int .i64 ((L.getD 0 0:Nat):Int),.int .i64 ((L.getD 1 0:Nat):Int),.int .i64 ((L.getD 2 0:Nat):Int),.int .i64 ((L.getD 3 0:Nat):Int),.int .i64 ((L.getD 4 0:Nat):Int),.int .i64 ((L.getD 5 0:Nat):Int),.int .i64 ((L.getD 6 0:Nat):Int)]
def qHG (L:List Nat):Prop:=L.length=7/\∀ x∈L,x<4611686018427387904
theorem qAJ:Try.prog.cellsOf 176=7:=by kernel_rfl
theorem fQ:Try.prog.cellsOf 3=1:=by kernel_rfl
theorem sig_some {x0 x1 x2 x3 x4 x5 x6:Nat}(h0:x0<4611686018427387904)(h1:x1<4611686018427387904)(h2:x2<4611686018427387904)(h3:x3<4611686018427387904)(h4:x4<4611686018427387904)(h5:x5<4611686018427387904)(h6:x6<4611686018427387904):(keyOf Try.prog 176 (.agg #[.int .i64 (x0:Int),.int .i64 (x1:Int),.int .i64 (x2:Int),.int .i64 (x3:Int),.int .i64 (x4:Int),.int .i64 (x5:Int),.int .i64 (x6:Int)])).isSome=true:=by
 have hk:Try.prog.keyType 176=true:=by kernel_rfl
 unfold keyOf;rw[gP];simp only[hk,Bool.true_and]
 have hf:(Value.agg #[.int .i64 (x0:Int),.int .i64 (x1:Int),.int .i64 (x2:Int),.int .i64 (x3:Int),.int .i64 (x4:Int),.int .i64 (x5:Int),.int .i64 (x6:Int)]).formed Try.prog 176=true:=by
  simp[Value.formed,gP,qAJ]
 rw[if_pos hf]
 have hl:Try.prog.keyLits (Try.prog.types.size+1) 176 (Value.agg #[.int .i64 (x0:Int),.int .i64 (x1:Int),.int .i64 (x2:Int),.int .i64 (x3:Int),.int .i64 (x4:Int),.int .i64 (x5:Int),.int .i64 (x6:Int)]).cells.toList=some [.int .i64 (x0:Int),.int .i64 (x1:Int),.int .i64 (x2:Int),.int .i64 (x3:Int),.int .i64 (x4:Int),.int .i64 (x5:Int),.int .i64 (x6:Int)]:=by
  have hz:Try.prog.types.size=(Try.prog.types.size - 1)+1:=by kernel_rfl
  rw[hz];unfold Program.keyLits;rw[gP];simp[Value.cells,qAJ,fQ,List.range,List.range.loop,tE _ h0,tE _ h1,tE _ h2,tE _ h3,tE _ h4,tE _ h5,tE _ h6]
 rw[hl];rfl
theorem bS:KeyK 174 176 qHG sigV where
 key:=sig_keyed
 und:=sigmap_under
 of:=fun L h=>by
  have hg:∀ i,L.getD i 0<4611686018427387904:=fun i=>by
   by_cases hi:i<L.length
   ·rw[zG hi];exact h.2 _ (List.getElem_mem hi)
   ·rw[List.getD,List.getElem?_eq_none (by omega)];simp
  exact sig_some (hg 0) (hg 1) (hg 2) (hg 3) (hg 4) (hg 5) (hg 6)
 inj:=fun L M hL hM e=>by
  simp only[sigV,Value.agg.injEq]at e
  have e:=congrArg Array.toList e
  simp only[List.cons.injEq,Value.int.injEq,true_and,and_true]at e
  refine List.ext_getElem (by rw[hL.1,hM.1]) fun i h1 h2=>?_
  rw[<- zG (d:=0) h1,<- zG (d:=0) h2]
  have:i<7:=by rw[<- hL.1];exact h1
  match i,this with
  | 0,_=>omega
  | 1,_=>omega
  | 2,_=>omega
  | 3,_=>omega
  | 4,_=>omega
  | 5,_=>omega
  | 6,_=>omega
def numF {α:Type}[DecidableEq α](l:List α)(L:α):Option Nat:=if L∈l then some (l.idxOf L) else none
theorem numF_new {α:Type}[DecidableEq α]{l:List α}{L:α}(h:L ∉ l):(fun q=>if q=L then some l.length else numF l q)=numF (l++[L]):=by
 funext q;unfold numF;by_cases e:q=L
 ·subst e
  rw[if_pos rfl,if_pos (by simp),List.idxOf_append,if_neg h];simp
 ·rw[if_neg e]
  by_cases hq:q∈l
  ·rw[if_pos hq,if_pos (by simp[hq]),List.idxOf_append,if_pos hq]
  ·rw[if_neg hq,if_neg (by simp[hq,e])]
theorem numF_old {α:Type}[DecidableEq α]{l:List α}{L:α}(h:L∈l):numF l L=some (if L∈l then l.idxOf L else l.length):=by rw[numF,if_pos h,if_pos h]
theorem numF_no {α:Type}[DecidableEq α]{l:List α}{L:α}(h:L ∉ l):numF l L=none:=if_neg h
theorem numb_old {α:Type}[DecidableEq α]{l:List α}{L:α}{v:Nat}(hv:v=if L∈l then l.idxOf L else l.length)(h:L∈l):numF l L=some v:=by rw[hv,numF_old h]
theorem numb_new {α:Type}[DecidableEq α]{l:List α}{L:α}{v:Nat}(hv:v=if L∈l then l.idxOf L else l.length)(h:L ∉ l):v=l.length:=by rw[hv,if_neg h]
theorem seven {L:List Nat}(h:L.length=7):∃ y0 y1 y2 y3 y4 y5 y6,L=[y0,y1,y2,y3,y4,y5,y6]:=by
 match L,h with
 | [y0,y1,y2,y3,y4,y5,y6],_=>exact⟨y0,y1,y2,y3,y4,y5,y6,rfl⟩
theorem sig7_cells {w:World}{g e y0 y1 y2 y3 y4 y5 y6:Nat}(h:Arr w g e (nats [y0,y1,y2,y3,y4,y5,y6])):w.cell? ⟨g,0,none⟩=some (.int .i64 (y0:Int))/\w.cell? ⟨g,1,none⟩=some (.int .i64 (y1:Int))/\w.cell? ⟨g,2,none⟩=some (.int .i64 (y2:Int))/\w.cell? ⟨g,3,none⟩=some (.int .i64 (y3:Int))/\w.cell? ⟨g,4,none⟩=some (.int .i64 (y4:Int))/\w.cell? ⟨g,5,none⟩=some (.int .i64 (y5:Int))/\w.cell? ⟨g,6,none⟩=some (.int .i64 (y6:Int)) :=
 ⟨h.cell 0 (by simp[nats]),h.cell 1 (by simp[nats]),h.cell 2 (by simp[nats]),h.cell 3 (by simp[nats]),h.cell 4 (by simp[nats]),h.cell 5 (by simp[nats]),h.cell 6 (by simp[nats])⟩
theorem numF_nil:(fun _=>none)=numF ([]:List (List Nat)):=by funext L;simp[numF]
theorem pclasses_any (B:Nat)(w:World)(v:Value)(d:DfaV)(n k:Nat)(hB:B<=w.heap.size)(h:uW B w v d)(hd:VD d n k)(h5:n<=512):Calls Try.prog 111 #[v] w (qII w (yO d k)):=by
 have r7:=@run_makeMap Try.prog;have b6:=h;obtain⟨fb,fo,fc,b,off,cap,RB,RO,RC,rfl,c4⟩:=h.at hd;have hn:=hd.hn;have o0:=hd.n1;have l2:=hd.k6;have s0:=hd.k1;have s6:=c4.fcap.1;have d4:=c4.fcap.2;have s9:=c4.cap.1;have d5:=c4.cap.2;have o2:fc<=9223372036854775807:=by unfold maxLen at d4;omega
 have o1:cap<=9223372036854775807:=by unfold maxLen at d5;omega
 obtain⟨S,hS⟩:∃ S,S=st0 d:=⟨_,rfl⟩;have j8:dAgg k (st0 d) fb fo fc b off cap n=.agg #[.int .i64 (k:Int),.int .i64 (S:Int),.slice (some ⟨fb,fo,none⟩) n fc,.slice (some ⟨b,off,none⟩) n cap]:=by rw[hS];rfl
 rw[j8]at b6 ⊢;obtain⟨wA,j0⟩:∃ wA,wA=w.alloc (.cells #[.int .i64 (k:Int),.int .i64 (S:Int),.slice (some ⟨fb,fo,none⟩) n fc,.slice (some ⟨b,off,none⟩) n cap] 42):=⟨_,rfl⟩;have f6:=Ga w (.cells #[.int .i64 (k:Int),.int .i64 (S:Int),.slice (some ⟨fb,fo,none⟩) n fc,.slice (some ⟨b,off,none⟩) n cap] 42) none;have b9:=heap_alloc_new w (.cells #[.int .i64 (k:Int),.int .i64 (S:Int),.slice (some ⟨fb,fo,none⟩) n fc,.slice (some ⟨b,off,none⟩) n cap] 42);rw[<- j0]at b9 f6;obtain⟨P,hP⟩:∃ P,P=w.heap.size:=⟨_,rfl⟩;rw[<- hP]at b9;obtain⟨c0,c1,c2,c3⟩:=zF b9;have t1:=zK b9;have p0:B<=wA.heap.size:=by omega
 have p7:=Kh hP;have t2:w.heap.size<=P:=by omega
 have m9:=Kh b9;have q5:=Kh f6;have p3:=Kh j0;have c8:Hid (∀ W:World,w.grownBy W none->DAt B W d n k fb fo fc b off cap RB RO RC):=Kh (fun W hg=>c4.kept hg (by simp));have HN:=Kh hn;have HD:=Kh hd;have l7:=Kh (tQ B wA _ d p0 (b6.kept f6 (by simp)));have p4:=Kh (gE hd h5);clear b9 f6 j0 c4 hn hd h b6 j8 d4 d5 hS hP;go_enter Try.func111,Try.ntmps111;go_upto_region 1 with fail;rw[<- p3.out,<- p7.out];go_wp2_with fail;refine l7.out.mono ?_;rintro e w1 ⟨rfl,f9⟩;rw[p4.out];have r3:=f9.size;have q6:=Kh (zA q5.out f9 (by simp));have g3:=Kh (zB m9.out f9 (by simp));obtain⟨d0,d1,d2,d3⟩:=zF g3.out;have t9:B<=w.heap.size:=hB;clear f9 l7 c0 c1 c2 c3 m9;go_wp2_with (first|(at_make;refine lO rfl _ _ _ rfl yU rfl .i64 .i64 _ _ n rfl rfl rfl rfl ?b1 ?b2 ?_;(case b1=>omega);(case b2=>(unfold maxLen;omega));intro w2 h0 f8 i5;(obtain⟨e0,e1,e2,e3⟩:=zF (zB g3.out f8 (by simp))))|fail);obtain⟨G,hG⟩:∃ G,G=w1.heap.size:=⟨_,rfl⟩;rw[<- hG]at h0 i5 ⊢;have t6:P<G:=by omega
 have o9:w.heap.size<=G:=by omega
 have n3:Hid (Arr w2 G 3 (nats (fstF d n 0))):=Kh (by
  rw[show fstF d n 0=List.replicate n 0 by simp[fstF,vG],xI];exact h0)
 have m3:=Kh (zA q6.out f8 (by simp));have m8:=Kh (zB g3.out f8 (by simp));clear h0 f8 hG g3 d0 d1 d2 d3 e0 e1 e2 e3
 go_loopg [4,5,6,26] n (fun gh a4 a5 a6 i wr=>∃ q:Nat,gh+q=n/\i=.int .i64 q/\a4=.int .i64 (fstC d q:Nat)/\Arr wr G 3 (nats (fstF d n q))/\wr.heap[P]?=some (.cells #[.int .i64 (k:Int),.int .i64 (S:Int),.slice (some ⟨fb,fo,none⟩) n fc,.slice (some ⟨b,off,none⟩) n cap] 42 (0,0))/\w.grownBy wr none)
 case atStart=>exact⟨0,rfl,rfl,rfl,n3.out,m8.out,m3.out⟩
 case round =>
  clear n3 m8 m3;obtain⟨q,a1,rfl,rfl,h0,h6,h3⟩:=hrel;have h7:=Kh a1;have HA:=Kh h0;have H5:=Kh h6;have H4:=Kh h3;obtain⟨d0,d1,d2,d3⟩:=zF h6;clear a1;by_cases hq:q<n
  ·have n9:(q:Int)<n:=by omega
   have cf0:=(c8.out _ h3).fin (q:=0) (by omega);have cfq:=(c8.out _ h3).fin hq;have s5:=h0.frozen q;have t0:=h0.nat q (by rw[lS (by omega)];exact hq);have i9:(nats (fstF d n q)).length=n:=by rw[zT,lS (by omega)]
   rw[Nat.add_zero]at cf0;by_cases e:d.final.getD q false=d.final.getD 0 false
   ·obtain⟨h1,h2⟩:=fstF_same hq e
    have H1:=Kh h1;have H2:=Kh h2;rw[e]at cfq
    generalize d.final.getD 0 false=b0 at cf0 cfq
    have e1:(b0 != b0)=false:=by simp
    clear h1 h2 e h0 h6;go_wp2;go_roundg (n - (q+1))
    case measure=>have:=h7.out;omega
    case rel=>exact⟨q+1,by have:=h7.out;omega,by go_num,by rw[H2.out],by rw[H1.out];exact HA.out,H5.out,H4.out⟩
   ·obtain⟨h1,h2⟩:=fstF_diff hq e
    have H1:=Kh h1;have H2:=Kh h2;have e1:(d.final.getD q false == d.final.getD 0 false)=false:=by rw[beq_eq_false_iff_ne];exact e
    generalize d.final.getD 0 false=b0 at cf0 e1
    generalize d.final.getD q false=b1 at cfq e1
    clear h1 h2 e h0 h6;go_wp2;go_roundg (n - (q+1))
    case measure=>have:=h7.out;omega
    case rel=>exact⟨q+1,by have:=h7.out;omega,by go_num,by rw[H2.out];rfl,by rw[H1.out];exact HA.out.nat_set q (by rw[lS (by omega)];exact hq) 1,zB H5.out (zC wr ⟨G,q,none⟩ _) (fun e=>by have e:G=P:=Oj e;omega),zA H4.out (zC wr ⟨G,q,none⟩ _) (fun k e=>by have e:G=k:=Oj e;omega)⟩
  ·have f3:q=n:=by have:=h7.out;omega
   obtain⟨l1,l4⟩:=fst_part0 HD.out
   have n4:Hid (Arr wr G 3 (nats (yP d k 0))):=Kh (by
    rw[show yP d k 0=fstF d n q by rw[f3,fstF,l1];simp[yP]];exact h0)
   have r0:Hid (fstC d q=cls (yP d k 0)):=Kh (by rw[f3,l4];rfl);rw[r0.out];have H8:=Kh f3;clear f3 l1 l4 HA h7 h0 h6 h3;obtain⟨w3,rfl⟩:∃ w3:World,w3=wr:=⟨_,rfl⟩;go_wp2_with fail
   go_loopg [3,4,7,8,9,10,11,12,13,14,15] (n - cls (yP d k 0)) (fun gh a3 a4 a7 a8 a9 a10 a11 a12 a13 a14 a15 wr=>∃ (m g:Nat),gh=n - cls (yP d k m)/\m<=cls (yP d k m)/\a3=.slice (some ⟨g,0,none⟩) n n/\a4=.int .i64 (cls (yP d k m):Nat)/\Arr wr g 3 (nats (yP d k m))/\w.heap.size<=g/\g≠P/\wr.heap[P]?=some (.cells #[.int .i64 (k:Int),.int .i64 (S:Int),.slice (some ⟨fb,fo,none⟩) n fc,.slice (some ⟨b,off,none⟩) n cap] 42 (0,0))/\w.grownBy wr none)
   case atStart=>exact⟨0,G,rfl,by omega,rfl,rfl,n4.out,o9,by omega,H5.out,H4.out⟩
   case round =>
    clear n4 H5 H4;obtain⟨m,g,rfl,o3,rfl,rfl,h0,s1,s3,h6,h3⟩:=hrel;obtain⟨p,hp⟩:∃ p,p=yP d k m:=⟨_,rfl⟩;have l0:p.length=n:=by rw[hp,yS,HN.out]
    have o7:=cls_le_n HD.out m;have c9:∀ c∈p,c<n:=(by have:=nP (uQ d k m);rw[<- hp,l0]at this;exact this);have j2:Hid (numb (sigL d k p)=yP d k (m+1)):=Kh (by rw[hp];exact clsIt_sig HD.out m);have d8:Hid (cls (yP d k (m+1))=cls (yP d k m)->yP d k (m+1)=yO d k):=Kh (clsIt_stop HD.out (by omega));have e7:Hid (cls (yP d k (m+1))≠cls (yP d k m)->cls (yP d k m)<cls (yP d k (m+1))):=Kh (clsIt_more HD.out);rw[<- hp]at h0;obtain⟨C,hC⟩:∃ C,C=cls (yP d k m):=⟨_,rfl⟩;rw[<- hC]at d8 e7 o3 o7 ⊢;have x2:=Kh hp;have j3:=Kh c9;have q9:=Kh hC;have HA:=Kh h0;have H5:=Kh h6;have H4:=Kh h3;have k7:(sigL d k p).length=n:=by rw[lK,l0]
    obtain⟨wm,f1⟩:∃ wm,wm=wr.alloc (.map #[] 0):=⟨_,rfl⟩;obtain⟨mb,i3⟩:∃ mb,mb=wr.heap.size:=⟨_,rfl⟩;have i8:wr.grownBy wm none:=by rw[f1];exact Ga wr _ none
    have e6:Hid (MapK 176 qHG sigV wm mb 0 0 (numF [])):=Kh (by
     rw[f1,i3,<- numF_nil];exact MapK.made _ _ _ _)
    have t3:=zK h6;have s2:=h0.lt;have p1:=Kh f1;have c6:=Kh i8;have q0:=Kh i3;have r2:=i8.size;have r6:=e6.out.lt;have t4:P<mb:=(by omega);have o4:g<mb:=(by omega);have n7:w.heap.size<=mb:=by have:=h3.size;omega
    clear hp c9 hC h0 h6 h3 i8 f1 i3;obtain⟨wo,rfl⟩:∃ wo:World,wo=wr:=⟨_,rfl⟩;go_upto_region 11 with fail;rw[<- p1.out,<- q0.out];obtain⟨d0,d1,d2,d3⟩:=zF (zB H5.out c6.out (by simp));go_wp2_with (first|(at_make;refine lO rfl _ _ _ rfl yU rfl .i64 .i64 _ _ n rfl rfl rfl rfl ?b1 ?b2 ?_;(case b1=>omega);(case b2=>(unfold maxLen;omega));intro w4 h0 b8 i4;(obtain⟨e0,e1,e2,e3⟩:=zF (zB (zB H5.out c6.out (by simp)) b8 (by simp))))|fail);obtain⟨F,hF⟩:∃ F,F=wm.heap.size:=⟨_,rfl⟩;rw[<- hF]at h0 i4 ⊢;obtain⟨sg,g5⟩:∃ sg,sg=sigL d k p:=⟨_,rfl⟩;rw[<- g5]at j2 k7;have s4:g<F:=(by omega);have t5:P<F:=(by omega);have r8:mb<F:=(by omega);have l6:w.heap.size<=F:=by omega
    have i2:(numb sg).length=n:=by rw[yN,k7]
    have p5:=Kh g5;have g0:=Kh i2
    have m4:Hid (Arr w4 F 3 (nats (vX (numb sg) 0))):=Kh (by
     rw[oK,i2,xI];exact h0)
    have l8:=Kh (e6.out.kept b8 (by simp));have n2:=Kh ((HA.out.kept c6.out (by simp)).kept b8 (by simp));have m7:=Kh (zB (zB H5.out c6.out (by simp)) b8 (by simp));have m2:=Kh (zA (zA H4.out c6.out (by simp)) b8 (by simp));clear g5 i2 h0 b8 hF e6 HA H5 H4 c6 d0 d1 d2 d3 e0 e1 e2 e3
    go_loopg [9,10,11,12,13,14,15,48] n (fun gh a9 a10 a11 a12 a13 a14 a15 i wr=>∃ (q c:Nat),gh+q=n/\i=.int .i64 q/\Arr wr F 3 (nats (vX (numb sg) q))/\MapK 176 qHG sigV wr mb q c (numF (zZ (sg.take q)))/\c=(zZ (sg.take q)).length/\Arr wr g 3 (nats p)/\wr.heap[P]?=some (.cells #[.int .i64 (k:Int),.int .i64 (S:Int),.slice (some ⟨fb,fo,none⟩) n fc,.slice (some ⟨b,off,none⟩) n cap] 42 (0,0))/\w.grownBy wr none)
    case atStart=>exact⟨0,0,rfl,rfl,m4.out,by simpa [zZ] using l8.out,by simp[zZ],n2.out,m7.out,m2.out⟩
    case round =>
     clear m4 l8 n2 m7 m2;obtain⟨q,c,a1,rfl,h0,H0,hc,d7,h6,h3⟩:=hrel;have h7:=Kh a1;have HF:=Kh h0;have e6:=Kh H0;have HA:=Kh d7;have H5:=Kh h6;have H4:=Kh h3;have e9:=Kh hc;obtain⟨d0,d1,d2,d3⟩:=zF h6;have r1:=h3.size;have t7:=h0.lt;have s8:c<=q:=by rw[hc];have:=tG (sg.take q);rw[List.length_take]at this;omega
     clear a1;by_cases hq:q<n
     ·have n9:(q:Int)<n:=by omega
      have hh:=(c8.out _ h3).hd q hq;have g9:=(c8.out _ h3).rcap q hq;have n8:=(c8.out _ h3).rlt q hq;have g8:=g9.1;have g7:RC q<=9223372036854775807:=by have:=g9.2;unfold maxLen at this;omega
      have d6:=d7.nat q (by omega);obtain⟨rb,i0⟩:∃ rb,rb=RB q:=⟨_,rfl⟩;obtain⟨ro,g6⟩:∃ ro,ro=RO q:=⟨_,rfl⟩;obtain⟨rc,a2⟩:∃ rc,rc=RC q:=⟨_,rfl⟩;rw[<- i0,<- g6,<- a2]at hh;rw[<- a2]at g8 g7;have q8:Hid (∀ W:World,w.grownBy W none->∀ a,a<k->W.cell? ⟨rb,ro+a,none⟩=some (.int .i64 ((nx d q a:Nat):Int))):=Kh (fun W hg a ha=>by rw[i0,g6];exact(c8.out W hg).el q a hq ha);obtain⟨pq,f4⟩:∃ pq,pq=p.getD q 0:=⟨_,rfl⟩;rw[<- f4]at d6;have x1:=Kh f4;obtain⟨wk,f2⟩:∃ wk,wk=wr.alloc (.cells #[.int .i64 (pq:Int),.int .i64 0,.int .i64 0,.int .i64 0,.int .i64 0,.int .i64 0,.int .i64 0] 176):=⟨_,rfl⟩;obtain⟨kb,i7⟩:∃ kb,kb=wr.heap.size:=⟨_,rfl⟩;have b7:wr.grownBy wk none:=by rw[f2];exact Ga wr _ none
      have m0:Hid (Arr wk kb 176 (nats (mU d p q 0))):=Kh (by
       rw[f2,i7];have:=Arr.new wr 176 #[.int .i64 (pq:Int),.int .i64 0,.int .i64 0,.int .i64 0,.int .i64 0,.int .i64 0,.int .i64 0];rw[show nats (mU d p q 0)=#[Value.int .i64 (pq:Int),.int .i64 0,.int .i64 0,.int .i64 0,.int .i64 0,.int .i64 0,.int .i64 0].toList by rw[mU,<- f4];rfl]
       exact this)
      have p2:=Kh f2;have q2:=Kh i7;have q3:=Kh (zA h3 b7 (by simp));have m5:=Kh (h0.kept b7 (by simp));have l9:=Kh (H0.kept b7 (by simp));have j7:=Kh (d7.kept b7 (by simp));have f0:=Kh (zB h6 b7 (by simp));have t8:F<kb:=(by omega);clear h0 H0 d7 h6 h3 i0 g6 a2 f4 f2 i7 b7 g9 n8 hc;go_upto_region 16 with fail;rw[<- p2.out,<- q2.out];clear d0 d1 d2 d3 d6 hh HF e6 HA H5 H4;have r5:g<kb:=(by omega);go_wp2_with fail
      go_loopg [12,13,60] k (fun gh a12 a13 i wr=>∃ x:Nat,gh+x=k/\i=.int .i64 x/\Arr wr kb 176 (nats (mU d p q x))/\wk.grownBy wr (some kb))
      case atStart=>exact⟨0,rfl,rfl,m0.out,zL _ _⟩
      case round =>
       clear m0;obtain⟨x,a1,rfl,h0,h3⟩:=hrel;have H8:=Kh a1;have HK:=Kh h0;have H4:=Kh h3;have H6:=zA q3.out h3 (fun k e=>by have e:kb=k:=Oj e;omega);have m1:=Kh H6;clear a1;by_cases hx:x<k
       ·have r4:(x:Int)<k:=by omega
        have cel:=q8.out wr H6 x hx;have n6:=nO HD.out hq hx;obtain⟨y,hy⟩:∃ y,y=nx d q x:=⟨_,rfl⟩;rw[<- hy]at cel n6;have n5:(y:Int)<n:=(by omega);have cy:=(j7.out.kept h3 (fun e=>by have e:kb=g:=Oj e;omega)).nat y (by omega);have h4:=sigTo_set (d:=d) (p:=p) (q:=q) (x:=x) (by omega);rw[<- hy]at h4;have H3:=Kh h4;have k8:=nH (d:=d) (p:=p) (q:=q) (x:=x) (by omega);have ck:=h0.nat (1+x) (by omega);have fk:=h0.frozen (1+x);have p6:=Kh k8;obtain⟨z,hz⟩:∃ z,z=p.getD y 0:=⟨_,rfl⟩;rw[<- hz]at cy;have HZ:=Kh hz;clear h4 k8 hz hy h0 h3 H6;go_wp2;go_roundg (k - (x+1))
        case measure=>have:=H8.out;omega
        case rel=>exact⟨x+1,by have:=H8.out;omega,by go_num,by rw[<- H3.out,<- HZ.out];exact HK.out.nat_set (1+x) (by rw[p6.out];omega) z,zD H4.out (zC wr ⟨kb,1+x,none⟩ _)⟩
       ·have g4:x=k:=by have:=H8.out;omega
        have x0:=Kh g4;rw[g4]at h0 HK;have c7:=Kh (m5.out.kept h3 (fun e=>by have e:kb=F:=Oj e;omega));have e4:=Kh (l9.out.kept h3 (fun e=>by have e:kb=mb:=Oj e;omega));have n0:=Kh (j7.out.kept h3 (fun e=>by have e:kb=g:=Oj e;omega));have m6:=Kh (zB f0.out h3 (fun e=>by have e:kb=P:=Oj e;omega));have k9:q<sg.length:=by omega
        have j9:sg[q]=mU d p q k:=by
         have e:=p5.out;subst e;exact bT (by omega)
        have b4:=numb_stepG k9;have H7:=fU k9;rw[j9]at b4 H7;obtain⟨y0,y1,y2,y3,y4,y5,y6,hL⟩:=seven (nH (d:=d) (p:=p) (q:=q) (x:=k) l2)
        have i1:qHG [y0,y1,y2,y3,y4,y5,y6]:=by
         rw[<- hL];exact⟨nH l2,fun z hz=>by have:=sigTo_lt j3.out o0 z hz;omega⟩
        rw[hL]at h0 HK b4 H7;obtain⟨k0,k1,k2,k3,k4,k5,k6⟩:=sig7_cells h0;have h4:=mM (l:=numb sg) (k:=q) (by have:=g0.out;omega);have i9:=xU (l:=numb sg) (k:=q) (by have:=g0.out;omega);have g2:Hid ((vX (numb sg) q).length=n):=Kh (by rw[i9,g0.out]);have cF:=c7.out.nat q (by rw[g2.out];exact hq);have fF:=c7.out.frozen q;have b5:=e4.out.lookup bS i1;obtain⟨Fs,j1⟩:∃ Fs,Fs=zZ (sg.take q):=⟨_,rfl⟩;rw[<- j1]at b4 H7 b5 e4 e9;have x4:=Kh j1;have p8:=Kh i1;clear hL j9 i9 h0 h3 H6 j1 i1 g4 m5 l9 j7 f0;by_cases hin:[y0,y1,y2,y3,y4,y5,y6]∈Fs
        ·obtain⟨I,hI⟩:∃ I,I=(numb sg).getD q 0:=⟨_,rfl⟩
         have H9:=numb_old (hI.trans b4) hin;rw[uR hin]at H7;rw[H9]at b5;rw[<- hI]at h4;replace b5:(Instr.lookup 174 (.map (some mb)) (.agg #[.int .i64 (y0:Int),.int .i64 (y1:Int),.int .i64 (y2:Int),.int .i64 (y3:Int),.int .i64 (y4:Int),.int .i64 (y5:Int),.int .i64 (y6:Int)]) true).run Try.prog wr=.ok (.tuple #[.int .i64 (I:Int),.bool true]) wr:=b5;have H3:=Kh h4;have e8:=Kh H7;clear h4 H7 b4 hI hin H9;go_wp2;go_roundg (n - (q+1))
         case measure=>have:=h7.out;omega
         case rel =>
          refine⟨q+1,c,by have:=h7.out;omega,by go_num,by rw[<- H3.out];exact c7.out.nat_set q (by rw[g2.out];exact hq) I,?_,by rw[e8.out];exact e9.out,n0.out.kept (zC wr ⟨F,q,none⟩ _) (fun e=>by have e:F=g:=Oj e;omega),zB m6.out (zC wr ⟨F,q,none⟩ _) (fun e=>by have e:F=P:=Oj e;omega),zA m1.out (zC wr ⟨F,q,none⟩ _) (fun k e=>by have e:F=k:=Oj e;omega)⟩;rw[e8.out];exact(e4.out.mono (by omega)).kept (zC wr ⟨F,q,none⟩ _) (fun e=>by have e:F=mb:=Oj e;omega)
        ·obtain⟨I,hI⟩:∃ I,I=(numb sg).getD q 0:=⟨_,rfl⟩
         have h8:=numF_no hin;have l5:=numb_new (hI.trans b4) hin;rw[wV hin]at H7;rw[h8]at b5;rw[<- hI]at h4;have o8:I=c:=by rw[l5];exact e9.out.symm
         have o5:c<4611686018427387904:=(by omega);have h9:=numF_new hin;rw[<- e9.out]at h9;subst o8;replace b5:(Instr.lookup 174 (.map (some mb)) (.agg #[.int .i64 (y0:Int),.int .i64 (y1:Int),.int .i64 (y2:Int),.int .i64 (y3:Int),.int .i64 (y4:Int),.int .i64 (y5:Int),.int .i64 (y6:Int)]) true).run Try.prog wr=.ok (.tuple #[.int .i64 0,.bool false]) wr:=b5;have i6:=e4.out.len bS;have H3:=Kh h4;have e8:=Kh H7;have j4:=Kh h9;have d9:=Kh h8;clear h4 H7 b4 hI hin h8 l5 h9;go_wp2_with (first|(at_mapUpdate;refine pI bS rfl _ _ _ rfl mb q I (numF Fs) [y0,y1,y2,y3,y4,y5,y6] I rfl rfl rfl e4.out (by unfold maxLen;omega) p8.out o5 ?_;intro w5 a0 f7;(have c5:=Kh a0);(have g1:=Kh f7);(have fF5:=(c7.out.kept f7 (fun e=>by have e:mb=F:=Oj e;omega)).frozen q);(have cF5:=(c7.out.kept f7 (fun e=>by have e:mb=F:=Oj e;omega)).nat q (by rw[g2.out];exact hq));clear a0 f7)|fail);rw[d9.out]at c5;replace c5:=c5.out;have e5:(if (none:Option Nat).isSome=true then I else I+1)=I+1:=rfl;rw[e5,j4.out]at c5;have q1:=Kh c5;clear c5 e5;go_roundg (n - (q+1))
         case measure=>have:=h7.out;omega
         case rel =>
          have f5:=zC w5 ⟨F,q,none⟩ (.int .i64 (I:Int));refine⟨q+1,I+1,by have:=h7.out;omega,by go_num,?_,?_,by rw[e8.out,List.length_append,<- e9.out];rfl,(n0.out.kept g1.out (fun e=>by have e:mb=g:=Oj e;omega)).kept f5 (fun e=>by have e:F=g:=Oj e;omega),zB (zB m6.out g1.out (fun e=>by have e:mb=P:=Oj e;omega)) f5 (fun e=>by have e:F=P:=Oj e;omega),zA (zA m1.out g1.out (fun k e=>by have e:mb=k:=Oj e;omega)) f5 (fun k e=>by have e:F=k:=Oj e;omega)⟩
          ·rw[<- H3.out]
           exact(c7.out.kept g1.out (fun e=>by have e:mb=F:=Oj e;omega)).nat_set q (by rw[g2.out];exact hq) I
          ·rw[e8.out]
           exact q1.out.kept f5 (fun e=>by have e:F=mb:=Oj e;omega)
     ·have b3:q=n:=by have:=h7.out;omega
      have l3:c=cls (yP d k (m+1)):=by
       rw[hc,b3,List.take_of_length_le (by omega),<- j2.out,cls_numb]
      have i6:=H0.len bS
      have j5:Hid (Arr wr F 3 (nats (yP d k (m+1)))):=Kh (by
       have e:vX (numb sg) q=yP d k (m+1):=by rw[b3,<- j2.out,<- g0.out];exact mO _
       rw[<- e];exact h0)
      have j6:=Kh l3;rw[<- l3]at d8 e7;have o6:c<=n:=by omega
      clear h0 H0 hc d7 b3;by_cases he:c=C
      ·have q7:=Kh (d8.out he)
       have p9:Hid ((yO d k).length=n):=Kh (by rw[wN,HN.out]);subst he;clear d8 e7 j6;go_wp2;go_ret;rw[q7.out]at j5;exact⟨F,by rw[p9.out];rfl,l6,j5.out,h3⟩
      ·have r9:=e7.out he
       have s7:((c:Int) == (C:Int))=false:=by rw[beq_eq_false_iff_ne];omega
       have x3:=Kh he;have q4:=Kh h3;clear d8 e7 he h3;go_wp2;go_roundg (n - cls (yP d k (m+1)))
       case measure=>have:=j6.out;have:=q9.out;omega
       case rel=>exact⟨m+1,F,rfl,by have:=j6.out;omega,rfl,rfl,j5.out,l6,by omega,h6,q4.out⟩
def PMinOk (w:World)(m:DfaV)(e:Ending)(w':World):Prop:=∃ v sv,e=.returned (.tuple #[v,sv])/\pT w w' v m/\w.grownBy w' none
def iV (d:DfaV)(p:List Nat)(k q x:Nat):List Nat:=(List.range x).map (fun a=>p.getD (nx d q a) 0)++List.replicate (k - x) 0
theorem nR {d:DfaV}{p:List Nat}{k q x:Nat}(h:x<=k):(iV d p k q x).length=k:=by simp[iV];omega
theorem mapTo_set {d:DfaV}{p:List Nat}{k q x:Nat}(h:x<k):(iV d p k q x).set x (p.getD (nx d q x) 0)=iV d p k q (x+1):=by
 unfold iV;rw[List.set_append_right _ _ (by simp),List.range_succ,List.map_append,show k - x=(k - (x+1))+1 by omega,List.replicate_succ];simp
theorem mapTo_full {d:DfaV}{n k q:Nat}{p:List Nat}(hd:VD d n k)(hq:q<n):nats (iV d p k q k)=ints (vH p (d.next.getD q [])):=by
 have e:(iV d p k q k).map (fun(x:Nat)=>(x:Int))=vH p (d.next.getD q []):=by
  refine List.ext_getElem (by rw[List.length_map,nR (Nat.le_refl k),vH,List.length_map,hd.row q hq]) fun i h1 h2=>?_;have hi:i<k:=by rw[List.length_map,nR (Nat.le_refl k)]at h1;exact h1
  rw[<- zG (d:=0) h2,jQ (by rw[hd.row q hq];exact hi)];simp[iV,hi,nx,entN,ent]
 rw[<- e];simp[nats,ints]
theorem pminimal_any (B:Nat)(w:World)(v:Value)(d:DfaV)(n k:Nat)(hB:B<=w.heap.size)(h:uW B w v d)(hd:VD d n k)(h5:n<=512):Calls Try.prog 85 #[v] w (PMinOk w (minD (xT d k) k)):=by
 have c8:=h;obtain⟨fb,fo,fc,b,off,cap,RB,RO,RC,rfl,z2⟩:=h.at hd;have E0:=hd.n1;have E1:=hd.k6;have E2:=hd.k1;have i2:=lI hd;have z7:=(xQ hd).2;obtain⟨T,hT⟩:∃ T,T=xT d k:=⟨_,rfl⟩;obtain⟨N,hN⟩:∃ N,N=(zV d k).length:=⟨_,rfl⟩;rw[<- hT,<- hN]at i2;rw[<- hN]at z7;rw[<- hT];have F2:=i2.n1;have H0:=Kh i2;have o2:=Kh hT;have B7:=Kh hN;obtain⟨p,hp⟩:∃ p,p=yO T k:=⟨_,rfl⟩;have e9:p.length=N:=by rw[hp,wN,i2.hn]
 have q6:Norm p:=by rw[hp];exact tY T k
 have f5:minD T k=xT (uT T p) k:=by rw[hp];rfl
 have HP:=Kh hp;have c4:=Kh q6;have o7:=Kh f5;obtain⟨S,hS⟩:∃ S,S=st0 d:=⟨_,rfl⟩;have p9:dAgg k (st0 d) fb fo fc b off cap n=.agg #[.int .i64 (k:Int),.int .i64 (S:Int),.slice (some ⟨fb,fo,none⟩) n fc,.slice (some ⟨b,off,none⟩) n cap]:=by rw[hS];rfl
 rw[p9]at c8 ⊢;obtain⟨b7,j6,j2,p6⟩:=nD w #[.int .i64 (k:Int),.int .i64 (S:Int),.slice (some ⟨fb,fo,none⟩) n fc,.slice (some ⟨b,off,none⟩) n cap] #[.int .i64 0,.int .i64 0,.slice none 0 0,.slice none 0 0] 42;obtain⟨wA,m7⟩:∃ wA,wA=(w.alloc (.cells #[.int .i64 (k:Int),.int .i64 (S:Int),.slice (some ⟨fb,fo,none⟩) n fc,.slice (some ⟨b,off,none⟩) n cap] 42)).alloc (.cells #[.int .i64 0,.int .i64 0,.slice none 0 0,.slice none 0 0] 42):=⟨_,rfl⟩;rw[<- m7]at b7 j6 j2 p6;obtain⟨c0,c1,c2,c3⟩:=zF b7;obtain⟨P,hP⟩:∃ P,P=w.heap.size:=⟨_,rfl⟩;obtain⟨Q,hQ⟩:∃ Q,Q=w.heap.size+1:=⟨_,rfl⟩;have B4:=Kh hP;have B2:Hid (Q=P+1):=Kh (by omega);have F1:P<Q:=by omega
 have E8:Q<wA.heap.size:=by omega
 have F0:w.heap.size<=P:=by omega
 have A3:B<=wA.heap.size:=by omega
 rw[<- hQ]at j6;rw[<- hP]at b7 c0 c1 c2 c3 hB;have t8:=Kh b7;have t7:=Kh j6;have C1:=Kh j2;have A6:=Kh m7;have i3:=Kh (qAP B wA _ d n k A3 (c8.kept j2 (by simp)) hd h5);clear b7 j6 j2 m7 z2 hd h c8 p9 hS p6 hP hQ hT hN hp q6 f5 i2;go_enter Try.func85,Try.ntmps85;go_upto_region 1 with fail;rw[<- A6.out,<- B4.out,<- B2.out];go_wp2_with fail;refine i3.out.mono ?_;rintro e w1 ⟨v1,G,rfl,⟨o,hs,sf,cf,sn,cn,rfl,ho,c9⟩,F5,s0,f7⟩;rw[<- o2.out]at c9 ⊢;have h6:T.letters=k:=H0.out.hk;have i1:T.start=0:=by rw[o2.out];rfl
 have m9:T.final.length=N:=H0.out.hn;have m8:T.next.length=N:=H0.out.nl
 have j4:uW w1.heap.size w1 (.agg #[.int .i64 (k:Int),.int .i64 0,.slice sf N cf,.slice sn N cn]) T:=by
  have:=c9.dfa;rw[h6,i1,m9,m8]at this;have e:(⟨(k:Int),0,T.final,T.next⟩:DfaV)=T:=by rw[<- h6,<- i1]
  rwa [e]at this
 rw[h6,i1,m9,m8];obtain⟨tfb,tfo,tfc,tb,toff,tcap,TRB,TRO,TRC,ev,a6⟩:=j4.at H0.out;have k8:(st0 T:Int)=0:=by rw[bQ H0.out];exact i1
 rw[dAgg,k8,Value.agg.injEq]at ev;have ev:=congrArg Array.toList ev;simp only[List.cons.injEq,Value.slice.injEq,true_and,and_true]at ev;obtain⟨⟨rfl,rfl⟩,rfl,rfl⟩:=ev;have x8:=a6.fcap;have x9:=a6.cap;unfold maxLen at x8 x9;have H7:Hid (∀ W:World,w1.grownBy W none->DAt w1.heap.size W T N k tfb tfo cf tb toff cn TRB TRO TRC):=Kh (fun W hg=>a6.kept hg (by simp));clear a6
 obtain⟨zs,k0,k2⟩:∃ zs:List Int,Arr w1 G 3 (ints zs)/\zs.length=n/\∀ q,q<n->zs.getD q 0 = -1\/∃ i:Nat,i<N/\zs.getD q 0=(i:Int):=⟨_,s0,wW _ _,fun q hq=>by
  rw[cO hq,rD]
  split
  ·rename_i hm
   exact .inr ⟨_,by rw[B7.out];exact List.idxOf_lt_length_of_mem hm,rfl⟩
  ·exact .inl rfl⟩
 have A4:=Kh k2.2;have D2:=k2.1;obtain⟨T4,n0⟩:∃ T4,T4=w1.heap.size:=⟨_,rfl⟩;obtain⟨w2,k5⟩:∃ w2,w2=w1.alloc (.cells #[.int .i64 (k:Int),.int .i64 0,.slice (some ⟨tfb,tfo,none⟩) N cf,.slice (some ⟨tb,toff,none⟩) N cn] 42):=⟨_,rfl⟩;have H8:=Ga w1 (.cells #[.int .i64 (k:Int),.int .i64 0,.slice (some ⟨tfb,tfo,none⟩) N cf,.slice (some ⟨tb,toff,none⟩) N cn] 42) none;have e7:=heap_alloc_new w1 (.cells #[.int .i64 (k:Int),.int .i64 0,.slice (some ⟨tfb,tfo,none⟩) N cf,.slice (some ⟨tb,toff,none⟩) N cn] 42);rw[<- k5]at H8 e7;rw[<- n0]at e7;have D5:=f7.size;have x1:=H8.size;have z4:=zK e7;have E9:Q<T4:=by omega
 obtain⟨d0,d1,d2,d3⟩:=zF e7;have e4:=Kh (zB (zB t8.out f7 (by simp)) H8 (by simp));have i7:=Kh (zB (zB t7.out f7 (by simp)) H8 (by simp));have t6:=Kh e7;have A8:=Kh k5;have A9:=Kh n0;have s1:=Kh (k0.kept H8 (by simp));have E5:=k0.lt;have s9:=Kh (j4.kept H8 (by simp));have C6:=Kh (zA (zA C1.out f7 (by simp)) H8 (by simp));have p0:=Kh H8;have t4:=Kh (pclasses_any w1.heap.size w2 _ T N k x1 (j4.kept H8 (by simp)) H0.out (by omega));clear c9 s0 h6 i1 m9 m8 j4 k0 k2 e7 k5 H8 f7 i3 t8 t7 c0 c1 c2 c3 n0;obtain⟨a0,a1,a2,a3⟩:=zF e4.out;go_upto_region 2 with fail;rw[<- A8.out,<- A9.out];go_wp2_with fail;refine t4.out.mono ?_;rintro e w3 ⟨G6,rfl,F6,h4,a4⟩;rw[<- HP.out]at h4 ⊢;rw[e9];have D4:=a4.size;have i9:=Kh (zB e4.out a4 (by simp));have p3:=Kh (zB i7.out a4 (by simp));have d9:=Kh (zB t6.out a4 (by simp));have n9:=Kh (s1.out.kept a4 (by simp));have C7:=Kh (s9.out.kept a4 (by simp));have C5:=Kh (zA C6.out a4 (by simp));have H6:=Kh (zA p0.out a4 (by simp));have p5:=Kh h4;have A2:=h4.lt;clear t4 h4 a4 d0 d1 d2 d3 a0 a1 a2 a3 e4 i7 t6 s1 s9;obtain⟨a0,a1,a2,a3⟩:=zF i9.out;obtain⟨oQ,l5⟩:∃ oQ,oQ=w3.heap.size:=⟨_,rfl⟩;obtain⟨w5,k4⟩:∃ w5,w5=w3.alloc (.cells #[.int .i64 (k:Int),.int .i64 0,.slice none 0 0,.slice none 0 0] 42):=⟨_,rfl⟩;have m0:=Ga w3 (.cells #[.int .i64 (k:Int),.int .i64 0,.slice none 0 0,.slice none 0 0] 42) none;have g0:=heap_alloc_new w3 (.cells #[.int .i64 (k:Int),.int .i64 0,.slice none 0 0,.slice none 0 0] 42);rw[<- k4]at m0 g0;rw[<- l5]at g0;have A7:=Kh k4;have B5:=Kh l5;have b3:Hid (BX w3 w5 oQ (fun _=>False) k (uZ T p 0) (sH T p 0) [] none 0 none 0):=Kh (BX.start g0 (by omega) m0);have y2:=zK g0;clear k4 l5 m0 g0;go_upto_region 4 with fail;rw[<- A7.out,<- B5.out];go_wp2_with fail
 go_loopg [8,9,10,11,12,30] N (fun gh a8 a9 a10 a11 a12 i wr=>∃ (q:Nat) (X:Nat->Prop) (hs:List Value) (sf:Option Addr) (cf:Nat) (sn:Option Addr) (cn:Nat),gh+q=N/\i=.int .i64 q/\BX w3 wr oQ X k (uZ T p q) (sH T p q) hs sf cf sn cn)
 case atStart=>exact⟨0,_,_,_,_,_,_,rfl,rfl,b3.out⟩
 case round =>
  clear b3;obtain⟨q,X,hs,sf,cf,sn,cn,H9,rfl,e6⟩:=hrel;have e8:=Kh H9;have b3:=Kh e6;have h9:=e6.grown;have d7:=Kh h9;obtain⟨d0,d1,d2,d3⟩:=zF e6.box;obtain⟨t0,t1,t2,t3⟩:=zF (zB d9.out h9 (by simp));obtain⟨a0,a1,a2,a3⟩:=zF (zB i9.out h9 (by simp));by_cases hq:q<N
  ·have D8:(q:Int)<N:=by omega
   have cq:=(p5.out.kept h9 (by simp)).nat q (by omega);obtain⟨f4,l6,y6⟩:=kR c4.out (q:=q) (by omega);have a7:=dZ (d:=T) c4.out (show q<=p.length by omega);have h6:=dY (d:=T) c4.out (show q<=p.length by omega);obtain⟨M,hM⟩:∃ M,M=cls (p.take q):=⟨_,rfl⟩;obtain⟨c,hc⟩:∃ c,c=p.getD q 0:=⟨_,rfl⟩;have F3:M<=q:=by rw[hM];have:=iP (p.take q);rw[List.length_take]at this;omega
   rw[<- hM]at a7 h6 f4 l6;rw[<- hc]at cq f4 l6;have HM:=Kh hM;have HC:=Kh hc;have j9:=Kh a7;have o1:=Kh h6;rw[a7]at d2;rw[h6]at d3;clear H9 e6 h9 l6 y6 hM hc a7 h6;by_cases m4:c<M
   ·have f9:(c:Int)<M:=by omega
    have e1:Hid (uZ T p (q+1)=uZ T p q/\sH T p (q+1)=sH T p q):=Kh (by
     have:p.getD q 0≠cls (p.take q):=by rw[<- HC.out,<- HM.out];omega
     exact⟨quotFs_old this,quotTs_old this⟩)
    go_wp2;go_roundg (N - (q+1))
    case measure=>have:=e8.out;omega
    case rel=>exact⟨q+1,X,hs,sf,cf,sn,cn,by have:=e8.out;omega,by go_num,by rw[e1.out.1,e1.out.2];exact b3.out⟩
   ·have z0:c=M:=by omega
    have f9:¬ (c:Int)<M:=by omega
    have e1:Hid (uZ T p (q+1)=uZ T p q++[T.final.getD q false]/\sH T p (q+1)=sH T p q++[vH p (T.next.getD q [])]):=Kh (by
     have:p.getD q 0=cls (p.take q):=by rw[<- HC.out,<- HM.out];exact z0
     exact⟨quotFs_new this,quotTs_new this⟩)
    have i0:=H7.out wr (zA H6.out d7.out (by simp));have H1:=i0.rcap q hq;have l1:=H1.1;have l0:TRC q<=9223372036854775807:=by have:=H1.2;unfold maxLen at this;omega
    obtain⟨rb,l3⟩:∃ rb,rb=TRB q:=⟨_,rfl⟩;obtain⟨ro,k9⟩:∃ ro,ro=TRO q:=⟨_,rfl⟩;obtain⟨rc,l2⟩:∃ rc,rc=TRC q:=⟨_,rfl⟩;have s6:Hid (∀ W:World,w3.grownBy W none->W.cell? ⟨tb,toff+q,none⟩=some (.slice (some ⟨rb,ro,none⟩) k rc)):=Kh (fun W hg=>by rw[l3,k9,l2];exact(H7.out W (zA H6.out hg (by simp))).hd q hq);have s8:Hid (∀ W:World,w3.grownBy W none->∀ a,a<k->W.cell? ⟨rb,ro+a,none⟩=some (.int .i64 ((nx T q a:Nat):Int))):=Kh (fun W hg a ha=>by rw[l3,k9];exact(H7.out W (zA H6.out hg (by simp))).el q a hq ha);have i5:Hid (∀ W:World,w3.grownBy W none->W.cell? ⟨tfb,tfo+q,none⟩=some (.bool (T.final.getD q false))):=Kh (fun W hg=>(H7.out W (zA H6.out hg (by simp))).fin hq);rw[<- l2]at l1 l0;clear i0 H1 l3 k9 l2;go_wp2_with (first|(at_make;refine lO rfl _ _ _ rfl yU rfl .i64 .i64 _ _ k rfl rfl rfl rfl ?b1 ?b2 ?_;(case b1=>omega);(case b2=>(unfold maxLen;omega));intro w7 h0 e5 l8;(obtain⟨u0,u1,u2,u3⟩:=zF (zB (zB d9.out d7.out (by simp)) e5 (by simp)));(have chd:=s6.out _ (zA d7.out e5 (by simp))))|fail);obtain⟨g,hg⟩:∃ g,g=wr.heap.size:=⟨_,rfl⟩;rw[<- hg]at h0 l8 ⊢
    have p4:Hid (Arr w7 g 3 (nats (iV T p k q 0))):=Kh (by
     rw[show iV T p k q 0=List.replicate k 0 by simp[iV],xI];exact h0)
    have i6:=Kh (b3.out.grow e5);have q8:∀ j,X j->j<g:=fun j hj=>by have:=b3.out.lt j hj;omega
    have B8:=Kh q8;have E7:oQ<g:=(by have:=zK b3.out.box;omega);have m1:w3.heap.size<=g:=by have:=d7.out.size;omega
    have C2:=Kh (zA d7.out e5 (by simp));have F7:=Kh e5.size;have E6:wr.heap.size<=g:=by omega
    clear h0 e5 q8 hg d0 d1 d2 d3 t0 t1 t2 t3 a0 a1 a2 a3 u0 u1 u2 u3 chd cq
    go_loopg [11,12,49] k (fun gh a11 a12 i wr=>∃ x:Nat,gh+x=k/\i=.int .i64 x/\Arr wr g 3 (nats (iV T p k q x))/\w7.grownBy wr (some g))
    case atStart=>exact⟨0,rfl,rfl,p4.out,zL _ _⟩
    case round =>
     obtain⟨x,H9,rfl,h0,h9⟩:=hrel;have d8:=Kh H9;have HA:=Kh h0;have o9:=Kh h9;have h3:=zA C2.out h9 (fun k e=>by have e:g=k:=Oj e;omega);have C4:=Kh h3;clear H9;by_cases hx:x<k
     ·have D7:(x:Int)<k:=by omega
      have cel:=s8.out wr h3 x hx;have x4:=nO H0.out hq hx;obtain⟨y,hy⟩:∃ y,y=nx T q x:=⟨_,rfl⟩;rw[<- hy]at cel x4;have x3:(y:Int)<N:=(by omega);have cy:=(p5.out.kept h3 (by simp)).nat y (by omega);have c6:=mapTo_set (d:=T) (p:=p) (q:=q) hx;rw[<- hy]at c6;have o4:=Kh c6;have s5:=Kh (nR (d:=T) (p:=p) (q:=q) (k:=k) (x:=x) (by omega));have ck:=h0.nat x (by rw[s5.out];exact hx);have fk:=h0.frozen x;obtain⟨z,hz⟩:∃ z,z=p.getD y 0:=⟨_,rfl⟩;rw[<- hz]at cy;have HZ:=Kh hz;clear c6 hz hy h0 h9 h3;go_wp2;go_roundg (k - (x+1))
      case measure=>have:=d8.out;omega
      case rel=>exact⟨x+1,by have:=d8.out;omega,by go_num,by rw[<- o4.out,<- HZ.out];exact HA.out.nat_set x (by rw[s5.out];exact hx) z,zD o9.out (zC wr ⟨g,x,none⟩ _)⟩
     ·have x5:x=k:=by have:=d8.out;omega
      subst x5;obtain⟨cur,rest,f8,_⟩:=p4.out;have z3:¬ X g:=fun hx=>by have:=B8.out g hx;omega
      have H3:=i6.out.put h9 f8 z3 m1;have p2:=Kh H3;have t9:Hid (Arr wr g 3 (ints (vH p (T.next.getD q [])))):=Kh (by rw[<- mapTo_full H0.out hq];exact h0);obtain⟨d0,d1,d2,d3⟩:=zF H3.box;have fz2:=zE H3.box 2;have d5:=zB d9.out h3 (by simp);obtain⟨t0,t1,t2,t3⟩:=zF d5;have cfin:=i5.out wr h3;have z5:=zK d5;have y3:=zK H3.box
      have x7:tfb<wr.heap.size:=by
       have:=(H7.out wr (zA H6.out h3 (by simp))).frow.1;exact this
      rw[j9.out]at d2;rw[o1.out]at d3;obtain⟨bf,m5⟩:∃ bf,bf=T.final.getD q false:=⟨_,rfl⟩;rw[<- m5]at cfin;have C9:=Kh m5;have o5:Hid (∀ W1:World,wr.grownBy W1 none->W1.ownsRow oQ 4 1 (.slice sf M cf) M (bls (uZ T p q))/\oQ<=W1.heap.size):=Kh (fun W1 hg=>⟨by have:=zP p2.out.ownF hg;rwa [j9.out]at this,by have:=hg.size;omega⟩)
      have b9:Hid (∀ (W1 w':World) (sf':Option Addr) (cf':Nat),w'.ownsRow oQ 4 1 (.slice sf' (M+1) cf') (M+1) (bls (uZ T p q)++[.bool bf])->W1.grownBy w' (Value.slice sf M cf).ownBlock->wr.grownBy W1 none ->
        BX w3 (w'.setCell ⟨oQ,2,none⟩ (.slice sf' (M+1) cf')) oQ X x (uZ T p q++[bf]) (sH T p q) hs sf' cf' sn cn/\Arr (w'.setCell ⟨oQ,2,none⟩ (.slice sf' (M+1) cf')) g 3 (ints (vH p (T.next.getD q [])))/\w'.frozen? ⟨oQ,2,none⟩=false/\w'.cell? ⟨oQ,2,none⟩=some (.slice sf M cf)):=Kh (fun W1 w' sf' cf' ho hg h1=>by
       have n2:=p2.out.grow h1;have n8:=n2.ownF;have m6:=n2.box;rw[j9.out]at n8 m6;have b7:=zB m6 hg (zQ n8 m6 (by decide));have hp:=n2.pushF (b:=bf) j9.out ho hg rfl;have r6:=t9.out.kept h1 (by simp);obtain⟨cg,rg,y9,_⟩:=id r6
       exact⟨hp,(r6.kept hg (zQ n8 y9 (by decide))).kept (zC w' ⟨oQ,2,none⟩ _) (fun e=>by have e:oQ=g:=Oj e;omega),zE b7 2,(zF b7).2.2.1⟩)
      obtain⟨wo,rfl⟩:∃ wo:World,wo=wr:=⟨_,rfl⟩;clear f8 H3 h0 h9 h3 d5 m5 p4;go_wp2_with fail
      go_region_law (first|(refine qAH ?g1 (.tmp 63) (.tmp 69) 39 ?g2 xW oQ (.slice sf M cf) M (bls (uZ T p q)) ?g3 ?g4 (.bool bf) wo.heap.size (0,0) ?g5 ?g6 ?g7 ?g8 ?g9 ?g10 ?_;(case g1=>rfl);(case g2=>rfl);(case g3=>rfl);(case g4=>(refine(o5.out _ ?_).1;exact wU (o:=.cells #[.bool bf] 4) rfl rfl rfl rfl));(case g5=>rfl);(case g6=>exact heap_alloc_new (wo.drew) _);(case g7=>rfl);(case g8=>(unfold maxLen;omega));(case g9=>omega);(case g10=>(refine(o5.out _ ?_).2;exact wU (o:=.cells #[.bool bf] 4) rfl rfl rfl rfl));intro sf8 cf8 w8 b4 q9;have j0:=b9.out _ _ _ _ b4 q9 (wU (o:=.cells #[.bool bf] 4) rfl rfl rfl rfl);have m2:=j0.2.2.1;have m3:=j0.2.2.2;have j8:=Kh j0;clear j0 b4 q9)|fail)
      all_goals
       clear b9 o5 m2 m3 d0 d1 d2 d3 fz2 t0 t1 t2 t3 cfin p2 t9 i6 b3 s6 s8 i5;obtain⟨w9,p8⟩:∃ W9,W9=w8.setCell ⟨oQ,2,none⟩ (.slice sf8 (M+1) cf8):=⟨_,rfl⟩;rw[<- p8]at j8 ⊢;have H4:=j8.out.1;have x0:=Kh j8.out.2.1;have j7:=Kh H4;have n6:=H4.ownN;obtain⟨d0,d1,d2,d3⟩:=zF H4.box;rw[o1.out]at d3 n6;have s4:=Kh n6;have y1:=zK H4.box;clear p8 j8 H4 n6;go_wp2_with (first|(at_builtin;refine qCF rfl _ _ _ rfl uP oQ (.slice sn M cn) M hs rfl s4.out (.slice (some ⟨g,0,none⟩) x x) rfl rfl ?a1 ?a2 ?a3 ?_;(case a1=>(unfold maxLen;omega));(case a2=>omega);(case a3=>omega);intro sn6 cn6 w10 b5 l9 D3 l7;(have B6:=Kh b5);(have C3:=Kh l9);(have r5:=zB j7.out.box l9 (zQ s4.out j7.out.box (by decide)));(obtain⟨e0,e1',e2,e3⟩:=zF r5);(have fz6:=zE r5 3);clear b5 l9 l7)|fail);go_roundg (N - (q+1))
       case measure=>have:=e8.out;omega
       case rel =>
        have hp:=j7.out.pushN (Y:=fun j=>X j\/j=g) o1.out (fun j hj=>.inl hj) (fun j hj=>by
         rcases hj with hj|rfl
         ·exact j7.out.lt j hj
         ·exact x0.out.lt) B6.out C3.out (RowX.of_arr x0.out (by rw[yE,vH,List.length_map,H0.out.row q hq]) (by unfold maxLen;omega) (.inr rfl)) rfl
        rw[C9.out,<- e1.out.1,<- e1.out.2]at hp;exact⟨q+1,_,_,_,_,_,_,by have:=e8.out;omega,by go_num,hp⟩
  ·have l4:q=N:=by have:=e8.out;omega
   have a7:(uZ T p q).length=cls p:=by rw[dZ c4.out (by omega),l4,<- e9,List.take_length]
   have h6:(sH T p q).length=cls p:=by rw[dY c4.out (by omega),l4,<- e9,List.take_length]
   have q5:(⟨(k:Int),0,uZ T p q,sH T p q⟩:DfaV)=uT T p:=by
    have:=quot_full (d:=T) (p:=p) (q:=q) (by omega) (by
     have e:st0 T=0:=by rw[o2.out];rfl
     rw[e];exact norm_zero c4.out)
    rw[<- this,H0.out.hk]
   have j3:=(e6.built (a7.trans h6.symm)).dfa;rw[q5,a7,h6]at j3;obtain⟨M,hM⟩:∃ M,M=cls p:=⟨_,rfl⟩;have F4:M<=N:=by rw[hM,<- e9];exact iP p
   have q4:VD (uT T p) M k:=(by rw[hM];exact qCL H0.out e9 c4.out);rw[<- hM]at j3;rw[a7,<- hM]at d2;rw[h6,<- hM]at d3;have B3:Hid (∀ i,i<N->p.getD i 0<M):=Kh (fun i hi=>by rw[hM];exact rV c4.out (by omega));have i3:=Kh (qAP wr.heap.size wr _ (uT T p) M k (Nat.le_refl _) j3 q4 (by omega));have C0:Hid (w.grownBy wr none):=Kh (zA C5.out h9 (by simp));clear H9 e6 a7 h6 q5 j3 q4 hM l4 e8 t0 t1 t2 t3 a0 a1 a2 a3;go_wp2_with fail;refine i3.out.mono ?_;rintro e wt ⟨vt,Gt,rfl,⟨ot,y0,sft,cft,snt,cnt,rfl,D9,j5⟩,z8,b8,j1⟩;rw[<- o7.out]at j5 ⊢;obtain⟨R,hR⟩:∃ R,R=minD T k:=⟨_,rfl⟩;rw[<- hR]at j5 ⊢;have n4:R.letters=k:=by rw[hR];exact(iJ H0.out).hk
   have n3:R.start=0:=by rw[hR];rfl
   obtain⟨FL,n7⟩:∃ FL,FL=R.final.length:=⟨_,rfl⟩;obtain⟨NL,n5⟩:∃ NL,NL=R.next.length:=⟨_,rfl⟩;rw[n4,n3,<- n7,<- n5];obtain⟨ys,k3,D6⟩:∃ ys:List Int,Arr wt Gt 3 (ints ys)/\ys.length=M:=⟨_,b8,wW _ _⟩;have s3:=Kh hR;have B1:=Kh n4;have B0:=Kh n3;have p1:=Kh n7;have o6:=Kh n5;have C8:=Kh j5;have A5:=Kh k3;have B9:=Kh (zA C0.out j1 (by simp));have o8:=Kh (zA d7.out j1 (by simp));obtain⟨T13,d6⟩:∃ T13,T13=wt.heap.size:=⟨_,rfl⟩;obtain⟨w13,c5⟩:∃ w13,w13=wt.alloc (.cells #[.int .i64 (k:Int),.int .i64 0,.slice sft FL cft,.slice snt NL cnt] 42):=⟨_,rfl⟩;have a5:=Ga wt (.cells #[.int .i64 (k:Int),.int .i64 0,.slice sft FL cft,.slice snt NL cnt] 42) none;have H5:=heap_alloc_new wt (.cells #[.int .i64 (k:Int),.int .i64 0,.slice sft FL cft,.slice snt NL cnt] 42);rw[<- c5]at a5 H5;rw[<- d6]at H5;have D1:=d7.out.size;have D0:=j1.size;have x2:=a5.size;have r7:=zK H5;have y7:=k3.lt;have i8:=Kh H5;have o0:=Kh c5;have o3:=Kh d6;have h8:=Kh a5;have z6:Q<T13:=(by omega);have r8:w3.heap.size<=T13:=by omega
   clear hR n4 n3 n7 n5 j5 b8 k3 j1 H5 c5 d6 a5 d0 d1 d2 d3 b3 i3;go_upto_region 18 with fail;rw[<- o0.out,<- o3.out];go_wp2_with (first|(at_make;refine lO rfl _ _ _ rfl yU rfl .i64 .i64 _ _ n rfl rfl rfl rfl ?b1 ?b2 ?_;(case b1=>omega);(case b2=>(unfold maxLen;omega));intro ws h0 q7 f6)|fail);obtain⟨Gs,r9⟩:∃ Gs,Gs=w13.heap.size:=⟨_,rfl⟩;rw[<- r9]at h0 f6 ⊢;have s2:Hid (Arr ws Gs 3 (ints (List.replicate n 0))):=Kh (by simpa [pC] using h0);have A1:T13<Gs:=(by omega);have z9:Gt<Gs:=(by omega);have s7:=Kh q7;have A0:w13.heap.size<=Gs:=by omega
   clear h0 q7 r9 f6
   go_loopg [16,17,89] n (fun gh a16 a17 i wr=>∃ (j:Nat) (vs:List Int),gh+j=n/\i=.int .i64 j/\vs.length=n/\Arr wr Gs 3 (ints vs)/\w13.grownBy wr none)
   case atStart=>exact⟨0,_,rfl,rfl,by simp,s2.out,s7.out⟩
   case round =>
    clear s2 s7;obtain⟨j,vs,H9,rfl,k7,h0,h2⟩:=hrel;have b0:=Kh H9;have HA:=Kh h0;have i4:=Kh h2;have H2:=zA (zA o8.out h8.out (by simp)) h2 (by simp);clear H9;by_cases hj:j<n
    ·have E3:(j:Int)<n:=by omega
     have cz:=(n9.out.kept H2 (by simp)).int j (by omega);have cs:=h0.int j (by omega);have fs:=h0.frozen j;have b6:=A4.out j hj;obtain⟨z,hz⟩:∃ z,z=zs.getD j 0:=⟨_,rfl⟩;rw[<- hz]at cz b6;have x6:(ints vs).length=n:=by rw[yE,k7]
     rcases b6 with rfl|⟨i,hi,rfl⟩
     ·clear hz h0 h2 H2
      go_wp2;go_roundg (n - (j+1))
      case measure=>have:=b0.out;omega
      case rel=>exact⟨j+1,vs.set j (-1),by have:=b0.out;omega,by go_num,by rw[List.length_set,k7],HA.out.int_set j (by omega) (-1),zA i4.out (zC wr ⟨Gs,j,none⟩ _) (fun k e=>by have e:Gs=k:=Oj e;omega)⟩
     ·have E4:(i:Int)<N:=by omega
      have cp:=(p5.out.kept H2 (by simp)).nat i (by omega);have m4:=B3.out i hi;obtain⟨c,hc⟩:∃ c,c=p.getD i 0:=⟨_,rfl⟩;rw[<- hc]at cp m4;have f9:(c:Int)<M:=(by omega);have cy:=((A5.out.kept h8.out (by simp)).kept h2 (by simp)).int c (by omega);obtain⟨y,hy⟩:∃ y,y=ys.getD c 0:=⟨_,rfl⟩;rw[<- hy]at cy;have F8:=Kh (And.intro hi m4);clear hz hc hy h0 h2 H2;have y5:G6≠Gs:=(by omega);have y4:Gt≠Gs:=(by omega);go_wp2;go_roundg (n - (j+1))
      case measure=>have:=b0.out;omega
      case rel=>exact⟨j+1,(vs.set j (-1)).set j y,by have:=b0.out;omega,by go_num,by rw[List.length_set,List.length_set,k7],(HA.out.int_set j (by omega) (-1)).int_set j (by rw[List.length_set];omega) y,zA (zA i4.out (zC wr ⟨Gs,j,none⟩ _) (fun k e=>by have e:Gs=k:=Oj e;omega)) (zC (wr.setCell ⟨Gs,j,none⟩ (.int .i64 (-1))) ⟨Gs,j,none⟩ _) (fun k e=>by have e:Gs=k:=Oj e;omega)⟩
    ·obtain⟨e0,e1,e2,e3⟩:=zF (zB i8.out h2 (by simp))
     have d4:=zB p3.out H2 (by simp);obtain⟨q0,q1,q2,q3⟩:=zF d4;have f0:=zE d4 0;have f1:=zE d4 1;have f2:=zE d4 2;have f3:=zE d4 3;have t5:=Kh d4;clear d4;go_wp2;obtain⟨r4,c7⟩:=uF t5.out (.int .i64 (k:Int)) (.int .i64 0) (.slice sft FL cft) (.slice snt NL cnt);obtain⟨wz,p7⟩:∃ wz,wz=(((wr.setCell ⟨Q,0,none⟩ (.int .i64 (k:Int))).setCell ⟨Q,1,none⟩ (.int .i64 0)).setCell ⟨Q,2,none⟩ (.slice sft FL cft)).setCell ⟨Q,3,none⟩ (.slice snt NL cnt):=⟨_,rfl⟩;rw[<- p7]at r4 c7 ⊢;clear p7;obtain⟨r0,r1,r2,r3⟩:=zF r4;clear e0 e1 e2 e3 q0 q1 q2 q3 f0 f1 f2 f3;refine bodyPost_ret (v:=.tuple #[.agg #[.int .i64 (k:Int),.int .i64 0,.slice sft FL cft,.slice snt NL cnt],.slice (some ⟨Gs,0,none⟩) n n]) (by simp[results,Try.results85,go_sem,r0,r1,r2,r3]) rfl ?_;have y8:w.grownBy wz none:=zA (zA (zA B9.out h8.out (by simp)) h2 (by simp)) c7 (fun k e=>by have h7:Q=k:=Oj e;omega);have z1:=((C8.out.grow h8.out).grow h2).far c7 t5.out (by omega);refine⟨_,_,rfl,⟨ot,y0,sft,cft,snt,cnt,?_,by omega,by rw[<- s3.out];exact z1⟩,y8⟩;rw[<- s3.out,B0.out,B1.out,p1.out,o6.out]
end Go.Proofs.Ytjfdomfendbhfaa
