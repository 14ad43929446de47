/- Part 15 of the proof: SigPlain, SigKey. -/
import Derived.Test.YtjfdomfendbhfaaQe9
import Derived.DeepKeys4
set_option linter.unusedVariables false
set_option linter.unusedSimpArgs false
namespace Go.Proofs.Ytjfdomfendbhfaa
def pU (d:DfaV) (p:List Nat) (q x:Nat):List Nat:=(p.getD q 0 :: (List.range x).map fun a=>p.getD (nx d q a) 0) ++ List.replicate (6 - x) 0
theorem qL {d:DfaV} {p:List Nat} {q x:Nat} (h:x<=6):(pU d p q x).length=7:=by simp[pU];omega
theorem sigTo_set {d:DfaV} {p:List Nat} {q x:Nat} (h:x < 6):(pU d p q x).set (1+x) (p.getD (nx d q x) 0)=pU d p q (x+1):=by
 unfold pU
 rw[List.set_append_right _ _ (by simp;omega),List.range_succ,List.map_append,show 6 - x=(6 - (x+1))+1 by omega,List.replicate_succ]
 simp[Nat.add_comm]
theorem sigTo_lt {d:DfaV} {p:List Nat} {q x N:Nat} (h:∀ c∈p,c < N) (hN:0 < N):∀ y∈pU d p q x,y < N:=by
 intro y hy
 rcases List.mem_append.1 hy with hy|hy
 ·rcases List.mem_cons.1 hy with rfl|hy
  ·exact rG h hN
  ·obtain⟨a,_,rfl⟩:=List.mem_map.1 hy
   exact rG h hN
 ·rw[List.mem_replicate]at hy;omega
theorem sigTo_iff {d:DfaV} {p:List Nat} {q q' k:Nat}:pU d p q k=pU d p q' k ↔ p.getD q 0=p.getD q' 0/\∀ a,a < k->p.getD (nx d q a) 0=p.getD (nx d q' a) 0:=by
 unfold pU
 constructor
 ·intro h
  have h:=List.append_cancel_right h
  rw[List.cons.injEq,List.map_inj_left]at h
  exact⟨h.1,fun a ha=>h.2 a (List.mem_range.2 ha)⟩
 ·rintro ⟨h1,h2⟩
  rw[h1,List.map_congr_left (fun a ha=>h2 a (List.mem_range.1 ha))]
def sigL (d:DfaV) (k:Nat) (p:List Nat):List (List Nat):=(List.range p.length).map fun q=>pU d p q k
theorem oI (d:DfaV) (k:Nat) (p:List Nat):(sigL d k p).length=p.length:=by simp[sigL]
theorem gV {d:DfaV} {k:Nat} {p:List Nat} {q:Nat} (h:q < p.length):(sigL d k p)[q]'(by rw[oI];exact h)=pU d p q k:=by simp[sigL]
theorem sig_refTo {d:DfaV} {n k:Nat} (hd:VD d n k) {p:List Nat} (hp:p.length=n) (hn:Norm p):numb (sigL d k p)=sD d p k:=by
 have h0:∀ c∈p,c < n:=by have:=oO hn;rwa [hp]at this
 have hl:=oI d k p
 refine nN (qR _) (mF hn k) ⟨by rw[yA,hl,yX],fun i j hi hj=>?_⟩
 rw[yA,hl]at hi hj
 rw[rT (by omega) (by omega),gV hi,gV hj,sigTo_iff,vS hd hp h0 (by omega) (by omega) k (Nat.le_refl _)]
theorem iW {α:Type} [DecidableEq α] {l:List α} {k:Nat} (hk:k < l.length):(numb l).getD k 0=if l[k]∈zV (l.take k) then (zV (l.take k)).idxOf l[k] else (zV (l.take k)).length:=by
 rw[zF (by rw[yA];exact hk),rS hk,<- numb_take hk,List.take_succ_eq_append_getElem hk,tY]
 by_cases h:l[k]∈zV (l.take k)
 ·rw[uG h,if_pos h]
 ·rw[wT h,if_neg h,List.idxOf_append,if_neg h];simp
theorem oU {α:Type} [DecidableEq α] {l:List α} {k:Nat} (hk:k < l.length):zV (l.take (k+1))=xA (zV (l.take k)) l[k]:=by
 rw[List.take_succ_eq_append_getElem hk,tY]
theorem aZ {α:Type} [DecidableEq α] (l:List α):cls (numb l)=(zV l).length:=by
 unfold cls numb
 rw[firsts_map_inj _ _ (fun x hx y _ h=>dZ (xL.2 hx) h),List.length_map]
def xV (d:DfaV) (q:Nat):List Nat:=(List.range q).map fun i=>if d.final.getD i false=d.final.getD 0 false then 0 else 1
def fstC (d:DfaV) (q:Nat):Nat:=if (xV d q).all (· == 0) then 1 else 2
def fstF (d:DfaV) (n q:Nat):List Nat:=xV d q ++ List.replicate (n - q) 0
theorem oT {d:DfaV} {n q:Nat} (h:q<=n):(fstF d n q).length=n:=by simp[fstF,xV];omega
theorem fstF_same {d:DfaV} {n q:Nat} (h:q < n) (e:d.final.getD q false=d.final.getD 0 false):fstF d n (q+1)=fstF d n q/\fstC d (q+1)=fstC d q:=by
 have h1:xV d (q+1)=xV d q ++ [0]:=by
  simp only[xV,List.range_succ,List.map_append,List.map_cons,List.map_nil,if_pos e]
 constructor
 ·unfold fstF
  rw[h1,show n - q=(n - (q+1))+1 by omega,List.replicate_succ,List.append_assoc]
  rfl
 ·unfold fstC
  rw[h1,List.all_append];simp
theorem fstF_diff {d:DfaV} {n q:Nat} (h:q < n) (e:d.final.getD q false≠d.final.getD 0 false):fstF d n (q+1)=(fstF d n q).set q 1/\fstC d (q+1)=2:=by
 have h1:xV d (q+1)=xV d q ++ [1]:=by
  simp only[xV,List.range_succ,List.map_append,List.map_cons,List.map_nil,if_neg e]
 have hl:(xV d q).length=q:=by simp[xV]
 constructor
 ·unfold fstF
  rw[h1,List.set_append_right _ _ (by omega),hl,Nat.sub_self,show n - q=(n - (q+1))+1 by omega,List.replicate_succ,List.set_cons_zero,List.append_assoc]
  rfl
 ·unfold fstC
  rw[h1,List.all_append];simp
theorem fst_part0 {d:DfaV} {n k:Nat} (hd:VD d n k):xV d n=qP d/\fstC d n=cls (qP d):=by
 have hl:(xV d n).length=n:=by simp[xV]
 have hg:∀ i,i < n->(xV d n).getD i 0=if d.final.getD i false=d.final.getD 0 false then 0 else 1:=fun i hi=>by
  rw[zF (by omega)];simp[xV]
 have h8:∀ i j,i < n->j < n->((xV d n).getD i 0=(xV d n).getD j 0 ↔ (qP d).getD i 0=(qP d).getD j 0):=fun i j hi hj=>by
  rw[hg i hi,hg j hj,rC hd hi hj]
  cases d.final.getD i false <;> cases d.final.getD j false <;> cases d.final.getD 0 false <;> simp
 have H4:=qO d
 have h9:=hd.n1
 have h6:Norm (xV d n):=by
  -- the first one is 0; what differs from it is 1
  unfold Norm
  have h0:(xV d n).getD 0 0=0:=by rw[hg 0 (by omega),if_pos rfl]
  refine List.ext_getElem (yA _) fun i h1 h2=>?_
  have hi:i < n:=by omega
  rw[rS h2]
  have key:∀ m,0 < m->m<=n->zV ((xV d n).take m)=if (∃ j,j < m/\(xV d n).getD j 0=1) then [0,1] else [0]:=by
   intro m hm H7
   induction m with
   | zero=>omega
   | succ m ih =>
    have H0:m < (xV d n).length:=by omega
    rw[oU H0,<- zF (d:=0) H0]
    have h7:(xV d n).getD m 0=0\/(xV d n).getD m 0=1:=by rw[hg m (by omega)];split <;> simp
    by_cases hm0:m=0
    ·subst hm0
     rw[h0]
     have:¬ ∃ j,j < 0+1/\(xV d n).getD j 0=1:=by
      rintro ⟨j,hj,e⟩
      have:j=0:=by omega
      subst this;omega
     rw[if_neg this];rfl
    ·rw[ih (by omega) (by omega)]
     by_cases hex:∃ j,j < m/\(xV d n).getD j 0=1
     ·have h5:∃ j,j < m+1/\(xV d n).getD j 0=1:=hex.imp fun j h=>⟨by omega,h.2⟩
      rw[if_pos hex,if_pos h5]
      rcases h7 with e|e <;> rw[e] <;> rfl
     ·rw[if_neg hex]
      rcases h7 with e|e
      ·have h5:¬ ∃ j,j < m+1/\(xV d n).getD j 0=1:=by
        rintro ⟨j,hj,e2⟩
        rcases Nat.lt_succ_iff_lt_or_eq.1 hj with hj|rfl
        ·exact hex ⟨j,hj,e2⟩
        ·omega
       rw[if_neg h5,e];rfl
      ·rw[if_pos ⟨m,by omega,e⟩,e];rfl
  have hk:=key n (by omega) (Nat.le_refl _)
  rw[show (xV d n).take n=xV d n by rw[List.take_of_length_le (by omega)]]at hk
  rw[hk]
  have h7:(xV d n).getD i 0=0\/(xV d n).getD i 0=1:=by rw[hg i hi];split <;> simp
  rw[zF h2]at h7
  rcases h7 with e|e
  ·rw[e];split <;> rfl
  ·rw[e,if_pos ⟨i,hi,by rw[zF h2,e]⟩];rfl
 have H1:xV d n=qP d:=nN h6 (mH d) ⟨by rw[hl,H4,hd.hn],fun i j hi hj=>h8 i j (by omega) (by omega)⟩
 refine⟨H1,?_⟩
 rw[<- H1]
 unfold fstC
 by_cases ha:(xV d n).all (· == 0)=true
 ·rw[if_pos ha]
  have:xV d n=List.replicate n 0:=by
   refine List.eq_replicate_iff.2 ⟨hl,fun x hx=>?_⟩
   simpa using List.all_eq_true.1 ha x hx
  rw[this]
  have h1:(zV (List.replicate n 0)) ⊆ [0]:=fun x hx=>by
   have:=xL.1 hx
   rw[List.mem_replicate]at this
   simp[this.2]
  have h2:=(uY (List.replicate n 0)).length_le_of_subset h1
  have h3:=mS (p:=List.replicate n 0) (by simp;omega)
  unfold cls at h3 ⊢
  simp at h2
  omega
 ·rw[if_neg ha]
  have h1:zV (xV d n) ⊆ [0,1]:=fun x hx=>by
   obtain⟨i,_,rfl⟩:=List.mem_map.1 (xL.1 hx)
   split <;> simp
  have h2:=(uY (xV d n)).length_le_of_subset h1
  have h9:∃ x∈xV d n,x≠0:=by
   apply Classical.byContradiction
   intro H5
   exact ha (List.all_eq_true.2 fun x hx=>by
    have:x=0:=Classical.byContradiction fun h=>H5 ⟨x,hx,h⟩
    simp[this])
  obtain⟨x,hx,H3⟩:=h9
  have H2:x=1:=by
   obtain⟨i,_,rfl⟩:=List.mem_map.1 hx
   split at H3
   ·omega
   ·rename_i h;rw[if_neg h]
  have H6:0∈xV d n:=by
   rw[xV,List.mem_map]
   exact⟨0,List.mem_range.2 (by omega),if_pos rfl⟩
  have h3:[0,1] ⊆ zV (xV d n):=fun y hy=>by
   simp only[List.mem_cons,List.not_mem_nil,or_false]at hy
   rcases hy with rfl|rfl
   ·exact xL.2 H6
   ·exact xL.2 (H2 ▸ hx)
  have h4:=(show [0,1].Nodup by decide).length_le_of_subset h3
  unfold cls
  simp at h2 h4
  omega
theorem clsIt_sig {d:DfaV} {n k:Nat} (hd:VD d n k) (m:Nat):numb (sigL d k (yG d k m))=yG d k (m+1):=sig_refTo hd (by rw[yK,hd.hn]) (vO d k m)
theorem clsIt_stop {d:DfaV} {n k:Nat} (hd:VD d n k) {m:Nat} (hm:m<=n) (h:cls (yG d k (m+1))=cls (yG d k m)):yG d k (m+1)=zR d k:=by
 have e:sD d (yG d k m) k=yG d k m:=Classical.byContradiction fun hne=>by
  have:=oK hd (by rw[yK,hd.hn]) (vO d k m) hne
  rw[yG]at h
  omega
 rw[oB (by rw[hd.hn];exact hm) e,yG,e]
theorem clsIt_more {d:DfaV} {n k:Nat} (hd:VD d n k) {m:Nat} (h:cls (yG d k (m+1))≠cls (yG d k m)):cls (yG d k m) < cls (yG d k (m+1)):=by
 have e:sD d (yG d k m) k≠yG d k m:=fun e=>h (by rw[yG,e])
 exact oK hd (by rw[yK,hd.hn]) (vO d k m) e
theorem cls_le_n {d:DfaV} {n k:Nat} (hd:VD d n k) (m:Nat):cls (yG d k m)<=n:=by
 have:=cls_le (yG d k m)
 rwa [yK,hd.hn]at this
end Go.Proofs.Ytjfdomfendbhfaa
namespace Go.Proofs.Ytjfdomfendbhfaa
open Go.RowKit Go.Maps
theorem kP:Try.prog.underlying 176=some (.array 7 3):=by kernel_rfl
theorem sigmap_under:Try.prog.underlying 174=some (.map 176 3):=by kernel_rfl
theorem sig_keyed:Keyed Try.prog 176:=Keyed.of_law (deep_law_laid (m:=5) (by kernel_rfl) (by decide) (of_decide_eq_true (by kernel_rfl)) (by kernel_rfl) (by kernel_rfl))
theorem nat_wf {x:Nat} (hx:x < 4611686018427387904):(Lit.int .i64 (x:Int)).wf=true:=dO (x:=(x:Int)) ⟨by omega,by omega⟩
theorem uL (d:Nat) {x:Nat} (hx:x < 4611686018427387904):Try.prog.keyLits (d+1) 3 [.int .i64 (x:Int)]=some [.int .i64 (x:Int)]:=by
 unfold Program.keyLits
 rw[uV]
 simp[nat_wf hx]
def sigV (L:List Nat):Value:=.agg #[.int .i64 ((L.getD 0 0:Nat):Int),.int .i64 ((L.getD 1 0:Nat):Int),.int .i64 ((L.getD 2 0:Nat):Int),.int .i64 ((L.getD 3 0:Nat):Int),.int .i64 ((L.getD 4 0:Nat):Int),.int .i64 ((L.getD 5 0:Nat):Int),.int .i64 ((L.getD 6 0:Nat):Int)]
def qCH (L:List Nat):Prop:=L.length=7/\∀ x∈L,x < 4611686018427387904
theorem eY:Try.prog.cellsOf 176=7:=by kernel_rfl
theorem dU:Try.prog.cellsOf 3=1:=by kernel_rfl
theorem sig_some {x0 x1 x2 x3 x4 x5 x6:Nat} (h0:x0 < 4611686018427387904) (h1:x1 < 4611686018427387904) (h2:x2 < 4611686018427387904) (h3:x3 < 4611686018427387904) (h4:x4 < 4611686018427387904) (h5:x5 < 4611686018427387904) (h6:x6 < 4611686018427387904) :
  (keyOf Try.prog 176 (.agg #[.int .i64 (x0:Int),.int .i64 (x1:Int),.int .i64 (x2:Int),.int .i64 (x3:Int),.int .i64 (x4:Int),.int .i64 (x5:Int),.int .i64 (x6:Int)])).isSome=true:=by
 have hk:Try.prog.keyType 176=true:=by kernel_rfl
 unfold keyOf
 rw[kP]
 simp only[hk,Bool.true_and]
 have hf:(Value.agg #[.int .i64 (x0:Int),.int .i64 (x1:Int),.int .i64 (x2:Int),.int .i64 (x3:Int),.int .i64 (x4:Int),.int .i64 (x5:Int),.int .i64 (x6:Int)]).formed Try.prog 176=true:=by
  simp[Value.formed,kP,eY]
 rw[if_pos hf]
 have hl:Try.prog.keyLits (Try.prog.types.size+1) 176 (Value.agg #[.int .i64 (x0:Int),.int .i64 (x1:Int),.int .i64 (x2:Int),.int .i64 (x3:Int),.int .i64 (x4:Int),.int .i64 (x5:Int),.int .i64 (x6:Int)]).cells.toList=some [.int .i64 (x0:Int),.int .i64 (x1:Int),.int .i64 (x2:Int),.int .i64 (x3:Int),.int .i64 (x4:Int),.int .i64 (x5:Int),.int .i64 (x6:Int)]:=by
  have hz:Try.prog.types.size=(Try.prog.types.size - 1)+1:=by kernel_rfl
  rw[hz]
  unfold Program.keyLits
  rw[kP]
  simp[Value.cells,eY,dU,List.range,List.range.loop,uL _ h0,uL _ h1,uL _ h2,uL _ h3,uL _ h4,uL _ h5,uL _ h6]
 rw[hl];rfl
theorem gU:KeyK 174 176 qCH sigV where
 key:=sig_keyed
 und:=sigmap_under
 of:=fun L h=>by
  have hg:∀ i,L.getD i 0 < 4611686018427387904:=fun i=>by
   by_cases hi:i < L.length
   ·rw[zF hi];exact h.2 _ (List.getElem_mem hi)
   ·rw[List.getD,List.getElem?_eq_none (by omega)];simp
  exact sig_some (hg 0) (hg 1) (hg 2) (hg 3) (hg 4) (hg 5) (hg 6)
 inj:=fun L M hL hM e=>by
  simp only[sigV,Value.agg.injEq]at e
  have e:=congrArg Array.toList e
  simp only[List.cons.injEq,Value.int.injEq,true_and,and_true]at e
  refine List.ext_getElem (by rw[hL.1,hM.1]) fun i h1 h2=>?_
  rw[<- zF (d:=0) h1,<- zF (d:=0) h2]
  have:i < 7:=by rw[<- hL.1];exact h1
  match i,this with
  | 0,_=>omega
  | 1,_=>omega
  | 2,_=>omega
  | 3,_=>omega
  | 4,_=>omega
  | 5,_=>omega
  | 6,_=>omega
end Go.Proofs.Ytjfdomfendbhfaa
