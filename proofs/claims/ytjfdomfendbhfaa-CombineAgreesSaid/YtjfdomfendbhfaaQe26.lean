/- Part 26 of the proof: CQb. -/
import Derived.Test.YtjfdomfendbhfaaQe25
set_option linter.unusedVariables false
set_option linter.unusedSimpArgs false
namespace Go.Proofs.Ytjfdomfendbhfaa
open Go.RowKit
def rowV (k g:Nat):Value:=.slice (some ⟨g,0,none⟩) k k
structure QB (w0 w:World) (T F N C B k cnt c0:Nat) (p:List Nat) (fs:List Bool) (t:List (List Int)) (gs:List Nat):Prop where
 box:w.heap[T]?=some (.cells #[.int .i64 (k:Int),.int .i64 (c0:Int),.slice (some ⟨F,0,none⟩) cnt cnt,.slice (some ⟨N,0,none⟩) cnt cnt] 42 (0,0))
 fa:Arr w F 4 (bls (fs ++ List.replicate (cnt - fs.length) false))
 na:Arr w N 34 (gs.map (rowV k) ++ List.replicate (cnt - gs.length) (.slice none 0 0))
 len:gs.length=t.length
 row:∀ i,i < t.length->Arr w (gs.getD i 0) 3 (ints (t.getD i []))
 rl:∀ i,i < t.length->(t.getD i []).length=k
 glo:∀ g∈gs,B<=g
 nd:gs.Nodup
 cl:Arr w C 3 (nats p)
 lo:w0.heap.size<=T/\w0.heap.size<=F/\w0.heap.size<=N/\w0.heap.size<=C
 cB:C < B/\w0.heap.size<=B/\B<=w.heap.size
 grown:w0.grownBy w none
theorem yZ {α:Type} {l m:List α} {i:Nat} {d:α} (h:i < l.length):(l ++ m).getD i d=l.getD i d:=by
 rw[List.getD_eq_getElem?_getD,List.getElem?_append_left h,<- List.getD_eq_getElem?_getD]
theorem nodup_inj {l:List Nat} (h:l.Nodup) {i j:Nat} (hi:i < l.length) (hj:j < l.length) (e:l[i]=l[j]):i=j:=by
 have h1:=h.idxOf_getElem i hi
 have h2:=h.idxOf_getElem j hj
 rw[e]at h1
 omega
section
variable {w0 w w':World} {T F N C B k cnt c0:Nat} {p:List Nat} {fs:List Bool} {t:List (List Int)} {gs:List Nat}
theorem QB.grow (h:QB w0 w T F N C B k cnt c0 p fs t gs) (hg:w.grownBy w' none):QB w0 w' T F N C B k cnt c0 p fs t gs :=
 ⟨zA h.box hg (by simp),h.fa.kept hg (by simp),h.na.kept hg (by simp),h.len,fun i hi=>(h.row i hi).kept hg (by simp),h.rl,h.glo,h.nd,h.cl.kept hg (by simp),h.lo,⟨h.cB.1,h.cB.2.1,Nat.le_trans h.cB.2.2 hg.size⟩,zB h.grown hg (by simp)⟩
theorem QB.box_ne {g e:Nat} {xs:List Value} (h:QB w0 w T F N C B k cnt c0 p fs t gs) (ha:Arr w g e xs) (he:e≠42):g≠T:=ha.type_ne h.box he
theorem gI {g g' e e':Nat} {xs ys:List Value} (h:Arr w g e xs) (h':Arr w g' e' ys) (he:e≠e'):g≠g':=by
 obtain⟨c,r,hc,_⟩:=h'
 exact h.type_ne hc he
theorem QB.mem (h:QB w0 w T F N C B k cnt c0 p fs t gs) {i:Nat} (hi:i < t.length):gs.getD i 0∈gs:=by
 rw[zF (by rw[h.len];exact hi)];exact List.getElem_mem _
theorem QB.setF (h:QB w0 w T F N C B k cnt c0 p fs t gs) (hc:fs.length < cnt) (b:Bool):QB w0 (w.setCell ⟨F,fs.length,none⟩ (.bool b)) T F N C B k cnt c0 p (fs ++ [b]) t gs:=by
 have hg:=zC w ⟨F,fs.length,none⟩ (.bool b)
 refine⟨zA h.box hg (fun e=>(h.box_ne h.fa (by decide)) (Oj e)),?_,h.na.kept hg (fun e=>(gI h.na h.fa (by decide)) (Oj e).symm),h.len,fun i hi=>(h.row i hi).kept hg (fun e=>(gI (h.row i hi) h.fa (by decide)) (Oj e).symm),h.rl,h.glo,h.nd,h.cl.kept hg (fun e=>(gI h.cl h.fa (by decide)) (Oj e).symm),h.lo,⟨h.cB.1,h.cB.2.1,Nat.le_trans h.cB.2.2 hg.size⟩,zB h.grown hg (fun j e=>by have e:F=j:=Oj e;have:=h.lo;omega)⟩
 have h1:=h.fa.bool_set fs.length (by simp;omega) b
 have e:(fs ++ List.replicate (cnt - fs.length) false).set fs.length b=(fs ++ [b]) ++ List.replicate (cnt - (fs ++ [b]).length) false:=by
  rw[List.set_append_right _ _ (Nat.le_refl _),Nat.sub_self]
  obtain⟨m,hm⟩:∃ m,cnt - fs.length=m+1:=⟨cnt - fs.length - 1,by omega⟩
  rw[hm,List.replicate_succ,List.set_cons_zero,List.append_assoc]
  congr 1
  rw[List.length_append,List.length_singleton,show cnt - (fs.length+1)=m by omega];rfl
 rw[e]at h1
 exact h1
theorem QB.setN2 (h:QB w0 w T F N C B k cnt c0 p fs t gs) (hc:gs.length < cnt) {g:Nat} (hg1:(w.setCell ⟨N,gs.length,none⟩ (rowV k g)).grownBy w' none) (ha:Arr w' g 3 (ints (List.replicate k 0))) (hgw:w.heap.size<=g) (hB:B<=w.heap.size):QB w0 w' T F N C B k cnt c0 p fs (t ++ [List.replicate k 0]) (gs ++ [g]):=by
 have hg:=zC w ⟨N,gs.length,none⟩ (rowV k g)
 have h0:∀ {g2 e2:Nat} {xs:List Value},Arr w g2 e2 xs->e2≠34->Arr w' g2 e2 xs:=fun h2 he=>(h2.kept hg (fun e=>(gI h2 h.na he) (Oj e).symm)).kept hg1 (by simp)
 refine⟨zA (zA h.box hg (fun e=>(h.box_ne h.na (by decide)) (Oj e))) hg1 (by simp),h0 h.fa (by decide),?_,by simp[h.len],fun i hi=>?_,fun i hi=>?_,fun x hx=>?_,?_,h0 h.cl (by decide),h.lo,⟨h.cB.1,h.cB.2.1,Nat.le_trans h.cB.2.2 (Nat.le_trans hg.size hg1.size)⟩,zB (zB h.grown hg (fun j e=>by have e:N=j:=Oj e;have:=h.lo;omega)) hg1 (by simp)⟩
 ·have h1:=(h.na.set gs.length (by simp;omega) (rowV k g)).kept hg1 (by simp)
  have e:(gs.map (rowV k) ++ List.replicate (cnt - gs.length) (Value.slice none 0 0)).set gs.length (rowV k g)=(gs ++ [g]).map (rowV k) ++ List.replicate (cnt - (gs ++ [g]).length) (.slice none 0 0):=by
   rw[List.set_append_right _ _ (by simp),List.length_map,Nat.sub_self]
   obtain⟨m,hm⟩:∃ m,cnt - gs.length=m+1:=⟨cnt - gs.length - 1,by omega⟩
   rw[hm,List.replicate_succ,List.set_cons_zero,List.map_append,List.append_assoc]
   congr 1
   rw[List.length_append,List.length_singleton,show cnt - (gs.length+1)=m by omega];rfl
  rw[e]at h1
  exact h1
 ·rw[List.length_append,List.length_singleton]at hi
  by_cases hi2:i < t.length
  ·rw[yZ (by rw[h.len];exact hi2),yZ hi2]
   exact h0 (h.row i hi2) (by decide)
  ·have e:i=t.length:=by omega
   subst e
   have e1:(gs ++ [g]).getD t.length 0=g:=by rw[<- h.len,List.getD_eq_getElem?_getD];simp
   have e2:(t ++ [List.replicate k (0:Int)]).getD t.length []=List.replicate k 0:=by rw[List.getD_eq_getElem?_getD];simp
   rw[e1,e2];exact ha
 ·rw[List.length_append,List.length_singleton]at hi
  by_cases hi2:i < t.length
  ·rw[yZ hi2];exact h.rl i hi2
  ·have e:i=t.length:=by omega
   subst e
   have e2:(t ++ [List.replicate k (0:Int)]).getD t.length []=List.replicate k 0:=by rw[List.getD_eq_getElem?_getD];simp
   rw[e2];simp
 ·rcases List.mem_append.1 hx with hx|hx
  ·exact h.glo x hx
  ·simp at hx;subst hx;omega
 ·rw[List.nodup_append]
  refine⟨h.nd,by simp,fun a ha2 b hb e=>?_⟩
  simp at hb
  subst hb;subst e
  obtain⟨i,hi,e2⟩:=List.getElem_of_mem ha2
  have h3:=(h.row i (by rw[<- h.len];exact hi)).lt
  rw[zF hi,e2]at h3
  omega
theorem QB.setR (h:QB w0 w T F N C B k cnt c0 p fs t gs) {i a:Nat} (hi:i < t.length) (ha:a < k) (x:Int):QB w0 (w.setCell ⟨gs.getD i 0,a,none⟩ (.int .i64 x)) T F N C B k cnt c0 p fs (t.set i ((t.getD i []).set a x)) gs:=by
 have hg:=zC w ⟨gs.getD i 0,a,none⟩ (.int .i64 x)
 have hr:=h.row i hi
 have h0:=h.glo _ (h.mem hi)
 refine⟨zA h.box hg (fun e=>(h.box_ne hr (by decide)) (Oj e)),h.fa.kept hg (fun e=>(gI h.fa hr (by decide)) (Oj e).symm),h.na.kept hg (fun e=>(gI h.na hr (by decide)) (Oj e).symm),by rw[List.length_set];exact h.len,fun j hj=>?_,fun j hj=>?_,h.glo,h.nd,h.cl.kept hg (fun e=>by have e:gs.getD i 0=C:=Oj e;have:=h.cB;omega),h.lo,⟨h.cB.1,h.cB.2.1,Nat.le_trans h.cB.2.2 hg.size⟩,zB h.grown hg (fun j e=>by have e:gs.getD i 0=j:=Oj e;have:=h.cB;omega)⟩
 ·rw[List.length_set]at hj
  by_cases e:i=j
  ·subst e
   have e2:(t.set i ((t.getD i []).set a x)).getD i []=(t.getD i []).set a x:=by rw[List.getD_eq_getElem?_getD];simp[hi]
   rw[e2]
   exact hr.int_set a (by rw[h.rl i hi];exact ha) x
  ·have e2:(t.set i ((t.getD i []).set a x)).getD j []=t.getD j []:=by rw[List.getD_eq_getElem?_getD,List.getElem?_set_ne e,<- List.getD_eq_getElem?_getD]
   rw[e2]
   refine(h.row j hj).kept hg (fun e3=>e ?_)
   have e3:gs.getD i 0=gs.getD j 0:=Oj e3
   rw[zF (by rw[h.len];exact hi),zF (by rw[h.len];exact hj)]at e3
   exact nodup_inj h.nd _ _ e3
 ·rw[List.length_set]at hj
  by_cases e:i=j
  ·subst e
   have e2:(t.set i ((t.getD i []).set a x)).getD i []=(t.getD i []).set a x:=by rw[List.getD_eq_getElem?_getD];simp[hi]
   rw[e2,List.length_set];exact h.rl i hi
  ·have e2:(t.set i ((t.getD i []).set a x)).getD j []=t.getD j []:=by rw[List.getD_eq_getElem?_getD,List.getElem?_set_ne e,<- List.getD_eq_getElem?_getD]
   rw[e2];exact h.rl j hj
theorem QB.setL {r:List Int} {g a:Nat} (h:QB w0 w T F N C B k cnt c0 p fs (t ++ [r]) (gs ++ [g])) (ha:a < k) (x:Int):QB w0 (w.setCell ⟨g,a,none⟩ (.int .i64 x)) T F N C B k cnt c0 p fs (t ++ [r.set a x]) (gs ++ [g]):=by
 have hl:=h.len
 rw[List.length_append,List.length_append,List.length_singleton,List.length_singleton]at hl
 have h1:=h.setR (i:=t.length) (by simp) ha x
 have e1:(gs ++ [g]).getD t.length 0=g:=by rw[show t.length=gs.length by omega,List.getD_eq_getElem?_getD];simp
 have e2:(t ++ [r]).getD t.length []=r:=by rw[List.getD_eq_getElem?_getD];simp
 rw[e1,e2,List.set_append_right _ _ (Nat.le_refl _),Nat.sub_self,List.set_cons_zero]at h1
 exact h1
theorem QB.last {r:List Int} {g:Nat} (h:QB w0 w T F N C B k cnt c0 p fs (t ++ [r]) (gs ++ [g])) (hc:gs.length < cnt):Arr w g 3 (ints r)/\w.cell? ⟨N,gs.length,none⟩=some (rowV k g)/\r.length=k:=by
 have hl:=h.len
 rw[List.length_append,List.length_append,List.length_singleton,List.length_singleton]at hl
 have e1:(gs ++ [g]).getD t.length 0=g:=by rw[show t.length=gs.length by omega,List.getD_eq_getElem?_getD];simp
 have e2:(t ++ [r]).getD t.length []=r:=by rw[List.getD_eq_getElem?_getD];simp
 have h1:=h.row t.length (by simp)
 have h2:=h.rl t.length (by simp)
 rw[e1,e2]at h1
 rw[e2]at h2
 refine⟨h1,?_,h2⟩
 rw[h.na.cell gs.length (by simp <;> omega),List.getElem_append_left (by simp)]
 simp
theorem QB.ok (h:QB w0 w T F N C B k cnt c0 p fs t gs) (hf:fs.length=cnt) (ht:t.length=cnt) (hcm:cnt<=maxLen) (hkm:k<=maxLen):tE w.heap.size w (.agg #[.int .i64 (k:Int),.int .i64 (c0:Int),.slice (some ⟨F,0,none⟩) cnt cnt,.slice (some ⟨N,0,none⟩) cnt cnt]) ⟨k,c0,fs,t⟩:=by
 have h4:=h.fa
 have h0:=h.na
 rw[hf,Nat.sub_self,List.replicate_zero,List.append_nil]at h4
 rw[h.len,ht,Nat.sub_self,List.replicate_zero,List.append_nil]at h0
 have h7:(bls fs).length=cnt:=by rw[xE,hf]
 have h5:(gs.map (rowV k)).length=cnt:=by rw[List.length_map,h.len,ht]
 refine⟨_,_,rfl,?_,?_⟩
 ·have:=h4.rowT' (cap:=cnt) (by omega) hcm
  rw[h7]at this
  exact this.row
 ·have h1:=h0.rowT' (cap:=cnt) (by omega) hcm
  rw[h5]at h1
  refine Mat.of_rowT h1 ⟨by rw[List.length_map,h.len],fun i h2 h3=>?_⟩ (Nat.le_refl _)
  have hr:=(h.row i h3).rowT' (cap:=k) (by rw[yO,h.rl i h3];exact Nat.le_refl _) hkm
  rw[yO,h.rl i h3]at hr
  rw[List.getElem_map]
  have h6:i < gs.length:=by rw[h.len];exact h3
  rw[zF h6,zF h3]at hr
  exact hr
end
end Go.Proofs.Ytjfdomfendbhfaa
