/- Part 24 of the proof: SeqCls, CSplit. -/
import Derived.Test.YtjfdomfendbhfaaQe18
import Derived.Deep.DeepCutAuto
import Derived.BigQuiet
set_option linter.unusedVariables false
set_option linter.unusedSimpArgs false
namespace Go.Proofs.Ytjfdomfendbhfaa
section
variable {d:DfaV} {n k:Nat}
structure SeqI (d:DfaV) (n k:Nat) (p:List Nat):Prop where
 len:p.length=n
 norm:Norm p
 fin:∀ i j,i < n->j < n->p.getD i 0=p.getD j 0->d.final.getD i false=d.final.getD j false
 co:∀ i j,i < n->j < n->(zR d k).getD i 0=(zR d k).getD j 0->p.getD i 0=p.getD j 0
theorem vZ (hd:VD d n k):(zR d k).length=n:=by rw[xP,hd.hn]
theorem classesD_step (hd:VD d n k) {i j:Nat} (hi:i < n) (hj:j < n) (h:(zR d k).getD i 0=(zR d k).getD j 0):∀ a,a < k->(zR d k).getD (nx d i a) 0=(zR d k).getD (nx d j a) 0:=by
 have h0:∀ c∈zR d k,c < n:=by have:=oO (wH d k);rwa [vZ hd]at this
 have h1:=vS hd (vZ hd) h0 hi hj k (Nat.le_refl _)
 rw[pB hd]at h1
 exact(h1.1 h).2
theorem classesD_final (hd:VD d n k) {i j:Nat} (hi:i < n) (hj:j < n) (h:(zR d k).getD i 0=(zR d k).getD j 0):d.final.getD i false=d.final.getD j false:=oY hd _ hi hj h
theorem SeqI.start (hd:VD d n k):SeqI d n k (qP d) :=
 ⟨by rw[qO,hd.hn],mH d,fun i j hi hj h=>(rC hd hi hj).1 h,fun i j hi hj h=>(rC hd hi hj).2 (classesD_final hd hi hj h)⟩
def vK (d:DfaV) (p:List Nat) (a:Nat):List Nat:=eG p (pV d p a)
theorem tT (hd:VD d n k) {p:List Nat} (hp:p.length=n) (hN:Norm p) {a i j:Nat} (hi:i < n) (hj:j < n):(vK d p a).getD i 0=(vK d p a).getD j 0 ↔ p.getD i 0=p.getD j 0/\p.getD (nx d i a) 0=p.getD (nx d j a) 0:=by
 have h1:∀ c∈p,c < n:=by have:=oO hN;rwa [hp]at this
 have h0:=hd.n1
 rw[vK,cV (by rw[yT]) (fun c hc=>?_) (by omega) (by omega),pA (by omega),pA (by omega)]
 rw[hp]
 simp only[pV,List.mem_map,List.mem_range]at hc
 obtain⟨q,hq,rfl⟩:=hc
 exact rG h1 (by omega)
theorem uI (d:DfaV) (p:List Nat) (a:Nat):(vK d p a).length=p.length:=by rw[vK,lM (yT d p a)]
theorem SeqI.step (hd:VD d n k) {p:List Nat} (h:SeqI d n k p) {a:Nat} (ha:a < k):SeqI d n k (vK d p a) :=
 ⟨by rw[uI,h.len],qR _,fun i j hi hj e=>h.fin i j hi hj ((tT hd h.len h.norm hi hj).1 e).1,fun i j hi hj e=>(tT hd h.len h.norm hi hj).2 ⟨h.co i j hi hj e,h.co _ _ (qF hd hi ha) (qF hd hj ha) (classesD_step hd hi hj e a ha)⟩⟩
theorem kR (hd:VD d n k) {p:List Nat} (hp:p.length=n) (hN:Norm p) (a:Nat):cls p<=cls (vK d p a)/\(cls p=cls (vK d p a)->vK d p a=p):=by
 obtain⟨h1,h2⟩:=eB (p:=p) (q:=vK d p a) (uI d p a) (fun i j hi hj e=>((tT hd hp hN (by omega) (by omega)).1 e).1)
 refine⟨h1,fun e=>nN (qR _) hN ⟨uI d p a,fun i j hi hj=>?_⟩⟩
 rw[uI]at hi hj
 exact⟨fun e1=>((tT hd hp hN (by omega) (by omega)).1 e1).1,fun e1=>h2 e i j hi hj e1⟩
def oJ (d:DfaV) (p:List Nat):Nat->List Nat
 | 0=>p
 | a+1=>vK d (oJ d p a) a
theorem SeqI.to (hd:VD d n k) {p:List Nat} (h:SeqI d n k p):∀ a,a<=k->SeqI d n k (oJ d p a)
 | 0,_=>h
 | a+1,ha=>(SeqI.to hd h a (by omega)).step hd (by omega)
theorem kQ (hd:VD d n k) {p:List Nat} (h:SeqI d n k p):∀ a,a<=k->cls p<=cls (oJ d p a)
 | 0,_=>Nat.le_refl _
 | a+1,ha=>Nat.le_trans (kQ hd h a (by omega)) (kR hd (h.to hd a (by omega)).len (h.to hd a (by omega)).norm a).1
theorem iK (hd:VD d n k) {p:List Nat} (h:SeqI d n k p):∀ a,a<=k->cls (oJ d p a)=cls p->oJ d p a=p/\∀ b,b < a->vK d p b=p
 | 0,_,_=>⟨rfl,fun b hb=>by omega⟩
 | a+1,ha,e=>by
  have hI:=h.to hd a (by omega)
  have h1:=kQ hd h a (by omega)
  have h2:=kR hd hI.len hI.norm a
  have e2:cls (oJ d p (a+1))=cls (vK d (oJ d p a) a):=rfl
  obtain⟨h3,h4⟩:=iK hd h a (by omega) (by omega)
  have h5:=h2.2 (by omega)
  rw[h3]at h5
  refine⟨by show vK d (oJ d p a) a=p;rw[h3,h5],fun b hb=>?_⟩
  rcases Nat.lt_succ_iff_lt_or_eq.1 hb with hb|rfl
  ·exact h4 b hb
  ·exact h5
theorem SeqI.stable (hd:VD d n k) {p:List Nat} (h:SeqI d n k p) (hs:∀ a,a < k->vK d p a=p):p=zR d k:=by
 have h0:∀ i j,i < n->j < n->p.getD i 0=p.getD j 0->∀ a,a < k->p.getD (nx d i a) 0=p.getD (nx d j a) 0:=fun i j hi hj e a ha=>by
  have:=tT hd h.len h.norm (a:=a) hi hj
  rw[hs a ha]at this
  exact(this.1 e).2
 have key:∀ m i j,i < n->j < n->p.getD i 0=p.getD j 0->(yG d k m).getD i 0=(yG d k m).getD j 0:=by
  intro m
  induction m with
  | zero=>exact fun i j hi hj e=>(rC hd hi hj).2 (h.fin i j hi hj e)
  | succ m ih =>
   intro i j hi hj e
   exact(vS hd (by rw[yK,hd.hn]) (by rw[<- hd.hn];exact eC d k m) hi hj k (Nat.le_refl _)).2 ⟨ih i j hi hj e,fun a ha=>ih _ _ (qF hd hi ha) (qF hd hj ha) (h0 i j hi hj e a ha)⟩
 refine nN h.norm (wH d k) ⟨by rw[h.len,vZ hd],fun i j hi hj=>?_⟩
 rw[h.len]at hi hj
 exact⟨fun e=>key _ i j hi hj e,fun e=>h.co i j hi hj e⟩
theorem minN_all (hd:VD d n k) (hr:∀ q,q < n->∃ w,zX k w/\run d (st0 d) w=q):minN d k=cls (zR d k):=by
 have hq:=rO hd
 obtain⟨hA,h6⟩:=yV hq
 have hl:=vZ hd
 have hN:=wH d k
 refine Nat.le_antisymm h6 ?_
 have h7:∀ (w:List Nat) (q:Nat),q∈zT (wC d (zR d k)) k->zX k w->run (wC d (zR d k)) q w∈zT (wC d (zR d k)) k:=by
  intro w
  induction w with
  | nil=>exact fun q hq _=>hq
  | cons a w ih =>
   intro q h5 hw
   obtain⟨j,hj,e⟩:=List.getElem_of_mem h5
   have h1:=hA.cl j a (by omega) hj (hw a (by simp))
   rw[zF hj,e]at h1
   exact ih _ h1 (fun b hb=>hw b (List.mem_cons_of_mem _ hb))
 have h0:st0 (wC d (zR d k))∈zT (wC d (zR d k)) k:=by
  rw[<- hA.hd.2,zF hA.hd.1];exact List.getElem_mem _
 have h4:∀ c,c < cls (zR d k)->c∈zT (wC d (zR d k)) k:=fun c hc=>by
  obtain⟨h1,h2⟩:=sH hN hc
  rw[hl]at h2
  obtain⟨w,hw,e⟩:=hr _ h2
  have h3:=h7 w _ h0 hw
  rw[nJ,fA hd hl hN (pB hd) w (rB hd) hw,e,h1]at h3
  exact h3
 have:=(List.nodup_range (n:=cls (zR d k))).length_le_of_subset (fun c hc=>h4 c (List.mem_range.1 hc))
 simpa [minN] using this
theorem SeqI.cls_le (hd:VD d n k) {p:List Nat} (h:SeqI d n k p):cls p<=cls (zR d k) :=
 (eB (p:=p) (q:=zR d k) (by rw[h.len,vZ hd]) (fun i j hi hj e=>h.co i j (by rw[<- h.len];exact hi) (by rw[<- h.len];exact hj) e)).1
theorem minQ (hd:VD d n k):minD (wC d (zR d k)) k=minD d k:=by
 refine dM (rO hd) hd fun w hw=>?_
 rw[nJ,pH hd (rB hd) hw]
end
end Go.Proofs.Ytjfdomfendbhfaa
namespace Go.Proofs.Ytjfdomfendbhfaa
open Go.RowKit
def tI (M:Nat) (p q:List Nat):List Nat:=List.zipWith (fun a b=>a * M+b) p q
theorem vW {M:Nat} {p q:List Nat} (h:q.length=p.length):(tI M p q).length=p.length:=by simp[tI,h]
theorem pairsN_get {M:Nat} {p q:List Nat} (h:q.length=p.length) {i:Nat} (hi:i < p.length):(tI M p q).getD i 0=p.getD i 0 * M+q.getD i 0:=by
 rw[zF (by rw[vW h];exact hi),zF hi,zF (show i < q.length by omega)];simp[tI]
theorem pairsN_lt {M c:Nat} {p q:List Nat} (hp:∀ x∈p,x < c) (hq:∀ x∈q,x < M):∀ x∈tI M p q,x < c * M:=by
 intro x hx
 obtain⟨i,hi,rfl⟩:=List.getElem_of_mem hx
 simp only[tI,List.getElem_zipWith]
 have h0:i < p.length/\i < q.length:=by simp only[tI,List.length_zipWith]at hi;omega
 have h1:=hp _ (List.getElem_mem h0.1);have h2:=hq _ (List.getElem_mem h0.2)
 generalize p[i]=a at h1 ⊢
 generalize q[i]=b at h2 ⊢
 have:a * M+M<=c * M:=by rw[<- Nat.succ_mul];exact Nat.mul_le_mul_right M h1
 omega
theorem pairs_both8 {M:Nat} {p q:List Nat} (h:q.length=p.length) (hq:∀ x∈q,x < M) (hq2:∀ x∈q,x < p.length):numb (tI M p q)=eG p q:=by
 refine pM _ _ (by rw[vW h,sP h]) fun i j hi hj=>?_
 rw[vW h]at hi hj
 simp only[tI,bL,List.getElem_zipWith]
 rw[iT (Nat.le_of_lt (hq2 _ (List.getElem_mem _))) (Nat.le_of_lt (hq2 _ (List.getElem_mem _)))]
 have h1:=hq _ (List.getElem_mem (show i < q.length by omega))
 have h2:=hq _ (List.getElem_mem (show j < q.length by omega))
 constructor
 ·intro e
  have e1:(p[i] * M+q[i]) / M=p[i]:=by rw[Nat.mul_comm,Nat.mul_add_div (by omega),Nat.div_eq_of_lt h1];omega
  have e2:(p[j] * M+q[j]) / M=p[j]:=by rw[Nat.mul_comm,Nat.mul_add_div (by omega),Nat.div_eq_of_lt h2];omega
  have e3:p[i]=p[j]:=by rw[<- e1,<- e2,e]
  rw[e3]at e
  exact⟨e3,by omega⟩
 ·rintro ⟨e1,e2⟩;rw[e1,e2]
def numA (L:List Nat) (K:Nat):List Nat:=(List.range K).map fun i=>if i∈L then L.idxOf i+1 else 0
theorem rU (L:List Nat) (K:Nat):(numA L K).length=K:=by simp[numA]
theorem aI {L:List Nat} {K i:Nat} (hi:i < K):(numA L K).getD i 0=if i∈L then L.idxOf i+1 else 0:=by
 rw[zF (by rw[rU];exact hi)];simp[numA]
theorem numA_nil (K:Nat):numA [] K=List.replicate K 0:=by
 refine List.ext_getElem (by simp[numA]) fun i h1 h2=>by simp[numA]
theorem numA_set {L:List Nat} {K i:Nat} (hi:i ∉ L):(numA L K).set i (L.length+1)=numA (L ++ [i]) K:=by
 refine List.ext_getElem (by simp[numA]) fun j h1 h2=>?_
 rw[List.getElem_set]
 have hj:j < K:=by simpa [numA] using h2
 simp only[numA,List.getElem_map,List.getElem_range]
 split
 ·rename_i e
  subst e
  rw[if_pos (by simp),List.idxOf_append,if_neg hi];simp
 ·rename_i e
  by_cases hj:j∈L
  ·rw[if_pos hj,if_pos (by simp[hj]),List.idxOf_append,if_pos hj]
  ·rw[if_neg hj,if_neg (by simp[hj];omega)]
def midC (l p:List Nat) (k:Nat):List Nat:=(numb l).take k ++ p.drop k
theorem rW {l p:List Nat} {k:Nat} (h:l.length=p.length) (hk:k<=p.length):(midC l p k).length=p.length:=by simp[midC,yA,h];omega
theorem midC_get {l p:List Nat} {k:Nat} (h:l.length=p.length) (hk:k < p.length):(midC l p k).getD k 0=p.getD k 0:=by
 have hl:((numb l).take k).length=k:=by rw[List.length_take,yA];omega
 rw[List.getD_eq_getElem?_getD,midC,List.getElem?_append_right (by omega),hl]
 simp[List.getD]
theorem midC_set {l p:List Nat} {k:Nat} (h:l.length=p.length) (hk:k < p.length):(midC l p k).set k ((numb l).getD k 0)=midC l p (k+1):=by
 have hl:((numb l).take k).length=k:=by rw[List.length_take,yA];omega
 rw[midC,List.set_append_right _ _ (by omega),hl,Nat.sub_self,midC,zW (d:=0) (by rw[yA];omega),List.append_assoc]
 rw[List.drop_eq_getElem_cons hk,List.set_cons_zero];rfl
theorem midC_end {l p:List Nat} {k:Nat} (h:l.length=p.length) (hk:k=p.length):midC l p k=numb l:=by
 subst hk
 rw[midC,List.drop_length,List.append_nil,List.take_of_length_le (by rw[yA];omega)]
theorem split_num {am b x K:Nat} (hx:x=am+b) (hxK:x < K) (hK:K<=1000000):wrap64 (am:Int)=(am:Int)/\wrap64 ((am:Int)+(b:Int))=(x:Int)/\IntKind.i64.wrap ((am:Int)+(b:Int))=(x:Int)/\IntKind.i64.wrap (am:Int)=(am:Int):=by
 have e3:(am:Int)+(b:Int)=(x:Int):=by omega
 rw[e3]
 exact⟨IntWalk.wrap64_in _ (by omega),IntWalk.wrap64_in _ (by omega),xX (by omega),xX (by omega)⟩
set_option maxRecDepth 100000 in
set_option maxHeartbeats 800000 in
theorem eW (w:World) (g gm n c M:Nat) (p q:List Nat) (hp:p.length=n) (hq:q.length=n) (hpc:∀ x∈p,x < c) (hqM:∀ x∈q,x < M) (hcM:c * M<=1000000) (hc:c<=1000000) (hM:M<=1000000) (hn:n<=1000000) (hgm:g≠gm)
  (hA:Arr w g 3 (nats p)) (hB:Arr w gm 3 (nats q)) :
  Calls Try.prog 114 #[.slice (some ⟨g,0,none⟩) n n,.slice (some ⟨gm,0,none⟩) n n,.int .i64 (c:Int),.int .i64 (M:Int)] w fun e w'=>e=.returned (.int .i64 ((cls (numb (tI M p q)):Nat):Int))/\Arr w' g 3 (nats (numb (tI M p q)))/\w.grownBy w' (some g):=by
 have hK:=pairsN_lt hpc hqM
 have a3:=vW (M:=M) (p:=p) (q:=q) (by omega)
 have H8:=Kh (fun(i:Nat) (hi:i < p.length)=>pairsN_get (M:=M) (p:=p) (q:=q) (by omega) hi)
 obtain⟨l,hl⟩:∃ l,l=tI M p q:=⟨_,rfl⟩
 rw[<- hl]at hK a3 H8 ⊢
 obtain⟨K,a9⟩:∃ K,K=c * M:=⟨_,rfl⟩
 rw[<- a9]at hK hcM
 have a0:(c:Int) * (M:Int)=(K:Int):=by rw[a9];simp
 have a8:IntKind.i64.wrap ((c:Int) * (M:Int))=(K:Int):=by rw[a0];exact xX (by omega)
 have h6:=Kh hp;have c7:=Kh hq;have h8:=Kh a3;have HK:=Kh hK
 have HA:=Kh hA;have HB:=Kh hB
 have d6:=hA.lt;have b8:=hB.lt
 have e7:=Kh hqM;have e8:=Kh hpc
 clear hp hq a3 hK hA hB hl a9 hqM hpc
 go_enter Try.func114,Try.ntmps114
 go_wp2_with (first|(at_make;refine kZ rfl _ _ _ rfl xQ rfl .i64 .i64 _ _ K rfl rfl (by first|exact a0|exact a8|rfl) (by first|exact a0|exact a8|rfl) ?b1 ?b2 ?_;(case b1=>omega);(case b2=>(unfold maxLen;omega));intro w2 H1 b9 d4)|fail)
 clear a0 a8
 obtain⟨NB,a7⟩:∃ b,b=w.heap.size:=⟨_,rfl⟩
 rw[<- a7]at H1 ⊢
 have c8:=Kh H1;have a2:=Kh b9;have f0:=Kh a7
 have a6:g≠NB:=by omega
 have a5:gm≠NB:=by omega
 clear H1 b9 a7
 go_loopg [10,11,12,19] n (fun gh v10 a11 a12 i wr=>∃ (k:Nat),gh+k=n/\i=.int .i64 k/\v10=.int .i64 (((zV (l.take k)).length:Nat):Int)/\Arr wr NB 3 (nats (numA (zV (l.take k)) K))/\Arr wr g 3 (nats (midC l p k))/\Arr wr gm 3 (nats q)/\w.grownBy wr (some g))
 case atStart=>exact⟨0,rfl,rfl,rfl,by rw[show zV (l.take 0)=[] from rfl,numA_nil,yR];exact c8.out,by rw[show midC l p 0=p by simp[midC]];exact HA.out.kept a2.out (by simp),HB.out.kept a2.out (by simp),yY a2.out⟩
 case round =>
  clear c8 a2
  obtain⟨k,hg,rfl,rfl,hN,hC,hQ,a4⟩:=hrel
  have HG:=Kh hg;have HN:=Kh hN;have HC:=Kh hC;have HQ:=Kh hQ;have b0:=Kh a4
  clear hg
  by_cases hk:k < n
  ·have d5:(k:Int) < n:=by omega
   have h9:k < p.length:=by rw[h6.out];exact hk
   have H4:k < l.length:=by rw[h8.out];exact h9
   have c1:=Arr.nat hC (i:=k) (by rw[rW h8.out (by omega)];exact h9)
   rw[midC_get h8.out h9]at c1
   have c2:=Arr.nat hQ (i:=k) (by rw[c7.out];exact hk)
   have hx:=H8.out k h9
   have h5:l.getD k 0 < K:=HK.out _ (by rw[zF H4];exact List.getElem_mem _)
   have c3:=Arr.nat hN (i:=l.getD k 0) (by rw[rU];exact h5)
   rw[aI h5]at c3
   have fN:=hN.frozen (l.getD k 0)
   have fC:=hC.frozen k
   have H5:=oU H4
   have h0:=iW H4
   rw[<- zF (d:=0) H4]at H5 h0
   have b6:=midC_set h8.out h9
   have c0:(zV (l.take k)).length<=k:=by have:=vJ (l.take k);rw[List.length_take]at this;omega
   obtain⟨x,b3⟩:∃ x,x=l.getD k 0:=⟨_,rfl⟩
   obtain⟨a,ha⟩:∃ a,a=p.getD k 0:=⟨_,rfl⟩
   obtain⟨b,hb⟩:∃ b,b=q.getD k 0:=⟨_,rfl⟩
   obtain⟨F,hF⟩:∃ F,F=zV (l.take k):=⟨_,rfl⟩
   rw[<- b3]at hx h5 c3 fN H5 h0
   rw[<- ha]at c1 hx
   rw[<- hb]at c2 hx
   rw[<- hF]at c3 H5 h0 c0 HN
   have d1:=Kh H5;have c9:=Kh b6;have f2:=Kh hF
   have e3:a < c:=by rw[ha];exact e8.out _ (by rw[zF h9];exact List.getElem_mem _)
   have d9:b < M:=by rw[hb];exact e7.out _ (by rw[zF (show k < q.length by rw[c7.out];exact hk)];exact List.getElem_mem _)
   have d3:(x:Int) < K:=by exact_mod_cast h5
   have c4:a * M<=1000000:=Nat.le_trans (Nat.le_trans (hx ▸ Nat.le_add_right _ _) (Nat.le_of_lt h5)) hcM
   obtain⟨am,H2⟩:∃ am,am=a * M:=⟨_,rfl⟩
   have e1:(a:Int) * (M:Int)=(am:Int):=by rw[H2];simp
   rw[<- H2]at hx c4
   have E1:=Kh e1
   clear e1 H2
   obtain⟨e5,e6,e4,e0⟩:=split_num hx h5 hcM
   have e2:IntKind.i64.wrap ((a:Int) * (M:Int))=(am:Int):=by rw[E1.out];exact e0
   clear hx b6 H5 b3 ha hb hF e3 d9 c4 h9 H4 hN hC hQ a4 e0
   rw[<- f2.out]
   by_cases hm:x∈F
   ·rw[if_pos hm]at c3 h0
    have HM:=Kh hm
    obtain⟨y,hy⟩:∃ y,y=F.idxOf x:=⟨_,rfl⟩
    have f9:y < F.length:=by rw[hy];exact List.idxOf_lt_length_of_mem hm
    rw[<- hy]at c3 h0
    have h7:=Kh h0
    have b5:¬ ((y+1:Nat):Int)=0:=by omega
    clear hm hy h0
    obtain⟨z,hz⟩:∃ z,z=y+1:=⟨_,rfl⟩
    rw[<- hz]at c3 b5
    have f8:((z:Int) == 0)=false:=by rw[beq_eq_false_iff_ne];exact b5
    have d2:(z:Int) - 1=(y:Int):=by omega
    have f7:IntKind.i64.wrap ((z:Int) - 1)=(y:Int):=by rw[d2];exact xX (by omega)
    have HZ:=Kh hz
    clear hz
    have e1:=E1.out
    go_wp2
    go_quiet (fail)
    go_wp2
    go_roundg (n - (k+1))
    case measure=>have:=HG.out;omega
    case rel =>
     have d8:∀ W:World,W.heap=wr.heap->W.os=wr.os->W.tape=wr.tape->W.output=wr.output->wr.grownBy (W.setCell ⟨g,k,none⟩ (.int .i64 (y:Int))) (some g):=fun W h1 h2 h3 h4=>zD (uW (zN wr (some g)) h2 h3 h4 h1) (zC W _ _)
     have H0:=d8 (wr.drewN nq) rfl rfl rfl rfl
     have H6:zV (l.take (k+1))=F:=by rw[d1.out,uG HM.out]
     refine⟨k+1,by have:=HG.out;omega,by go_num,by rw[H6],?_,?_,HQ.out.kept H0 (fun e=>hgm (Oj e)),zD b0.out H0⟩
     ·rw[H6];exact HN.out.kept H0 (fun e=>a6 (Oj e))
     ·rw[<- c9.out,h7.out]
      exact(HC.out.of_heap rfl).nat_set k (by rw[rW h8.out (by rw[h6.out];omega),h6.out];exact hk) y
   ·rw[if_neg hm]at c3 h0
    have HM:=Kh hm;have h7:=Kh h0
    obtain⟨L,hL⟩:∃ L,L=F.length:=⟨_,rfl⟩
    rw[<- hL]at c0 h0 h7 ⊢
    have a1:=Kh hL
    have g0:L<=1000000:=by omega
    clear hm h0 hL
    have e1:=E1.out
    go_upto_region 6 with fail
    go_quiet (fail)
    go_upto_region 10 with fail
    have H9:wr.grownBy ((wr.drewN nq).setCell ⟨NB,x,none⟩ (.int .i64 ((L:Int)+1))) (some NB):=zD (zU wr nq (some NB)) (zC (wr.drewN nq) ⟨NB,x,none⟩ _)
    have H3:=((HN.out.of_heap (w':=wr.drewN nq) rfl).nat_set x (by rw[rU];exact h5) (L+1))
    rw[a1.out,numA_set HM.out,<- a1.out]at H3
    rw[show ((L+1:Nat):Int)=(L:Int)+1 by omega]at H3
    obtain⟨w5,b4⟩:∃ w5,w5=(wr.drewN nq).setCell ⟨NB,x,none⟩ (.int .i64 ((L:Int)+1)):=⟨_,rfl⟩
    rw[<- b4]at H9 H3 ⊢
    have f1:=Kh H3;have d0:=Kh H9
    have c5:w5.cell? ⟨NB,x,none⟩=some (.int .i64 ((L:Int)+1)):=by
     have:=Arr.nat H3 x (by rw[rU];exact h5)
     rw[aI h5,if_pos (by simp),List.idxOf_append,if_neg HM.out]at this
     rw[this];simp[a1.out]
    have H7:=HC.out.kept H9 (fun e=>a6 (Oj e).symm)
    have f5:=H7.frozen k
    have c6:=Arr.nat H7 k (by rw[rW h8.out (by rw[h6.out];omega),h6.out];exact hk)
    have d7:=H7.lt
    have f6:=Kh H7
    have e9:(L:Int)+1 - 1=(L:Int):=by omega
    have e10:wrap64 (L:Int)=(L:Int):=IntWalk.wrap64_in _ (by omega)
    clear b4 H9 H3 H7 c1 c2 c3 fN fC e1 e2 e4 e5 e6
    go_wp2
    go_roundg (n - (k+1))
    case measure=>have:=HG.out;omega
    case rel =>
     have H0:=zC w5 ⟨g,k,none⟩ (.int .i64 (L:Int))
     have H6:zV (l.take (k+1))=F ++ [x]:=by rw[d1.out,wT HM.out]
     refine⟨k+1,by have:=HG.out;omega,by go_num,by rw[H6,List.length_append,<- a1.out];simp,?_,?_,(HQ.out.kept d0.out (fun e=>a5 (Oj e).symm)).kept H0 (fun e=>hgm (Oj e)),zD (zB b0.out d0.out (fun j e=>by have e:NB=j:=Oj e;have:=f0.out;omega)) H0⟩
     ·rw[H6];exact f1.out.kept H0 (fun e=>a6 (Oj e))
     ·rw[<- c9.out,h7.out]
      exact f6.out.nat_set k (by rw[rW h8.out (by rw[h6.out];omega),h6.out];exact hk) L
  ·have b7:k=n:=by have:=HG.out;omega
   have d5:¬ (k:Int) < n:=by omega
   have HE:Hid (l.take k=l):=Kh (List.take_of_length_le (by rw[h8.out,h6.out];omega))
   have f3:Hid (midC l p k=numb l):=Kh (midC_end h8.out (by rw[h6.out];exact b7))
   have f4:=Kh (aZ l)
   rw[f3.out]at HC
   clear b7 a4 hN hC hQ
   go_wp2
   go_ret
   exact⟨by rw[f4.out,HE.out];rfl,HC.out,b0.out⟩
end Go.Proofs.Ytjfdomfendbhfaa
