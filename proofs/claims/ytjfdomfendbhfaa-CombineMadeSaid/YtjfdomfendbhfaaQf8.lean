/- Part 8 of the proof. -/
import Derived.Test.YtjfdomfendbhfaaQf7
import Derived.DeepKeys4
set_option linter.unusedVariables false
set_option linter.unusedSimpArgs false
set_option maxRecDepth 100000
set_option maxHeartbeats 16000000
namespace Go.Proofs.Ytjfdomfendbhfaa
open Go.RowKit
def PTrimOk (w:World)(d:DfaV)(n k:Nat)(e:Ending)(w':World):Prop :=
 ∃ v G,e=.returned (.tuple #[v,.slice (some ⟨G,0,none⟩) n n])/\sI w w' v (xT d k)/\w.heap.size<=G/\Arr w' G 3 (ints (tI n (zX d k)))/\w.grownBy w' none
theorem qBL (B:Nat)(w:World)(v:Value)(d:DfaV)(n k:Nat)(hB:B<=w.heap.size)(h:uT B w v d)(hd:VD d n k)(h5:n<=512):
  Calls Try.prog 110 #[v] w (PTrimOk w d n k):=by
 have H0:=h;obtain⟨fb,fo,fc,b,off,cap,RB,RO,RC,rfl,H5⟩:=h.at hd;have hn:=hd.hn;have j8:=hd.n1;have k2:=hd.k6;have k3:=hd.k1;have k4:=H5.fcap.1;have H8:=H5.fcap.2;have k5:=H5.cap.1;have H9:=H5.cap.2;have f9:fc<=9223372036854775807:=by unfold maxLen at H8;omega
 have f8:cap<=9223372036854775807:=by unfold maxLen at H9;omega
 obtain⟨S,hS⟩:∃ S,S=st0 d:=⟨_,rfl⟩;have g9:=Kh hS;have d6:dAgg k (st0 d) fb fo fc b off cap n=.agg #[.int .i64 (k:Int),.int .i64 (S:Int),.slice (some ⟨fb,fo,none⟩) n fc,.slice (some ⟨b,off,none⟩) n cap]:=by rw[hS];rfl
 rw[d6]at H0 ⊢;obtain⟨a1,b4,H6,d4⟩:=rX w #[.int .i64 (k:Int),.int .i64 (S:Int),.slice (some ⟨fb,fo,none⟩) n fc,.slice (some ⟨b,off,none⟩) n cap] #[.int .i64 0,.int .i64 0,.slice none 0 0,.slice none 0 0] 42;obtain⟨wA,c4⟩:∃ wA,wA=(w.alloc (.cells #[.int .i64 (k:Int),.int .i64 (S:Int),.slice (some ⟨fb,fo,none⟩) n fc,.slice (some ⟨b,off,none⟩) n cap] 42)).alloc (.cells #[.int .i64 0,.int .i64 0,.slice none 0 0,.slice none 0 0] 42):=⟨_,rfl⟩;rw[<- c4]at a1 b4 H6 d4;obtain⟨c0,c1,c2,c3⟩:=zF a1;obtain⟨P,hP⟩:∃ P,P=w.heap.size:=⟨_,rfl⟩;obtain⟨Q,hQ⟩:∃ Q,Q=w.heap.size+1:=⟨_,rfl⟩;have i2:=Kh hP;have i0:Hid (Q=P+1):=Kh (by omega);have l2:P<Q:=by omega
 have k8:Q<wA.heap.size:=by omega
 have l1:w.heap.size<=P:=by omega
 have g4:B<=wA.heap.size:=by omega
 rw[<- hQ]at b4;rw[<- hP]at a1 c0 c1 c2 c3 hB;have j2:=Kh a1;have j1:=Kh b4;have i6:=Kh H6;have g5:=Kh c4;have j3:=Kh (H5.kept H6 (by simp));have HN:=Kh hn;have HD:=Kh hd;have e7:=Kh (rP B wA _ d g4 (H0.kept H6 (by simp)));have g7:=Kh (fA hd h5);clear a1 b4 H6 c4 H5 hn hd h H0 d6 H8 H9 hS d4 hP hQ;go_enter Try.func110,Try.ntmps110;go_upto_region 1 with fail;rw[<- g5.out,<- i2.out,<- i0.out];go_wp2_with fail;refine e7.out.mono ?_;rintro e w1 ⟨rfl,H4⟩;rw[g7.out];have j7:=H4.size;have i7:=Kh H4;have H3:=Kh (zA j2.out H4 (by simp));have c9:=Kh (zA j1.out H4 (by simp));have e9:=Kh (explore_any B w1 P d n k S fb fo fc b off cap RB RO RC g9.out h5 ⟨H3.out,j3.out.kept H4 (by simp)⟩);obtain⟨d0,d1,d2,d3⟩:=zF H3.out;clear H4 e7 c0 c1 c2 c3;go_wp2_with fail;refine e9.out.mono ?_;rintro e w2 ⟨v2,sa,sc,rfl,⟨o,hs,sf,cf,sn,cn,rfl,ho,H1⟩,h3,b9⟩;clear e9 d0 d1 d2 d3;obtain⟨h6,g0⟩:=xK HD.out;obtain⟨l,hl⟩:∃ l,l=zX d k:=⟨_,rfl⟩;have HL:=Kh hl;rw[<- hl]at h3 h6 g0 ⊢;have g1:=h6.hd.1;obtain⟨gl,rfl,k0,j9,a2⟩:=wQ h3 g1;obtain⟨m,hm⟩:∃ m,m=xT d k:=⟨_,rfl⟩;rw[<- hm]at H1;have HM:=Kh hm;have a6:(xT d k).start=0:=rfl;have b0:(xT d k).letters=k:=HD.out.hk;rw[<- hm]at a6 b0;rw[<- hm,a6,b0];have j4:=Kh a2;have c8:=Kh b9;have a4:=Kh h6;have i9:=Kh H1;have i4:=Kh a6;have i5:=Kh b0;have j6:=b9.size;obtain⟨FL,c6⟩:∃ FL,FL=m.final.length:=⟨_,rfl⟩;obtain⟨NL,c5⟩:∃ NL,NL=m.next.length:=⟨_,rfl⟩;rw[<- c6,<- c5];have i8:=Kh c6;have i3:=Kh c5;clear hl h3 a2 b9 h6 hm a6 b0 H1 c6 c5;obtain⟨w3,b6⟩:∃ w3,w3=w2.alloc (.cells #[.int .i64 (k:Int),.int .i64 0,.slice sf FL cf,.slice sn NL cn] 42):=⟨_,rfl⟩;obtain⟨T,hT⟩:∃ T,T=w2.heap.size:=⟨_,rfl⟩;have H7:=Ga w2 (.cells #[.int .i64 (k:Int),.int .i64 0,.slice sf FL cf,.slice sn NL cn] 42) none;have a0:=heap_alloc_new w2 (.cells #[.int .i64 (k:Int),.int .i64 0,.slice sf FL cf,.slice sn NL cn] 42);rw[<- b6]at H7 a0;rw[<- hT]at a0;have b5:=Kh H7;have j0:=Kh a0;have g6:=Kh b6;have g8:=Kh hT;have j5:=H7.size;have k7:=zI a0;have k9:Q<T:=by omega
 have l0:P+1<w3.heap.size:=by omega
 obtain⟨d0,d1,d2,d3⟩:=zF (zA (zA H3.out c8.out (by simp)) H7 (by simp));clear H7 a0 b6 hT;go_upto_region 4 with fail;rw[<- g6.out,<- g8.out];go_wp2_with (first|(at_make;refine nD rfl _ _ _ rfl yP rfl .i64 .i64 _ _ n rfl rfl rfl rfl ?b1 ?b2 ?_;(case b1=>omega);(case b2=>(unfold maxLen;omega));intro w4 h0 e5 b8)|fail);obtain⟨G,hG⟩:∃ G,G=w3.heap.size:=⟨_,rfl⟩;rw[<- hG]at h0 b8 ⊢;have f5:=Kh h0;have e8:=Kh e5;have c7:=Kh hG;have l3:T<G:=by omega
 clear h0 e5 hG d0 d1 d2 d3
 go_loopg [8,32] n (fun gh a7 i wr=>∃ q:Nat,gh+q=n/\i=.int .i64 q/\Arr wr G 3 (ints (iE n q))/\w3.grownBy wr none)
 case atStart=>exact⟨0,rfl,rfl,by simpa [iE,sU] using f5.out,e8.out⟩
 case round =>
  clear f5 e8;obtain⟨q,hg,rfl,h0,h4⟩:=hrel;have HG:=Kh hg;have HA:=Kh h0;have a3:=Kh h4;clear hg;by_cases hq:q<n
  ·have f7:(q:Int)<n:=by omega
   have cgk:=h0.int q (by rw[pC (by omega)];exact hq);have fgk:=h0.frozen q;have HS:=Kh (qCY hq);clear h0 h4;go_wp2;go_roundg (n - (q+1))
   case measure=>have:=HG.out;omega
   case rel =>
    refine⟨q+1,by omega,by go_num,?_,zB a3.out (zC wr ⟨G,q,none⟩ _) (fun q e=>by have h7:G=q:=Oj e;have:=c7.out;omega)⟩;rw[<- HS.out];exact HA.out.int_set q (by rw[pC (by omega)];exact hq) (-1)
  ·have d7:q=n:=by have:=HG.out;omega
   have HF:Hid (iE n q=tI n (l.take 0)):=Kh (by rw[d7,List.take_zero,bJ];simp[iE]);rw[HF.out]at HA;clear d7 h0 h4 HG;obtain⟨w5,rfl⟩:∃ w5:World,w5=wr:=⟨_,rfl⟩;go_wp2
   go_loopg [9,10,41] l.length (fun gh a8 a9 i wr=>∃ q:Nat,gh+q=l.length/\i=.int .i64 q/\Arr wr G 3 (ints (tI n (l.take q)))/\w3.grownBy wr none)
   case atStart=>exact⟨0,rfl,rfl,HA.out,a3.out⟩
   case round =>
    clear HA a3 HF;obtain⟨q,hg,rfl,h0,h4⟩:=hrel;have HG:=Kh hg;have HA:=Kh h0;have a3:=Kh h4;clear hg;by_cases hq:q<l.length
    ·have f7:(q:Int)<l.length:=by omega
     have cl:=((j4.out.kept b5.out (by simp)).kept h4 (by simp)).nat q hq;have b7:l.getD q 0<n:=a4.out.lt _ (by rw[zG hq];exact List.getElem_mem _);have a5:l.take (q+1)=l.take q++[l.getD q 0]:=zR hq
     have h9:l.getD q 0 ∉ l.take q:=by
      have h1:=a4.out.nd;have h2:(l.take (q+1)).Nodup:=h1.sublist (List.take_sublist _ _);rw[a5,List.nodup_append]at h2;exact fun hm=>h2.2.2 _ hm _ (by simp) rfl
     obtain⟨s,hs⟩:∃ s,s=l.getD q 0:=⟨_,rfl⟩;rw[<- hs]at cl b7 a5 h9;have f6:(s:Int)<n:=(by omega);have cgk:=h0.int s (by rw[vF];exact b7);have fgk:=h0.frozen s
     have HS:Hid ((tI n (l.take q)).set s (q:Int)=tI n (l.take (q+1))):=Kh (by
      have:=bI (n:=n) h9;rw[List.length_take,Nat.min_eq_left (by omega)]at this
      rw[this,a5])
     clear h0 h4 a5 h9 hs;go_wp2;go_roundg (l.length - (q+1))
     case measure=>have:=HG.out;omega
     case rel =>
      refine⟨q+1,by omega,by go_num,?_,zB a3.out (zC wr ⟨G,s,none⟩ _) (fun q e=>by have h7:G=q:=Oj e;have:=c7.out;omega)⟩;rw[<- HS.out];exact HA.out.int_set s (by rw[vF];exact b7) (q:Int)
    ·have d8:q=l.length:=by have:=HG.out;omega
     have d9:l.take q=l:=by rw[d8];exact List.take_length
     rw[d9]at HA h0;have i1:=Kh h0;have h8:=Kh h4;clear d8 d9 h0 HA HG h4;obtain⟨e0,e1,e2,e3⟩:=zF (zA j0.out h8.out (by simp));have H2:=zA (zA (zA c9.out c8.out (by simp)) b5.out (by simp)) h8.out (by simp);obtain⟨q0,q1,q2,q3⟩:=zF H2;have f0:=zE H2 0;have f1:=zE H2 1;have f2:=zE H2 2;have f3:=zE H2 3;have f4:=Kh H2;clear H2;go_wp2;obtain⟨e6,b3⟩:=xI f4.out (.int .i64 (k:Int)) (.int .i64 0) (.slice sf FL cf) (.slice sn NL cn);obtain⟨wz,d5⟩:∃ wz,wz=(((wr.setCell ⟨Q,0,none⟩ (.int .i64 (k:Int))).setCell ⟨Q,1,none⟩ (.int .i64 0)).setCell ⟨Q,2,none⟩ (.slice sf FL cf)).setCell ⟨Q,3,none⟩ (.slice sn NL cn):=⟨_,rfl⟩;rw[<- d5]at e6 b3 ⊢;clear d5;obtain⟨r0,r1,r2,r3⟩:=zF e6;clear e0 e1 e2 e3 q0 q1 q2 q3 f0 f1 f2 f3;refine bodyPost_ret (v:=.tuple #[.agg #[.int .i64 (k:Int),.int .i64 0,.slice sf FL cf,.slice sn NL cn],.slice (some ⟨G,0,none⟩) n n]) (by simp[results,Try.results110,go_sem,r0,r1,r2,r3]) rfl ?_;have g2:w.grownBy wz none:=zB (zB (zB (zB (zB i6.out i7.out (by simp)) c8.out (by simp)) b5.out (by simp)) h8.out (by simp)) b3 (fun k e=>by have h7:Q=k:=Oj e;omega);have g3:=((i9.out.grow b5.out).grow h8.out).far b3 f4.out (by omega);have e4:xT d k=m:=HM.out.symm;refine⟨_,G,rfl,⟨o,hs,sf,cf,sn,cn,?_,by omega,by rw[e4];exact g3⟩,by have:=c7.out;omega,?_,g2⟩
     ·rw[e4,i4.out,i5.out,i8.out,i3.out]
     ·rw[<- HL.out]
      exact i1.out.kept b3 (fun e=>by have h7:Q=G:=Oj e;omega)
end Go.Proofs.Ytjfdomfendbhfaa
namespace Go.Proofs.Ytjfdomfendbhfaa
def lE (d:DfaV)(p:List Nat)(q x:Nat):List Nat:=(p.getD q 0::(List.range x).map fun a=>p.getD (nx d q a) 0)++List.replicate (6 - x) 0
theorem nJ {d:DfaV}{p:List Nat}{q x:Nat}(h:x<=6):(lE d p q x).length=7:=by simp[lE];omega
theorem sigTo_set {d:DfaV}{p:List Nat}{q x:Nat}(h:x<6):(lE d p q x).set (1+x) (p.getD (nx d q x) 0)=lE d p q (x+1):=by
 unfold lE;rw[List.set_append_right _ _ (by simp;omega),List.range_succ,List.map_append,show 6 - x=(6 - (x+1))+1 by omega,List.replicate_succ];simp[Nat.add_comm]
theorem sigTo_lt {d:DfaV}{p:List Nat}{q x N:Nat}(h:∀ c∈p,c<N)(hN:0<N):∀ y∈lE d p q x,y<N:=by
 intro y hy;rcases List.mem_append.1 hy with hy|hy
 ·rcases List.mem_cons.1 hy with rfl|hy
  ·exact tL h hN
  ·obtain⟨a,_,rfl⟩:=List.mem_map.1 hy
   exact tL h hN
 ·rw[List.mem_replicate]at hy;omega
theorem sigTo_iff {d:DfaV}{p:List Nat}{q q' k:Nat}:lE d p q k=lE d p q' k ↔ p.getD q 0=p.getD q' 0/\∀ a,a<k->p.getD (nx d q a) 0=p.getD (nx d q' a) 0:=by
 unfold lE;constructor
 ·intro h
  have h:=List.append_cancel_right h;rw[List.cons.injEq,List.map_inj_left]at h;exact⟨h.1,fun a ha=>h.2 a (List.mem_range.2 ha)⟩
 ·rintro ⟨h1,h2⟩
  rw[h1,List.map_congr_left (fun a ha=>h2 a (List.mem_range.1 ha))]
def sigL (d:DfaV)(k:Nat)(p:List Nat):List (List Nat):=(List.range p.length).map fun q=>lE d p q k
theorem lW (d:DfaV)(k:Nat)(p:List Nat):(sigL d k p).length=p.length:=by simp[sigL]
theorem aO {d:DfaV}{k:Nat}{p:List Nat}{q:Nat}(h:q<p.length):(sigL d k p)[q]'(by rw[lW];exact h)=lE d p q k:=by simp[sigL]
theorem sig_refTo {d:DfaV}{n k:Nat}(hd:VD d n k){p:List Nat}(hp:p.length=n)(hn:Norm p):numb (sigL d k p)=uH d p k:=by
 have h0:∀ c∈p,c<n:=by have:=pI hn;rwa [hp]at this
 have hl:=lW d k p;refine jD (nP _) (mK hn k) ⟨by rw[yD,hl,yW],fun i j hi hj=>?_⟩;rw[yD,hl]at hi hj;rw[oG (by omega) (by omega),aO hi,aO hj,sigTo_iff,tR hd hp h0 (by omega) (by omega) k (Nat.le_refl _)]
theorem bR {α:Type}[DecidableEq α]{l:List α}{k:Nat}(hk:k<l.length):(numb l).getD k 0=if l[k]∈yA (l.take k) then (yA (l.take k)).idxOf l[k] else (yA (l.take k)).length:=by
 rw[zG (by rw[yD];exact hk),qW hk,<- qBV hk,List.take_succ_eq_append_getElem hk,tE];by_cases h:l[k]∈yA (l.take k)
 ·rw[uE h,if_pos h]
 ·rw[wO h,if_neg h,List.idxOf_append,if_neg h];simp
theorem kE {α:Type}[DecidableEq α]{l:List α}{k:Nat}(hk:k<l.length):yA (l.take (k+1))=xP (yA (l.take k)) l[k]:=by
 rw[List.take_succ_eq_append_getElem hk,tE]
theorem qFQ {α:Type}[DecidableEq α](l:List α):cls (numb l)=(yA l).length:=by
 unfold cls numb;rw[firsts_map_inj _ _ (fun x hx y _ h=>qCQ (wL.2 hx) h),List.length_map]
def vL (d:DfaV)(q:Nat):List Nat:=(List.range q).map fun i=>if d.final.getD i false=d.final.getD 0 false then 0 else 1
def fstC (d:DfaV)(q:Nat):Nat:=if (vL d q).all (· == 0) then 1 else 2
def fstF (d:DfaV)(n q:Nat):List Nat:=vL d q++List.replicate (n - q) 0
theorem kD {d:DfaV}{n q:Nat}(h:q<=n):(fstF d n q).length=n:=by simp[fstF,vL];omega
theorem fstF_same {d:DfaV}{n q:Nat}(h:q<n)(e:d.final.getD q false=d.final.getD 0 false):fstF d n (q+1)=fstF d n q/\fstC d (q+1)=fstC d q:=by
 have h1:vL d (q+1)=vL d q++[0]:=by
  simp only[vL,List.range_succ,List.map_append,List.map_cons,List.map_nil,if_pos e]
 constructor
 ·unfold fstF
  rw[h1,show n - q=(n - (q+1))+1 by omega,List.replicate_succ,List.append_assoc];rfl
 ·unfold fstC
  rw[h1,List.all_append];simp
theorem fstF_diff {d:DfaV}{n q:Nat}(h:q<n)(e:d.final.getD q false≠d.final.getD 0 false):fstF d n (q+1)=(fstF d n q).set q 1/\fstC d (q+1)=2:=by
 have h1:vL d (q+1)=vL d q++[1]:=by
  simp only[vL,List.range_succ,List.map_append,List.map_cons,List.map_nil,if_neg e]
 have hl:(vL d q).length=q:=by simp[vL]
 constructor
 ·unfold fstF
  rw[h1,List.set_append_right _ _ (by omega),hl,Nat.sub_self,show n - q=(n - (q+1))+1 by omega,List.replicate_succ,List.set_cons_zero,List.append_assoc];rfl
 ·unfold fstC
  rw[h1,List.all_append];simp
theorem fst_part0 {d:DfaV} {n k:Nat} (hd:VD d n k):vL d n=oE d/\fstC d n=cls (oE d):=by
 have hl:(vL d n).length=n:=by simp[vL]
 have hg:∀ i,i<n->(vL d n).getD i 0=if d.final.getD i false=d.final.getD 0 false then 0 else 1:=fun i hi=>by
  rw[zG (by omega)];simp[vL]
 have h8:∀ i j,i<n->j<n->((vL d n).getD i 0=(vL d n).getD j 0 ↔ (oE d).getD i 0=(oE d).getD j 0):=fun i j hi hj=>by
  rw[hg i hi,hg j hj,pQ hd hi hj]
  cases d.final.getD i false<;>cases d.final.getD j false<;>cases d.final.getD 0 false<;>simp
 have H4:=qU d
 have h9:=hd.n1
 have h6:Norm (vL d n):=by
  -- the first one is 0; what differs from it is 1
  unfold Norm
  have h0:(vL d n).getD 0 0=0:=by rw[hg 0 (by omega),if_pos rfl]
  refine List.ext_getElem (yD _) fun i h1 h2=>?_
  have hi:i<n:=by omega
  rw[qW h2]
  have key:∀ m,0<m->m<=n->yA ((vL d n).take m)=if (∃ j,j<m/\(vL d n).getD j 0=1) then [0,1] else [0]:=by
   intro m hm H7
   induction m with
   | zero=>omega
   | succ m ih =>
    have H0:m<(vL d n).length:=by omega
    rw[kE H0,<- zG (d:=0) H0]
    have h7:(vL d n).getD m 0=0\/(vL d n).getD m 0=1:=by rw[hg m (by omega)];split<;>simp
    by_cases hm0:m=0
    ·subst hm0
     rw[h0]
     have:¬ ∃ j,j<0+1/\(vL d n).getD j 0=1:=by
      rintro ⟨j,hj,e⟩
      have:j=0:=by omega
      subst this;omega
     rw[if_neg this];rfl
    ·rw[ih (by omega) (by omega)]
     by_cases hex:∃ j,j<m/\(vL d n).getD j 0=1
     ·have h5:∃ j,j<m+1/\(vL d n).getD j 0=1:=hex.imp fun j h=>⟨by omega,h.2⟩
      rw[if_pos hex,if_pos h5]
      rcases h7 with e|e<;>rw[e]<;>rfl
     ·rw[if_neg hex]
      rcases h7 with e|e
      ·have h5:¬ ∃ j,j<m+1/\(vL d n).getD j 0=1:=by
        rintro ⟨j,hj,e2⟩
        rcases Nat.lt_succ_iff_lt_or_eq.1 hj with hj|rfl
        ·exact hex ⟨j,hj,e2⟩
        ·omega
       rw[if_neg h5,e];rfl
      ·rw[if_pos ⟨m,by omega,e⟩,e];rfl
  have hk:=key n (by omega) (Nat.le_refl _)
  rw[show (vL d n).take n=vL d n by rw[List.take_of_length_le (by omega)]]at hk
  rw[hk]
  have h7:(vL d n).getD i 0=0\/(vL d n).getD i 0=1:=by rw[hg i hi];split<;>simp
  rw[zG h2]at h7
  rcases h7 with e|e
  ·rw[e];split<;>rfl
  ·rw[e,if_pos ⟨i,hi,by rw[zG h2,e]⟩];rfl
 have H1:vL d n=oE d:=jD h6 (jZ d) ⟨by rw[hl,H4,hd.hn],fun i j hi hj=>h8 i j (by omega) (by omega)⟩
 refine⟨H1,?_⟩
 rw[<- H1]
 unfold fstC
 by_cases ha:(vL d n).all (· == 0)=true
 ·rw[if_pos ha]
  have:vL d n=List.replicate n 0:=by
   refine List.eq_replicate_iff.2 ⟨hl,fun x hx=>?_⟩
   simpa using List.all_eq_true.1 ha x hx
  rw[this]
  have h1:(yA (List.replicate n 0)) ⊆ [0]:=fun x hx=>by
   have:=wL.1 hx
   rw[List.mem_replicate]at this
   simp[this.2]
  have h2:=(rE (List.replicate n 0)).length_le_of_subset h1
  have h3:=kI (p:=List.replicate n 0) (by simp;omega)
  unfold cls at h3 ⊢
  simp at h2
  omega
 ·rw[if_neg ha]
  have h1:yA (vL d n) ⊆ [0,1]:=fun x hx=>by
   obtain⟨i,_,rfl⟩:=List.mem_map.1 (wL.1 hx)
   split<;>simp
  have h2:=(rE (vL d n)).length_le_of_subset h1
  have h9:∃ x∈vL d n,x≠0:=by
   apply Classical.byContradiction
   intro H5
   exact ha (List.all_eq_true.2 fun x hx=>by
    have:x=0:=Classical.byContradiction fun h=>H5 ⟨x,hx,h⟩
    simp[this])
  obtain⟨x,hx,H3⟩:=h9
  have H2:x=1:=by
   obtain⟨i,_,rfl⟩:=List.mem_map.1 hx
   split at H3
   ·omega
   ·rename_i h;rw[if_neg h]
  have H6:0∈vL d n:=by
   rw[vL,List.mem_map]
   exact⟨0,List.mem_range.2 (by omega),if_pos rfl⟩
  have h3:[0,1] ⊆ yA (vL d n):=fun y hy=>by
   simp only[List.mem_cons,List.not_mem_nil,or_false]at hy
   rcases hy with rfl|rfl
   ·exact wL.2 H6
   ·exact wL.2 (H2 ▸ hx)
  have h4:=(show [0,1].Nodup by decide).length_le_of_subset h3
  unfold cls
  simp at h2 h4
  omega
theorem clsIt_sig {d:DfaV}{n k:Nat}(hd:VD d n k)(m:Nat):numb (sigL d k (yS d k m))=yS d k (m+1):=sig_refTo hd (by rw[yR,hd.hn]) (uQ d k m)
theorem clsIt_stop {d:DfaV}{n k:Nat}(hd:VD d n k){m:Nat}(hm:m<=n)(h:cls (yS d k (m+1))=cls (yS d k m)):yS d k (m+1)=zU d k:=by
 have e:uH d (yS d k m) k=yS d k m:=Classical.byContradiction fun hne=>by
  have:=oB hd (by rw[yR,hd.hn]) (uQ d k m) hne;rw[yS]at h;omega
 rw[pM (by rw[hd.hn];exact hm) e,yS,e]
theorem clsIt_more {d:DfaV}{n k:Nat}(hd:VD d n k){m:Nat}(h:cls (yS d k (m+1))≠cls (yS d k m)):cls (yS d k m)<cls (yS d k (m+1)):=by
 have e:uH d (yS d k m) k≠yS d k m:=fun e=>h (by rw[yS,e]);exact oB hd (by rw[yR,hd.hn]) (uQ d k m) e
theorem cls_le_n {d:DfaV}{n k:Nat}(hd:VD d n k)(m:Nat):cls (yS d k m)<=n:=by
 have:=cls_le (yS d k m)
 rwa [yR,hd.hn]at this
end Go.Proofs.Ytjfdomfendbhfaa
namespace Go.Proofs.Ytjfdomfendbhfaa
open Go.RowKit Go.Maps
theorem fL:Try.prog.underlying 176=some (.array 7 3):=by kernel_rfl
theorem sigmap_under:Try.prog.underlying 174=some (.map 176 3):=by kernel_rfl
theorem sig_keyed:Keyed Try.prog 176:=Keyed.of_law (deep_law_laid (m:=5) (by kernel_rfl) (by decide) (of_decide_eq_true (by kernel_rfl)) (by kernel_rfl) (by kernel_rfl))
theorem nat_wf {x:Nat}(hx:x<4611686018427387904):(Lit.int .i64 (x:Int)).wf=true:=qCD (x:=(x:Int)) ⟨by omega,by omega⟩
theorem uZ (d:Nat){x:Nat}(hx:x<4611686018427387904):Try.prog.keyLits (d+1) 3 [.int .i64 (x:Int)]=some [.int .i64 (x:Int)]:=by
 unfold Program.keyLits;rw[tX];simp[nat_wf hx]
def sigV (L:List Nat):Value:=.agg #[.int .i64 ((L.getD 0 0:Nat):Int),.int .i64 ((L.getD 1 0:Nat):Int),.int .i64 ((L.getD 2 0:Nat):Int),.int .i64 ((L.getD 3 0:Nat):Int),.int .i64 ((L.getD 4 0:Nat):Int),.int .i64 ((L.getD 5 0:Nat):Int),.int .i64 ((L.getD 6 0:Nat):Int)]
def qIE (L:List Nat):Prop:=L.length=7/\∀ x∈L,x<4611686018427387904
theorem qBG:Try.prog.cellsOf 176=7:=by kernel_rfl
theorem eS:Try.prog.cellsOf 3=1:=by kernel_rfl
theorem sig_some {x0 x1 x2 x3 x4 x5 x6:Nat}(h0:x0<4611686018427387904)(h1:x1<4611686018427387904)(h2:x2<4611686018427387904)(h3:x3<4611686018427387904)(h4:x4<4611686018427387904)(h5:x5<4611686018427387904)(h6:x6<4611686018427387904):
  (keyOf Try.prog 176 (.agg #[.int .i64 (x0:Int),.int .i64 (x1:Int),.int .i64 (x2:Int),.int .i64 (x3:Int),.int .i64 (x4:Int),.int .i64 (x5:Int),.int .i64 (x6:Int)])).isSome=true:=by
 have hk:Try.prog.keyType 176=true:=by kernel_rfl
 unfold keyOf;rw[fL];simp only[hk,Bool.true_and]
 have hf:(Value.agg #[.int .i64 (x0:Int),.int .i64 (x1:Int),.int .i64 (x2:Int),.int .i64 (x3:Int),.int .i64 (x4:Int),.int .i64 (x5:Int),.int .i64 (x6:Int)]).formed Try.prog 176=true:=by
  simp[Value.formed,fL,qBG]
 rw[if_pos hf]
 have hl:Try.prog.keyLits (Try.prog.types.size+1) 176 (Value.agg #[.int .i64 (x0:Int),.int .i64 (x1:Int),.int .i64 (x2:Int),.int .i64 (x3:Int),.int .i64 (x4:Int),.int .i64 (x5:Int),.int .i64 (x6:Int)]).cells.toList=some [.int .i64 (x0:Int),.int .i64 (x1:Int),.int .i64 (x2:Int),.int .i64 (x3:Int),.int .i64 (x4:Int),.int .i64 (x5:Int),.int .i64 (x6:Int)]:=by
  have hz:Try.prog.types.size=(Try.prog.types.size - 1)+1:=by kernel_rfl
  rw[hz];unfold Program.keyLits;rw[fL];simp[Value.cells,qBG,eS,List.range,List.range.loop,uZ _ h0,uZ _ h1,uZ _ h2,uZ _ h3,uZ _ h4,uZ _ h5,uZ _ h6]
 rw[hl];rfl
theorem aN:KeyK 174 176 qIE sigV where
 key:=sig_keyed
 und:=sigmap_under
 of:=fun L h=>by
  have hg:∀ i,L.getD i 0<4611686018427387904:=fun i=>by
   by_cases hi:i<L.length
   ·rw[zG hi];exact h.2 _ (List.getElem_mem hi)
   ·rw[List.getD,List.getElem?_eq_none (by omega)];simp
  exact sig_some (hg 0) (hg 1) (hg 2) (hg 3) (hg 4) (hg 5) (hg 6)
 inj:=fun L M hL hM e=>by
  simp only[sigV,Value.agg.injEq]at e
  have e:=congrArg Array.toList e
  simp only[List.cons.injEq,Value.int.injEq,true_and,and_true]at e
  refine List.ext_getElem (by rw[hL.1,hM.1]) fun i h1 h2=>?_
  rw[<- zG (d:=0) h1,<- zG (d:=0) h2]
  have:i<7:=by rw[<- hL.1];exact h1
  match i,this with
  | 0,_=>omega
  | 1,_=>omega
  | 2,_=>omega
  | 3,_=>omega
  | 4,_=>omega
  | 5,_=>omega
  | 6,_=>omega
end Go.Proofs.Ytjfdomfendbhfaa
namespace Go.Proofs.Ytjfdomfendbhfaa
open Go.RowKit Go.Maps
def numF {α:Type}[DecidableEq α](l:List α)(L:α):Option Nat:=if L∈l then some (l.idxOf L) else none
theorem numF_new {α:Type}[DecidableEq α]{l:List α}{L:α}(h:L ∉ l):(fun q=>if q=L then some l.length else numF l q)=numF (l++[L]):=by
 funext q;unfold numF;by_cases e:q=L
 ·subst e
  rw[if_pos rfl,if_pos (by simp),List.idxOf_append,if_neg h];simp
 ·rw[if_neg e]
  by_cases hq:q∈l
  ·rw[if_pos hq,if_pos (by simp[hq]),List.idxOf_append,if_pos hq]
  ·rw[if_neg hq,if_neg (by simp[hq,e])]
theorem numF_old {α:Type}[DecidableEq α]{l:List α}{L:α}(h:L∈l):numF l L=some (if L∈l then l.idxOf L else l.length):=by rw[numF,if_pos h,if_pos h]
theorem numF_no {α:Type}[DecidableEq α]{l:List α}{L:α}(h:L ∉ l):numF l L=none:=if_neg h
theorem numb_old {α:Type}[DecidableEq α]{l:List α}{L:α}{v:Nat}(hv:v=if L∈l then l.idxOf L else l.length)(h:L∈l):numF l L=some v:=by rw[hv,numF_old h]
theorem numb_new {α:Type}[DecidableEq α]{l:List α}{L:α}{v:Nat}(hv:v=if L∈l then l.idxOf L else l.length)(h:L ∉ l):v=l.length:=by rw[hv,if_neg h]
theorem seven {L:List Nat}(h:L.length=7):∃ y0 y1 y2 y3 y4 y5 y6,L=[y0,y1,y2,y3,y4,y5,y6]:=by
 match L,h with
 | [y0,y1,y2,y3,y4,y5,y6],_=>exact⟨y0,y1,y2,y3,y4,y5,y6,rfl⟩
theorem sig7_cells {w:World}{g e y0 y1 y2 y3 y4 y5 y6:Nat}(h:Arr w g e (nats [y0,y1,y2,y3,y4,y5,y6])):w.cell? ⟨g,0,none⟩=some (.int .i64 (y0:Int))/\w.cell? ⟨g,1,none⟩=some (.int .i64 (y1:Int))/\w.cell? ⟨g,2,none⟩=some (.int .i64 (y2:Int))/\w.cell? ⟨g,3,none⟩=some (.int .i64 (y3:Int))/\w.cell? ⟨g,4,none⟩=some (.int .i64 (y4:Int))/\w.cell? ⟨g,5,none⟩=some (.int .i64 (y5:Int))/\w.cell? ⟨g,6,none⟩=some (.int .i64 (y6:Int)) :=
 ⟨h.cell 0 (by simp[nats]),h.cell 1 (by simp[nats]),h.cell 2 (by simp[nats]),h.cell 3 (by simp[nats]),h.cell 4 (by simp[nats]),h.cell 5 (by simp[nats]),h.cell 6 (by simp[nats])⟩
theorem numF_nil:(fun _=>none)=numF ([]:List (List Nat)):=by funext L;simp[numF]
theorem pclasses_any (B:Nat)(w:World)(v:Value)(d:DfaV)(n k:Nat)(hB:B<=w.heap.size)(h:uT B w v d)(hd:VD d n k)(h5:n<=512):
  Calls Try.prog 111 #[v] w (qJA w (zU d k)):=by
 have r7:=@run_makeMap Try.prog;have b6:=h;obtain⟨fb,fo,fc,b,off,cap,RB,RO,RC,rfl,c4⟩:=h.at hd;have hn:=hd.hn;have o0:=hd.n1;have l2:=hd.k6;have s0:=hd.k1;have s6:=c4.fcap.1;have d4:=c4.fcap.2;have s9:=c4.cap.1;have d5:=c4.cap.2;have o2:fc<=9223372036854775807:=by unfold maxLen at d4;omega
 have o1:cap<=9223372036854775807:=by unfold maxLen at d5;omega
 obtain⟨S,hS⟩:∃ S,S=st0 d:=⟨_,rfl⟩;have j8:dAgg k (st0 d) fb fo fc b off cap n=.agg #[.int .i64 (k:Int),.int .i64 (S:Int),.slice (some ⟨fb,fo,none⟩) n fc,.slice (some ⟨b,off,none⟩) n cap]:=by rw[hS];rfl
 rw[j8]at b6 ⊢;obtain⟨wA,j0⟩:∃ wA,wA=w.alloc (.cells #[.int .i64 (k:Int),.int .i64 (S:Int),.slice (some ⟨fb,fo,none⟩) n fc,.slice (some ⟨b,off,none⟩) n cap] 42):=⟨_,rfl⟩;have f6:=Ga w (.cells #[.int .i64 (k:Int),.int .i64 (S:Int),.slice (some ⟨fb,fo,none⟩) n fc,.slice (some ⟨b,off,none⟩) n cap] 42) none;have b9:=heap_alloc_new w (.cells #[.int .i64 (k:Int),.int .i64 (S:Int),.slice (some ⟨fb,fo,none⟩) n fc,.slice (some ⟨b,off,none⟩) n cap] 42);rw[<- j0]at b9 f6;obtain⟨P,hP⟩:∃ P,P=w.heap.size:=⟨_,rfl⟩;rw[<- hP]at b9;obtain⟨c0,c1,c2,c3⟩:=zF b9;have t1:=zI b9;have p0:B<=wA.heap.size:=by omega
 have p7:=Kh hP;have t2:w.heap.size<=P:=by omega
 have m9:=Kh b9;have q5:=Kh f6;have p3:=Kh j0;have c8:Hid (∀ W:World,w.grownBy W none->DAt B W d n k fb fo fc b off cap RB RO RC):=Kh (fun W hg=>c4.kept hg (by simp));have HN:=Kh hn;have HD:=Kh hd;have l7:=Kh (rP B wA _ d p0 (b6.kept f6 (by simp)));have p4:=Kh (fA hd h5);clear b9 f6 j0 c4 hn hd h b6 j8 d4 d5 hS hP;go_enter Try.func111,Try.ntmps111;go_upto_region 1 with fail;rw[<- p3.out,<- p7.out];go_wp2_with fail;refine l7.out.mono ?_;rintro e w1 ⟨rfl,f9⟩;rw[p4.out];have r3:=f9.size;have q6:=Kh (zB q5.out f9 (by simp));have g3:=Kh (zA m9.out f9 (by simp));obtain⟨d0,d1,d2,d3⟩:=zF g3.out;have t9:B<=w.heap.size:=hB;clear f9 l7 c0 c1 c2 c3 m9;go_wp2_with (first|(at_make;refine nD rfl _ _ _ rfl yP rfl .i64 .i64 _ _ n rfl rfl rfl rfl ?b1 ?b2 ?_;(case b1=>omega);(case b2=>(unfold maxLen;omega));intro w2 h0 f8 i5;(obtain⟨e0,e1,e2,e3⟩:=zF (zA g3.out f8 (by simp))))|fail);obtain⟨G,hG⟩:∃ G,G=w1.heap.size:=⟨_,rfl⟩;rw[<- hG]at h0 i5 ⊢;have t6:P<G:=by omega
 have o9:w.heap.size<=G:=by omega
 have n3:Hid (Arr w2 G 3 (nats (fstF d n 0))):=Kh (by
  rw[show fstF d n 0=List.replicate n 0 by simp[fstF,vL],yV];exact h0)
 have m3:=Kh (zB q6.out f8 (by simp));have m8:=Kh (zA g3.out f8 (by simp));clear h0 f8 hG g3 d0 d1 d2 d3 e0 e1 e2 e3
 go_loopg [4,5,6,26] n (fun gh a4 a5 a6 i wr=>∃ q:Nat,gh+q=n/\i=.int .i64 q/\a4=.int .i64 (fstC d q:Nat)/\Arr wr G 3 (nats (fstF d n q))/\wr.heap[P]?=some (.cells #[.int .i64 (k:Int),.int .i64 (S:Int),.slice (some ⟨fb,fo,none⟩) n fc,.slice (some ⟨b,off,none⟩) n cap] 42 (0,0))/\w.grownBy wr none)
 case atStart=>exact⟨0,rfl,rfl,rfl,n3.out,m8.out,m3.out⟩
 case round =>
  clear n3 m8 m3;obtain⟨q,a1,rfl,rfl,h0,h6,h3⟩:=hrel;have h7:=Kh a1;have HA:=Kh h0;have H5:=Kh h6;have H4:=Kh h3;obtain⟨d0,d1,d2,d3⟩:=zF h6;clear a1;by_cases hq:q<n
  ·have n9:(q:Int)<n:=by omega
   have cf0:=(c8.out _ h3).fin (q:=0) (by omega);have cfq:=(c8.out _ h3).fin hq;have s5:=h0.frozen q;have t0:=h0.nat q (by rw[kD (by omega)];exact hq);have i9:(nats (fstF d n q)).length=n:=by rw[zT,kD (by omega)]
   rw[Nat.add_zero]at cf0;by_cases e:d.final.getD q false=d.final.getD 0 false
   ·obtain⟨h1,h2⟩:=fstF_same hq e
    have H1:=Kh h1;have H2:=Kh h2;rw[e]at cfq
    generalize d.final.getD 0 false=b0 at cf0 cfq
    have e1:(b0 != b0)=false:=by simp
    clear h1 h2 e h0 h6;go_wp2;go_roundg (n - (q+1))
    case measure=>have:=h7.out;omega
    case rel=>exact⟨q+1,by have:=h7.out;omega,by go_num,by rw[H2.out],by rw[H1.out];exact HA.out,H5.out,H4.out⟩
   ·obtain⟨h1,h2⟩:=fstF_diff hq e
    have H1:=Kh h1;have H2:=Kh h2;have e1:(d.final.getD q false == d.final.getD 0 false)=false:=by rw[beq_eq_false_iff_ne];exact e
    generalize d.final.getD 0 false=b0 at cf0 e1
    generalize d.final.getD q false=b1 at cfq e1
    clear h1 h2 e h0 h6;go_wp2;go_roundg (n - (q+1))
    case measure=>have:=h7.out;omega
    case rel=>exact⟨q+1,by have:=h7.out;omega,by go_num,by rw[H2.out];rfl,by rw[H1.out];exact HA.out.nat_set q (by rw[kD (by omega)];exact hq) 1,zA H5.out (zC wr ⟨G,q,none⟩ _) (fun e=>by have e:G=P:=Oj e;omega),zB H4.out (zC wr ⟨G,q,none⟩ _) (fun k e=>by have e:G=k:=Oj e;omega)⟩
  ·have f3:q=n:=by have:=h7.out;omega
   obtain⟨l1,l4⟩:=fst_part0 HD.out
   have n4:Hid (Arr wr G 3 (nats (yS d k 0))):=Kh (by
    rw[show yS d k 0=fstF d n q by rw[f3,fstF,l1];simp[yS]];exact h0)
   have r0:Hid (fstC d q=cls (yS d k 0)):=Kh (by rw[f3,l4];rfl);rw[r0.out];have H8:=Kh f3;clear f3 l1 l4 HA h7 h0 h6 h3;obtain⟨w3,rfl⟩:∃ w3:World,w3=wr:=⟨_,rfl⟩;go_wp2_with fail
   go_loopg [3,4,7,8,9,10,11,12,13,14,15] (n - cls (yS d k 0)) (fun gh a3 a4 a7 a8 a9 a10 a11 a12 a13 a14 a15 wr=>∃ (m g:Nat),gh=n - cls (yS d k m)/\m<=cls (yS d k m)/\a3=.slice (some ⟨g,0,none⟩) n n/\a4=.int .i64 (cls (yS d k m):Nat)/\Arr wr g 3 (nats (yS d k m))/\w.heap.size<=g/\g≠P/\wr.heap[P]?=some (.cells #[.int .i64 (k:Int),.int .i64 (S:Int),.slice (some ⟨fb,fo,none⟩) n fc,.slice (some ⟨b,off,none⟩) n cap] 42 (0,0))/\w.grownBy wr none)
   case atStart=>exact⟨0,G,rfl,by omega,rfl,rfl,n4.out,o9,by omega,H5.out,H4.out⟩
   case round =>
    clear n4 H5 H4;obtain⟨m,g,rfl,o3,rfl,rfl,h0,s1,s3,h6,h3⟩:=hrel;obtain⟨p,hp⟩:∃ p,p=yS d k m:=⟨_,rfl⟩;have l0:p.length=n:=by rw[hp,yR,HN.out]
    have o7:=cls_le_n HD.out m;have c9:∀ c∈p,c<n:=(by have:=pI (uQ d k m);rw[<- hp,l0]at this;exact this);have j2:Hid (numb (sigL d k p)=yS d k (m+1)):=Kh (by rw[hp];exact clsIt_sig HD.out m);have d8:Hid (cls (yS d k (m+1))=cls (yS d k m)->yS d k (m+1)=zU d k):=Kh (clsIt_stop HD.out (by omega));have e7:Hid (cls (yS d k (m+1))≠cls (yS d k m)->cls (yS d k m)<cls (yS d k (m+1))):=Kh (clsIt_more HD.out);rw[<- hp]at h0;obtain⟨C,hC⟩:∃ C,C=cls (yS d k m):=⟨_,rfl⟩;rw[<- hC]at d8 e7 o3 o7 ⊢;have x2:=Kh hp;have j3:=Kh c9;have q9:=Kh hC;have HA:=Kh h0;have H5:=Kh h6;have H4:=Kh h3;have k7:(sigL d k p).length=n:=by rw[lW,l0]
    obtain⟨wm,f1⟩:∃ wm,wm=wr.alloc (.map #[] 0):=⟨_,rfl⟩;obtain⟨mb,i3⟩:∃ mb,mb=wr.heap.size:=⟨_,rfl⟩;have i8:wr.grownBy wm none:=by rw[f1];exact Ga wr _ none
    have e6:Hid (MapK 176 qIE sigV wm mb 0 0 (numF [])):=Kh (by
     rw[f1,i3,<- numF_nil];exact MapK.made _ _ _ _)
    have t3:=zI h6;have s2:=h0.lt;have p1:=Kh f1;have c6:=Kh i8;have q0:=Kh i3;have r2:=i8.size;have r6:=e6.out.lt;have t4:P<mb:=(by omega);have o4:g<mb:=(by omega);have n7:w.heap.size<=mb:=by have:=h3.size;omega
    clear hp c9 hC h0 h6 h3 i8 f1 i3;obtain⟨wo,rfl⟩:∃ wo:World,wo=wr:=⟨_,rfl⟩;go_upto_region 11 with fail;rw[<- p1.out,<- q0.out];obtain⟨d0,d1,d2,d3⟩:=zF (zA H5.out c6.out (by simp));go_wp2_with (first|(at_make;refine nD rfl _ _ _ rfl yP rfl .i64 .i64 _ _ n rfl rfl rfl rfl ?b1 ?b2 ?_;(case b1=>omega);(case b2=>(unfold maxLen;omega));intro w4 h0 b8 i4;(obtain⟨e0,e1,e2,e3⟩:=zF (zA (zA H5.out c6.out (by simp)) b8 (by simp))))|fail);obtain⟨F,hF⟩:∃ F,F=wm.heap.size:=⟨_,rfl⟩;rw[<- hF]at h0 i4 ⊢;obtain⟨sg,g5⟩:∃ sg,sg=sigL d k p:=⟨_,rfl⟩;rw[<- g5]at j2 k7;have s4:g<F:=(by omega);have t5:P<F:=(by omega);have r8:mb<F:=(by omega);have l6:w.heap.size<=F:=by omega
    have i2:(numb sg).length=n:=by rw[yD,k7]
    have p5:=Kh g5;have g0:=Kh i2
    have m4:Hid (Arr w4 F 3 (nats (uA (numb sg) 0))):=Kh (by
     rw[oO,i2,yV];exact h0)
    have l8:=Kh (e6.out.kept b8 (by simp));have n2:=Kh ((HA.out.kept c6.out (by simp)).kept b8 (by simp));have m7:=Kh (zA (zA H5.out c6.out (by simp)) b8 (by simp));have m2:=Kh (zB (zB H4.out c6.out (by simp)) b8 (by simp));clear g5 i2 h0 b8 hF e6 HA H5 H4 c6 d0 d1 d2 d3 e0 e1 e2 e3
    go_loopg [9,10,11,12,13,14,15,48] n (fun gh a9 a10 a11 a12 a13 a14 a15 i wr=>∃ (q c:Nat),gh+q=n/\i=.int .i64 q/\Arr wr F 3 (nats (uA (numb sg) q))/\MapK 176 qIE sigV wr mb q c (numF (yA (sg.take q)))/\c=(yA (sg.take q)).length/\Arr wr g 3 (nats p)/\wr.heap[P]?=some (.cells #[.int .i64 (k:Int),.int .i64 (S:Int),.slice (some ⟨fb,fo,none⟩) n fc,.slice (some ⟨b,off,none⟩) n cap] 42 (0,0))/\w.grownBy wr none)
    case atStart=>exact⟨0,0,rfl,rfl,m4.out,by simpa [yA] using l8.out,by simp[yA],n2.out,m7.out,m2.out⟩
    case round =>
     clear m4 l8 n2 m7 m2;obtain⟨q,c,a1,rfl,h0,H0,hc,d7,h6,h3⟩:=hrel;have h7:=Kh a1;have HF:=Kh h0;have e6:=Kh H0;have HA:=Kh d7;have H5:=Kh h6;have H4:=Kh h3;have e9:=Kh hc;obtain⟨d0,d1,d2,d3⟩:=zF h6;have r1:=h3.size;have t7:=h0.lt;have s8:c<=q:=by rw[hc];have:=vZ (sg.take q);rw[List.length_take]at this;omega
     clear a1;by_cases hq:q<n
     ·have n9:(q:Int)<n:=by omega
      have hh:=(c8.out _ h3).hd q hq;have g9:=(c8.out _ h3).rcap q hq;have n8:=(c8.out _ h3).rlt q hq;have g8:=g9.1;have g7:RC q<=9223372036854775807:=by have:=g9.2;unfold maxLen at this;omega
      have d6:=d7.nat q (by omega);obtain⟨rb,i0⟩:∃ rb,rb=RB q:=⟨_,rfl⟩;obtain⟨ro,g6⟩:∃ ro,ro=RO q:=⟨_,rfl⟩;obtain⟨rc,a2⟩:∃ rc,rc=RC q:=⟨_,rfl⟩;rw[<- i0,<- g6,<- a2]at hh;rw[<- a2]at g8 g7;have q8:Hid (∀ W:World,w.grownBy W none->∀ a,a<k->W.cell? ⟨rb,ro+a,none⟩=some (.int .i64 ((nx d q a:Nat):Int))):=Kh (fun W hg a ha=>by rw[i0,g6];exact(c8.out W hg).el q a hq ha);obtain⟨pq,f4⟩:∃ pq,pq=p.getD q 0:=⟨_,rfl⟩;rw[<- f4]at d6;have x1:=Kh f4;obtain⟨wk,f2⟩:∃ wk,wk=wr.alloc (.cells #[.int .i64 (pq:Int),.int .i64 0,.int .i64 0,.int .i64 0,.int .i64 0,.int .i64 0,.int .i64 0] 176):=⟨_,rfl⟩;obtain⟨kb,i7⟩:∃ kb,kb=wr.heap.size:=⟨_,rfl⟩;have b7:wr.grownBy wk none:=by rw[f2];exact Ga wr _ none
      have m0:Hid (Arr wk kb 176 (nats (lE d p q 0))):=Kh (by
       rw[f2,i7];have:=Arr.new wr 176 #[.int .i64 (pq:Int),.int .i64 0,.int .i64 0,.int .i64 0,.int .i64 0,.int .i64 0,.int .i64 0];rw[show nats (lE d p q 0)=#[Value.int .i64 (pq:Int),.int .i64 0,.int .i64 0,.int .i64 0,.int .i64 0,.int .i64 0,.int .i64 0].toList by rw[lE,<- f4];rfl]
       exact this)
      have p2:=Kh f2;have q2:=Kh i7;have q3:=Kh (zB h3 b7 (by simp));have m5:=Kh (h0.kept b7 (by simp));have l9:=Kh (H0.kept b7 (by simp));have j7:=Kh (d7.kept b7 (by simp));have f0:=Kh (zA h6 b7 (by simp));have t8:F<kb:=(by omega);clear h0 H0 d7 h6 h3 i0 g6 a2 f4 f2 i7 b7 g9 n8 hc;go_upto_region 16 with fail;rw[<- p2.out,<- q2.out];clear d0 d1 d2 d3 d6 hh HF e6 HA H5 H4;have r5:g<kb:=(by omega);go_wp2_with fail
      go_loopg [12,13,60] k (fun gh a12 a13 i wr=>∃ x:Nat,gh+x=k/\i=.int .i64 x/\Arr wr kb 176 (nats (lE d p q x))/\wk.grownBy wr (some kb))
      case atStart=>exact⟨0,rfl,rfl,m0.out,zM _ _⟩
      case round =>
       clear m0;obtain⟨x,a1,rfl,h0,h3⟩:=hrel;have H8:=Kh a1;have HK:=Kh h0;have H4:=Kh h3;have H6:=zB q3.out h3 (fun k e=>by have e:kb=k:=Oj e;omega);have m1:=Kh H6;clear a1;by_cases hx:x<k
       ·have r4:(x:Int)<k:=by omega
        have cel:=q8.out wr H6 x hx;have n6:=qC HD.out hq hx;obtain⟨y,hy⟩:∃ y,y=nx d q x:=⟨_,rfl⟩;rw[<- hy]at cel n6;have n5:(y:Int)<n:=(by omega);have cy:=(j7.out.kept h3 (fun e=>by have e:kb=g:=Oj e;omega)).nat y (by omega);have h4:=sigTo_set (d:=d) (p:=p) (q:=q) (x:=x) (by omega);rw[<- hy]at h4;have H3:=Kh h4;have k8:=nJ (d:=d) (p:=p) (q:=q) (x:=x) (by omega);have ck:=h0.nat (1+x) (by omega);have fk:=h0.frozen (1+x);have p6:=Kh k8;obtain⟨z,hz⟩:∃ z,z=p.getD y 0:=⟨_,rfl⟩;rw[<- hz]at cy;have HZ:=Kh hz;clear h4 k8 hz hy h0 h3 H6;go_wp2;go_roundg (k - (x+1))
        case measure=>have:=H8.out;omega
        case rel=>exact⟨x+1,by have:=H8.out;omega,by go_num,by rw[<- H3.out,<- HZ.out];exact HK.out.nat_set (1+x) (by rw[p6.out];omega) z,zD H4.out (zC wr ⟨kb,1+x,none⟩ _)⟩
       ·have g4:x=k:=by have:=H8.out;omega
        have x0:=Kh g4;rw[g4]at h0 HK;have c7:=Kh (m5.out.kept h3 (fun e=>by have e:kb=F:=Oj e;omega));have e4:=Kh (l9.out.kept h3 (fun e=>by have e:kb=mb:=Oj e;omega));have n0:=Kh (j7.out.kept h3 (fun e=>by have e:kb=g:=Oj e;omega));have m6:=Kh (zA f0.out h3 (fun e=>by have e:kb=P:=Oj e;omega));have k9:q<sg.length:=by omega
        have j9:sg[q]=lE d p q k:=by
         have e:=p5.out;subst e;exact aO (by omega)
        have b4:=bR k9;have H7:=kE k9;rw[j9]at b4 H7;obtain⟨y0,y1,y2,y3,y4,y5,y6,hL⟩:=seven (nJ (d:=d) (p:=p) (q:=q) (x:=k) l2)
        have i1:qIE [y0,y1,y2,y3,y4,y5,y6]:=by
         rw[<- hL];exact⟨nJ l2,fun z hz=>by have:=sigTo_lt j3.out o0 z hz;omega⟩
        rw[hL]at h0 HK b4 H7;obtain⟨k0,k1,k2,k3,k4,k5,k6⟩:=sig7_cells h0;have h4:=mZ (l:=numb sg) (k:=q) (by have:=g0.out;omega);have i9:=xV (l:=numb sg) (k:=q) (by have:=g0.out;omega);have g2:Hid ((uA (numb sg) q).length=n):=Kh (by rw[i9,g0.out]);have cF:=c7.out.nat q (by rw[g2.out];exact hq);have fF:=c7.out.frozen q;have b5:=e4.out.lookup aN i1;obtain⟨Fs,j1⟩:∃ Fs,Fs=yA (sg.take q):=⟨_,rfl⟩;rw[<- j1]at b4 H7 b5 e4 e9;have x4:=Kh j1;have p8:=Kh i1;clear hL j9 i9 h0 h3 H6 j1 i1 g4 m5 l9 j7 f0;by_cases hin:[y0,y1,y2,y3,y4,y5,y6]∈Fs
        ·obtain⟨I,hI⟩:∃ I,I=(numb sg).getD q 0:=⟨_,rfl⟩
         have H9:=numb_old (hI.trans b4) hin;rw[uE hin]at H7;rw[H9]at b5;rw[<- hI]at h4;replace b5:(Instr.lookup 174 (.map (some mb)) (.agg #[.int .i64 (y0:Int),.int .i64 (y1:Int),.int .i64 (y2:Int),.int .i64 (y3:Int),.int .i64 (y4:Int),.int .i64 (y5:Int),.int .i64 (y6:Int)]) true).run Try.prog wr=.ok (.tuple #[.int .i64 (I:Int),.bool true]) wr:=b5;have H3:=Kh h4;have e8:=Kh H7;clear h4 H7 b4 hI hin H9;go_wp2;go_roundg (n - (q+1))
         case measure=>have:=h7.out;omega
         case rel =>
          refine⟨q+1,c,by have:=h7.out;omega,by go_num,by rw[<- H3.out];exact c7.out.nat_set q (by rw[g2.out];exact hq) I,?_,by rw[e8.out];exact e9.out,n0.out.kept (zC wr ⟨F,q,none⟩ _) (fun e=>by have e:F=g:=Oj e;omega),zA m6.out (zC wr ⟨F,q,none⟩ _) (fun e=>by have e:F=P:=Oj e;omega),zB m1.out (zC wr ⟨F,q,none⟩ _) (fun k e=>by have e:F=k:=Oj e;omega)⟩;rw[e8.out];exact(e4.out.mono (by omega)).kept (zC wr ⟨F,q,none⟩ _) (fun e=>by have e:F=mb:=Oj e;omega)
        ·obtain⟨I,hI⟩:∃ I,I=(numb sg).getD q 0:=⟨_,rfl⟩
         have h8:=numF_no hin;have l5:=numb_new (hI.trans b4) hin;rw[wO hin]at H7;rw[h8]at b5;rw[<- hI]at h4;have o8:I=c:=by rw[l5];exact e9.out.symm
         have o5:c<4611686018427387904:=(by omega);have h9:=numF_new hin;rw[<- e9.out]at h9;subst o8;replace b5:(Instr.lookup 174 (.map (some mb)) (.agg #[.int .i64 (y0:Int),.int .i64 (y1:Int),.int .i64 (y2:Int),.int .i64 (y3:Int),.int .i64 (y4:Int),.int .i64 (y5:Int),.int .i64 (y6:Int)]) true).run Try.prog wr=.ok (.tuple #[.int .i64 0,.bool false]) wr:=b5;have i6:=e4.out.len aN;have H3:=Kh h4;have e8:=Kh H7;have j4:=Kh h9;have d9:=Kh h8;clear h4 H7 b4 hI hin h8 l5 h9;go_wp2_with (first|(at_mapUpdate;refine nH aN rfl _ _ _ rfl mb q I (numF Fs) [y0,y1,y2,y3,y4,y5,y6] I rfl rfl rfl e4.out (by unfold maxLen;omega) p8.out o5 ?_;intro w5 a0 f7;(have c5:=Kh a0);(have g1:=Kh f7);(have fF5:=(c7.out.kept f7 (fun e=>by have e:mb=F:=Oj e;omega)).frozen q);(have cF5:=(c7.out.kept f7 (fun e=>by have e:mb=F:=Oj e;omega)).nat q (by rw[g2.out];exact hq));clear a0 f7)|fail);rw[d9.out]at c5;replace c5:=c5.out;have e5:(if (none:Option Nat).isSome=true then I else I+1)=I+1:=rfl;rw[e5,j4.out]at c5;have q1:=Kh c5;clear c5 e5;go_roundg (n - (q+1))
         case measure=>have:=h7.out;omega
         case rel =>
          have f5:=zC w5 ⟨F,q,none⟩ (.int .i64 (I:Int));refine⟨q+1,I+1,by have:=h7.out;omega,by go_num,?_,?_,by rw[e8.out,List.length_append,<- e9.out];rfl,(n0.out.kept g1.out (fun e=>by have e:mb=g:=Oj e;omega)).kept f5 (fun e=>by have e:F=g:=Oj e;omega),zA (zA m6.out g1.out (fun e=>by have e:mb=P:=Oj e;omega)) f5 (fun e=>by have e:F=P:=Oj e;omega),zB (zB m1.out g1.out (fun k e=>by have e:mb=k:=Oj e;omega)) f5 (fun k e=>by have e:F=k:=Oj e;omega)⟩
          ·rw[<- H3.out]
           exact(c7.out.kept g1.out (fun e=>by have e:mb=F:=Oj e;omega)).nat_set q (by rw[g2.out];exact hq) I
          ·rw[e8.out]
           exact q1.out.kept f5 (fun e=>by have e:F=mb:=Oj e;omega)
     ·have b3:q=n:=by have:=h7.out;omega
      have l3:c=cls (yS d k (m+1)):=by
       rw[hc,b3,List.take_of_length_le (by omega),<- j2.out,qFQ]
      have i6:=H0.len aN
      have j5:Hid (Arr wr F 3 (nats (yS d k (m+1)))):=Kh (by
       have e:uA (numb sg) q=yS d k (m+1):=by rw[b3,<- j2.out,<- g0.out];exact lA _
       rw[<- e];exact h0)
      have j6:=Kh l3;rw[<- l3]at d8 e7;have o6:c<=n:=by omega
      clear h0 H0 hc d7 b3;by_cases he:c=C
      ·have q7:=Kh (d8.out he)
       have p9:Hid ((zU d k).length=n):=Kh (by rw[xW,HN.out]);subst he;clear d8 e7 j6;go_wp2;go_ret;rw[q7.out]at j5;exact⟨F,by rw[p9.out];rfl,l6,j5.out,h3⟩
      ·have r9:=e7.out he
       have s7:((c:Int) == (C:Int))=false:=by rw[beq_eq_false_iff_ne];omega
       have x3:=Kh he;have q4:=Kh h3;clear d8 e7 he h3;go_wp2;go_roundg (n - cls (yS d k (m+1)))
       case measure=>have:=j6.out;have:=q9.out;omega
       case rel=>exact⟨m+1,F,rfl,by have:=j6.out;omega,rfl,rfl,j5.out,l6,by omega,h6,q4.out⟩
end Go.Proofs.Ytjfdomfendbhfaa
