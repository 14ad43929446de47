/- Part 14 of the proof. -/
import Derived.Test.YtobakifdllameaaQc13
import Derived.DeepKeys4
set_option linter.unusedVariables false
set_option linter.unusedSimpArgs false
set_option maxRecDepth 100000
set_option maxHeartbeats 16000000
namespace Go.Proofs.Ytobakifdllameaa
open Go.RowKit
def qRY (w:World)(d:DfaV)(n k:Nat)(e:Ending)(w':World):Prop :=
 ∃v G,e=.returned (.tuple #[v,.slice (some ⟨G,0,none⟩) n n])/\sC w w' v (wN d k)/\w.heap.size<=G/\Arr w' G 3 (ints (sV n (yH d k)))/\w.grownBy w' none
theorem qBS (B:Nat)(w:World)(v:Value)(d:DfaV)(n k:Nat)(hB:B<=w.heap.size)(h:sK B w v d)(hd:VD d n k)(h5:n<=512):Calls Try.prog 68 #[v] w (qRY w d n k):=by
 have H0:=h;obtain⟨fb,fo,fc,b,off,cap,RB,RO,RC,rfl,H5⟩:=h.at hd;have hn:=hd.hn;have j8:=hd.n1;have k2:=hd.k6;have k3:=hd.k1;have k4:=H5.fcap.1;have H8:=H5.fcap.2;have k5:=H5.cap.1;have H9:=H5.cap.2;have f9:fc<=9223372036854775807:=by unfold maxLen at H8;omega
 have f8:cap<=9223372036854775807:=by unfold maxLen at H9;omega
 obtain⟨S,hS⟩:=Nm (st0 d);have g9:=Kh hS;have d6:dAgg k (st0 d) fb fo fc b off cap n=.agg #[.int .i64 (k:Int),.int .i64 (S:Int),.slice (some ⟨fb,fo,none⟩) n fc,.slice (some ⟨b,off,none⟩) n cap]:=by rw[hS];rfl
 rw[d6]at H0⊢;obtain⟨a1,b4,H6,d4⟩:=oS w #[.int .i64 (k:Int),.int .i64 (S:Int),.slice (some ⟨fb,fo,none⟩) n fc,.slice (some ⟨b,off,none⟩) n cap] #[.int .i64 0,.int .i64 0,.slice none 0 0,.slice none 0 0] 37;obtain⟨wA,c4⟩:=Nm ((w.alloc (.cells #[.int .i64 (k:Int),.int .i64 (S:Int),.slice (some ⟨fb,fo,none⟩) n fc,.slice (some ⟨b,off,none⟩) n cap] 37)).alloc (.cells #[.int .i64 0,.int .i64 0,.slice none 0 0,.slice none 0 0] 37));rw[<-c4]at a1 b4 H6 d4;obtain⟨c0,c1,c2,c3⟩:=zM a1;obtain⟨P,hP⟩:=Nm w.heap.size;obtain⟨Q,hQ⟩:=Nm (w.heap.size+1);have i2:=Kh hP;have i0:Hid (Q=P+1):=Kh (by omega);have l2:P<Q:=by omega
 have k8:Q<wA.heap.size:=by omega
 have l1:w.heap.size<=P:=by omega
 have g4:B<=wA.heap.size:=by omega
 rw[<-hQ]at b4;rw[<-hP]at a1 c0 c1 c2 c3 hB;obtain⟨j2,j1,i6,g5⟩:=K4 a1 b4 H6 c4;have j3:=Kh (H5.kept H6 (by simp));have HN:=Kh hn;have HD:=Kh hd;have e7:=Kh (rG B wA _ d g4 (H0.kept H6 (by simp)));have g7:=Kh (mM hd h5);clear a1 b4 H6 c4 H5 hn hd h H0 d6 H8 H9 hS d4 hP hQ;go_enter Try.func68,Try.ntmps68;go_upto_region 1 with fail;rw[<-g5.out,<-i2.out,<-i0.out];go_wp2_with fail;refine e7.out.mono ?_;rintro e w1 ⟨rfl,H4⟩;rw[g7.out];have j7:=H4.size;have i7:=Kh H4;have H3:=Kh (zB j2.out H4);have c9:=Kh (zB j1.out H4);have e9:=Kh (qEQ B w1 P d n k S fb fo fc b off cap RB RO RC g9.out h5 ⟨H3.out,j3.out.kept H4 (by simp)⟩);obtain⟨d0,d1,d2,d3⟩:=zM H3.out;clear H4 e7 c0 c1 c2 c3;go_wp2_with fail;refine e9.out.mono ?_;rintro e w2 ⟨v2,sa,sc,rfl,⟨o,hs,sf,cf,sn,cn,rfl,ho,H1⟩,h3,b9⟩;clear e9 d0 d1 d2 d3;obtain⟨h6,g0⟩:=xV HD.out;obtain⟨l,hl⟩:=Nm (yH d k);have HL:=Kh hl;rw[<-hl]at h3 h6 g0⊢;have g1:=h6.hd.1;obtain⟨gl,rfl,k0,j9,a2⟩:=xI h3 g1;obtain⟨m,hm⟩:=Nm (wN d k);rw[<-hm]at H1;have HM:=Kh hm;have a6:(wN d k).start=0:=rfl;have b0:(wN d k).letters=k:=HD.out.hk;rw[<-hm]at a6 b0;rw[<-hm,a6,b0];obtain⟨j4,c8,a4,i9,i4,i5⟩:=K6 a2 b9 h6 H1 a6 b0;have j6:=b9.size;obtain⟨FL,c6⟩:=Nm m.final.length;obtain⟨NL,c5⟩:=Nm m.next.length;rw[<-c6,<-c5];have i8:=Kh c6;have i3:=Kh c5;clear hl h3 a2 b9 h6 hm a6 b0 H1 c6 c5;obtain⟨w3,b6⟩:=Nm (w2.alloc (.cells #[.int .i64 (k:Int),.int .i64 0,.slice sf FL cf,.slice sn NL cn] 37));obtain⟨T,hT⟩:=Nm w2.heap.size;have H7:=Ga w2 (.cells #[.int .i64 (k:Int),.int .i64 0,.slice sf FL cf,.slice sn NL cn] 37) none;have a0:=heap_alloc_new w2 (.cells #[.int .i64 (k:Int),.int .i64 0,.slice sf FL cf,.slice sn NL cn] 37);rw[<-b6]at H7 a0;rw[<-hT]at a0;obtain⟨b5,j0,g6,g8⟩:=K4 H7 a0 b6 hT;have j5:=H7.size;have k7:=zQ a0;have k9:Q<T:=by omega
 have l0:P+1<w3.heap.size:=by omega
 obtain⟨d0,d1,d2,d3⟩:=zM (zB (zB H3.out c8.out) H7);clear H7 a0 b6 hT;go_upto_region 4 with fail;rw[<-g6.out,<-g8.out];go_wp2_with (first|(at_make;refine qV rfl _ _ _ rfl yJ rfl .i64 .i64 _ _ n rfl rfl rfl rfl ?b1 ?b2 ?_;(case b1=>omega);(case b2=>(unfold maxLen;omega));intro w4 h0 e5 b8)|fail);obtain⟨G,hG⟩:=Nm w3.heap.size;rw[<-hG]at h0 b8⊢;obtain⟨f5,e8,c7⟩:=K3 h0 e5 hG;have l3:T<G:=by omega
 clear h0 e5 hG d0 d1 d2 d3
 go_loopg [8,32] n (fun gh a7 i wr=>∃q:Nat,gh+q=n/\i=.int .i64 q/\Arr wr G 3 (ints (gJ n q))/\w3.grownBy wr none)
 case atStart=>exact⟨0,rfl,rfl,by simpa [gJ,qG] using f5.out,e8.out⟩
 clear f5 e8;obtain⟨q,hg,rfl,h0,h4⟩:=hrel;obtain⟨HG,HA,a3⟩:=K3 hg h0 h4;clear hg;by_cases hq:q<n
 ·have f7:(q:Int)<n:=by omega
  have cgk:=h0.int q (by rw[pY (by omega)];exact hq);have fgk:=h0.frozen q;have HS:=Kh (qCW hq);clear h0 h4;go_wp2;go_roundg (n-(q+1))
  case measure=>have:=HG.out;omega
  refine⟨q+1,by omega,by go_num,?_,zC a3.out (zF wr ⟨G,q,none⟩ _) (fun q e=>by have h7:G=q:=Oj e;have:=c7.out;omega)⟩;rw[<-HS.out];exact HA.out.int_set q (by rw[pY (by omega)];exact hq) (-1)
 have d7:q=n:=by have:=HG.out;omega
 have HF:Hid (gJ n q=sV n (l.take 0)):=Kh (by rw[d7,List.take_zero,bD];simp[gJ]);rw[HF.out]at HA;clear d7 h0 h4 HG;obtain⟨w5,rfl⟩:=Nm (wr:World);go_wp2
 go_loopg [9,10,41] l.length (fun gh a8 a9 i wr=>∃q:Nat,gh+q=l.length/\i=.int .i64 q/\Arr wr G 3 (ints (sV n (l.take q)))/\w3.grownBy wr none)
 case atStart=>exact⟨0,rfl,rfl,HA.out,a3.out⟩
 clear HA a3 HF;obtain⟨q,hg,rfl,h0,h4⟩:=hrel;obtain⟨HG,HA,a3⟩:=K3 hg h0 h4;clear hg;by_cases hq:q<l.length
 ·have f7:(q:Int)<l.length:=by omega
  have cl:=((j4.out.kept b5.out (by simp)).kept h4 (by simp)).nat q hq;have b7:l.getD q 0<n:=a4.out.lt _ (by rw[zK hq];exact List.getElem_mem _);have a5:l.take (q+1)=l.take q++[l.getD q 0]:=yD hq
  have h9:l.getD q 0 ∉ l.take q:=by
   have h1:=a4.out.nd;have h2:(l.take (q+1)).Nodup:=h1.sublist (List.take_sublist _ _);rw[a5,List.nodup_append]at h2;exact fun hm=>h2.2.2 _ hm _ (by simp) rfl
  obtain⟨s,hs⟩:=Nm (l.getD q 0);rw[<-hs]at cl b7 a5 h9;have f6:(s:Int)<n:=(by omega);have cgk:=h0.int s (by rw[uB];exact b7);have fgk:=h0.frozen s
  have HS:Hid ((sV n (l.take q)).set s (q:Int)=sV n (l.take (q+1))):=Kh (by
   have:=bC (n:=n) h9;rw[List.length_take,Nat.min_eq_left (by omega)]at this
   rw[this,a5])
  clear h0 h4 a5 h9 hs;go_wp2;go_roundg (l.length-(q+1))
  case measure=>have:=HG.out;omega
  refine⟨q+1,by omega,by go_num,?_,zC a3.out (zF wr ⟨G,s,none⟩ _) (fun q e=>by have h7:G=q:=Oj e;have:=c7.out;omega)⟩;rw[<-HS.out];exact HA.out.int_set s (by rw[uB];exact b7) (q:Int)
 have d8:q=l.length:=by have:=HG.out;omega
 have d9:l.take q=l:=by rw[d8];exact List.take_length
 rw[d9]at HA h0;have i1:=Kh h0;have h8:=Kh h4;clear d8 d9 h0 HA HG h4;obtain⟨e0,e1,e2,e3⟩:=zM (zB j0.out h8.out);have H2:=zB (zB (zB c9.out c8.out) b5.out) h8.out;obtain⟨q0,q1,q2,q3⟩:=zM H2;have f0:=zA H2 0;have f1:=zA H2 1;have f2:=zA H2 2;have f3:=zA H2 3;have f4:=Kh H2;clear H2;go_wp2;obtain⟨e6,b3⟩:=tG f4.out (.int .i64 (k:Int)) (.int .i64 0) (.slice sf FL cf) (.slice sn NL cn);obtain⟨wz,d5⟩:=Nm ((((wr.setCell ⟨Q,0,none⟩ (.int .i64 (k:Int))).setCell ⟨Q,1,none⟩ (.int .i64 0)).setCell ⟨Q,2,none⟩ (.slice sf FL cf)).setCell ⟨Q,3,none⟩ (.slice sn NL cn));rw[<-d5]at e6 b3⊢;clear d5;obtain⟨r0,r1,r2,r3⟩:=zM e6;clear e0 e1 e2 e3 q0 q1 q2 q3 f0 f1 f2 f3;refine bodyPost_ret (v:=.tuple #[.agg #[.int .i64 (k:Int),.int .i64 0,.slice sf FL cf,.slice sn NL cn],.slice (some ⟨G,0,none⟩) n n]) (by simp[results,Try.results68,go_sem,r0,r1,r2,r3]) rfl ?_;have g2:w.grownBy wz none:=zC (zC (zC (zC (zC i6.out i7.out) c8.out) b5.out) h8.out) b3 (fun k e=>by have h7:Q=k:=Oj e;omega);have g3:=((i9.out.grow b5.out).grow h8.out).far b3 f4.out (by omega);have e4:wN d k=m:=HM.out.symm;refine⟨_,G,rfl,⟨o,hs,sf,cf,sn,cn,?_,by omega,by rw[e4];exact g3⟩,by have:=c7.out;omega,?_,g2⟩
 ·rw[e4,i4.out,i5.out,i8.out,i3.out]
 rw[<-HL.out];exact i1.out.kept b3 (fun e=>by have h7:Q=G:=Oj e;omega)
end Go.Proofs.Ytobakifdllameaa
namespace Go.Proofs.Ytobakifdllameaa
def acc (d:DfaV)(q:Nat)(w:List Nat):Bool:=d.final.getD (run d q w) false
theorem qOT {a b:Bool}(h:finB a=finB b):a=b:=by cases a<;>cases b<;>simp[finB]at h<;>rfl
section
variable {d:DfaV} {n k:Nat}
theorem oX (hd:VD d n k){q q':Nat}(hq:q<n)(a9:q'<n):(nT d).getD q 0=(nT d).getD q' 0↔d.final.getD q false=d.final.getD q' false:=by
 have hn:=hd.hn;rw[nT,nV (by rw[List.length_map];omega) (by rw[List.length_map];omega),List.getElem_map,List.getElem_map,<-zK (d:=false),<-zK (d:=false)];exact⟨qOT,fun h=>by rw[h]⟩
theorem jL (hd:VD d n k):∀m {q q':Nat},q<n->q'<n->(xK d k m).getD q 0=(xK d k m).getD q' 0->d.final.getD q false=d.final.getD q' false
 | 0,q,q',hq,hq',h=>(oX hd hq hq').1 h
 | m+1,q,q',hq,hq',h=>jL hd m hq hq' ((rK hd (by rw[xJ,hd.hn]) (by rw[<-hd.hn];exact qAS d k m) hq hq' k (Nat.le_refl _)).1 h).1
theorem dD (hd:VD d n k):∀m {q q':Nat},q<n->q'<n->(xK d k m).getD q 0≠(xK d k m).getD q' 0->∃w,xM k w/\acc d q w≠acc d q' w
 | 0,q,q',hq,hq',h=>⟨[],fun a ha=>by simp at ha,fun e=>h ((oX hd hq hq').2 e)⟩
 | m+1,q,q',hq,hq',h=>by
  by_cases h1:(xK d k m).getD q 0=(xK d k m).getD q' 0
  ·have hx:¬∀a,a<k->(xK d k m).getD (nx d q a) 0=(xK d k m).getD (nx d q' a) 0:=fun ha=>h ((rK hd (by rw[xJ,hd.hn]) (by rw[<-hd.hn];exact qAS d k m) hq hq' k (Nat.le_refl _)).2 ⟨h1,ha⟩)
   obtain⟨a,ha⟩:=Classical.not_forall.1 hx
   obtain⟨ha,hne⟩:=Classical.not_imp.1 ha
   obtain⟨w,hw,e⟩:=dD hd m (pI hd hq ha) (pI hd hq' ha) hne
   exact⟨a::w,fun b hb=>by
    rcases List.mem_cons.1 hb with rfl|hb
    ·exact ha
    ·exact hw b hb,e⟩
  ·exact dD hd m hq hq' h1
theorem jU (d:DfaV)(p:List Nat):st0 (wQ d p)=p.getD (st0 d) 0:=by simp[st0,wQ]
theorem lX (hd:VD d n k){q:Nat}(hq:q<n){w:List Nat}(hw:xM k w):acc (wQ d (yF d k)) ((yF d k).getD q 0) w=acc d q w:=by
 have hl:(yF d k).length=n:=by rw[vD,hd.hn]
 have hN:=uE d k;have hr:=kU hd w hq hw;unfold acc;rw[aV hd hl hN (lH hd) w hq hw];have hc:=sH hN (show run d q w<(yF d k).length by omega);have hg:=pU hN hc;show ((reps (yF d k)).map fun q=>d.final.getD q false).getD _ false=_;rw[xR (x:=0) (by rw[pH hN];exact hc)];exact jL hd _ (by omega) hr hg.1
theorem aW (hd:VD d n k){c c':Nat}(hc:c<cls (yF d k))(a9:c'<cls (yF d k))(h:∀w,xM k w->acc (wQ d (yF d k)) c w=acc (wQ d (yF d k)) c' w):c=c':=by
 have hl:(yF d k).length=n:=by rw[vD,hd.hn]
 have hN:=uE d k;obtain⟨h1,h2⟩:=pU hN hc;obtain⟨h3,h4⟩:=pU hN a9;rw[hl]at h2 h4;rcases Decidable.em (c=c') with e|e
 ·exact e
 exfalso;obtain⟨w,hw,h0⟩:=dD hd d.final.length h2 h4 (by rw[show xK d k d.final.length=yF d k from rfl,h1,h3];exact e);have a1:=lX hd h2 hw;have a2:=lX hd h4 hw;rw[h1]at a1;rw[h3]at a2;exact h0 (a1.symm.trans ((h w hw).trans a2))
theorem qFL (hd:VD d n k){w:List Nat}(hw:xM k w):acc (wN d k) 0 w=acc d (st0 d) w:=by
 have hA:=(xV hd).1;have hr:=kU (mO hd) w (mO hd).n1 hw;unfold acc;rw[lQ hd hr,fK hd w hA.hd.1 hw,hA.hd.2]
theorem qEE (hd:VD d n k){w:List Nat}(hw:xM k w):acc (minD d k) 0 w=acc d (st0 d) w:=by
 rw[show acc (minD d k) 0 w=acc (wQ d (yF d k)) (st0 (wQ d (yF d k))) w from qFL (qE hd) hw,jU];exact lX hd (oU hd) hw
end
inductive Side (R:Nat->Nat->Prop):List Nat->List Nat->Prop
 | nil:Side R [] []
 | snoc {l l':List Nat} {q q':Nat}:Side R l l'->R q q'->Side R (l++[q]) (l'++[q'])
theorem Side.len {R:Nat->Nat->Prop}{l l':List Nat}(h:Side R l l'):l.length=l'.length:=by
 induction h with
 | nil=>rfl
 | snoc _ _ ih=>simp[ih]
theorem Side.get {R:Nat->Nat->Prop}{l l':List Nat}(h:Side R l l'):∀i,i<l.length->R (l.getD i 0) (l'.getD i 0):=by
 induction h with
 | nil=>intro i hi;simp at hi
 | @snoc l l' q q' hs hr ih =>
  intro i hi;have hl:=hs.len;simp at hi;by_cases e:i<l.length
  ·rw[pM (List.prefix_append _ _) e,pM (List.prefix_append _ _) (by omega)];exact ih i e
  have e1:i=l.length:=by omega
  subst e1;have a1:(l++[q]).getD l.length 0=q:=by simp[List.getD]
  have a2:(l'++[q']).getD l.length 0=q':=by rw[hl];simp[List.getD]
  rw[a1,a2];exact hr
structure One (R:Nat->Nat->Prop):Prop where
 l:∀ {q q' r'},R q q'->R q r'->q'=r'
 r:∀ {q r q'},R q q'->R r q'->q=r
theorem Side.mem {R:Nat->Nat->Prop}(hR:One R){l l':List Nat}(h:Side R l l'){q q':Nat}(hq:R q q'):q∈l↔q'∈l':=by
 have hl:=h.len;constructor
 ·intro hm
  obtain⟨i,hi,rfl⟩:=List.getElem_of_mem hm;have:=h.get i hi;rw[zK hi]at this;rw[hR.l hq this,zK (by omega)];exact List.getElem_mem _
 intro hm;obtain⟨i,hi,rfl⟩:=List.getElem_of_mem hm;have:=h.get i (by omega);rw[zK hi,zK (show i<l.length by omega)]at this;rw[hR.r hq this];exact List.getElem_mem _
theorem Side.add {R:Nat->Nat->Prop}(hR:One R){l l':List Nat}(h:Side R l l'){q q':Nat}(hq:R q q'):Side R (wO l q) (wO l' q'):=by
 unfold wO;by_cases e:q∈l
 ·rw[if_pos e,if_pos ((h.mem hR hq).1 e)];exact h
 rw[if_neg e,if_neg (fun e'=>e ((h.mem hR hq).2 e'))];exact .snoc h hq
theorem Side.idx {R:Nat->Nat->Prop}(hR:One R){l l':List Nat}(h:Side R l l')(hn:l.Nodup)(a9:l'.Nodup){q q':Nat}(hq:R q q')(hm:q∈l):l.idxOf q=l'.idxOf q':=by
 have hi:=List.idxOf_lt_length_of_mem hm;have hl:=h.len;have:=h.get _ hi;rw[zK hi,List.getElem_idxOf,zK (show l.idxOf q<l'.length by omega)]at this;have e:=hR.l hq this;have h0:=(h.mem hR hq).1 hm;have h1:=List.idxOf_lt_length_of_mem h0;have e2:l'[l'.idxOf q']=l'[l.idxOf q]'(by omega):=by rw[List.getElem_idxOf];exact e
 exact((List.getElem_inj a9).1 e2).symm
section
variable {x x':DfaV} {n n' k:Nat} {R:Nat->Nat->Prop}
theorem qFO (hR:One R)(hs:∀ {q q' a},R q q'->a<k->R (nx x q a) (nx x' q' a)){l l':List Nat}(h:Side R l l'){i:Nat}(hi:i<l.length):∀a,a<=k->Side R (vV x l i a) (vV x' l' i a)
 | 0,_=>h
 | a+1,ha=>(qFO hR hs h hi a (by omega)).add hR (hs (h.get i hi) (by omega))
theorem qJH (hR:One R)(hs:∀ {q q' a},R q q'->a<k->R (nx x q a) (nx x' q' a)):∀f i {l l':List Nat},Side R l l'->Side R (qS x k f i l) (qS x' k f i l')
 | 0,_,_,_,h=>h
 | f+1,i,l,l',h=>by
  rw[qS,qS,h.len]
  by_cases e:i<l'.length
  ·rw[if_pos e,if_pos e]
   exact qJH hR hs f (i+1) (qFO hR hs h (by rw[h.len];exact e) k (Nat.le_refl _))
  ·rw[if_neg e,if_neg e];exact h
end
theorem bY {d:DfaV}{n k:Nat}(hd:VD d n k):∀f i l m,AccI d n k i l->n<=i+f->qS d k (f+m) i l=qS d k f i l
 | 0,i,l,m,h,hf=>by
  have hl:=qU h.nd h.lt
  rw[dI (f:=0+m) (by omega),qS]
 | f+1,i,l,m,h,hf=>by
  rw[show f+1+m=(f+m)+1 by omega,qS,qS]
  by_cases e:i<l.length
  ·rw[if_pos e,if_pos e]
   exact bY hd f (i+1) _ m (h.row hd e) (by omega)
  ·rw[if_neg e,if_neg e]
theorem dH {d:DfaV}{n k:Nat}(hd:VD d n k)(m:Nat):qS d k (n+m) 0 [st0 d]=yH d k:=by
 rw[yH,hd.hn];exact bY hd n 0 _ m (AccI.start hd) (by omega)
theorem qGR {x x':DfaV}{n n' k:Nat}(hx:VD x n k)(a9:VD x' n' k)(hr:∀ {c c'},c<n->c'<n->(∀w,xM k w->acc x c w=acc x c' w)->c=c')(a8:∀ {c c'},c<n'->c'<n'->(∀w,xM k w->acc x' c w=acc x' c' w)->c=c')(hl:∀w,xM k w->acc x (st0 x) w=acc x' (st0 x') w):wN x k=wN x' k:=by
 obtain⟨R,h8⟩:∃R:Nat->Nat->Prop,∀q q',R q q'↔q<n/\q'<n'/\∀w,xM k w->acc x q w=acc x' q' w:=⟨fun q q'=>q<n/\q'<n'/\∀w,xM k w->acc x q w=acc x' q' w,fun _ _=>Iff.rfl⟩
 have hR:One R:=by
  refine⟨fun {q q' r'} h1 h2=>?_,fun {q r q'} h1 h2=>?_⟩
  ·obtain⟨_,h3,h4⟩:=(h8 _ _).1 h1
   obtain⟨_,h5,h6⟩:=(h8 _ _).1 h2;exact a8 h3 h5 (fun w hw=>(h4 w hw).symm.trans (h6 w hw))
  obtain⟨h3,_,h4⟩:=(h8 _ _).1 h1;obtain⟨h5,_,h6⟩:=(h8 _ _).1 h2;exact hr h3 h5 (fun w hw=>(h4 w hw).trans (h6 w hw).symm)
 have hs:∀ {q q' a},R q q'->a<k->R (nx x q a) (nx x' q' a):=fun {q q' a} h ha=>by
  obtain⟨h1,h2,h3⟩:=(h8 _ _).1 h
  exact(h8 _ _).2 ⟨pI hx h1 ha,pI a9 h2 ha,fun w hw=>h3 (a::w) (fun b hb=>by
   rcases List.mem_cons.1 hb with rfl|hb
   ·exact ha
   exact hw b hb)⟩
 have h0:R (st0 x) (st0 x'):=(h8 _ _).2 ⟨oU hx,oU a9,hl⟩
 have h7:Side R (yH x k) (yH x' k):=by
  have:=qJH (x:=x) (x':=x') (k:=k) hR hs (n+n') 0 (Side.snoc .nil h0);rw[List.nil_append,List.nil_append,dH hx n']at this;rw[Nat.add_comm n n',dH a9 n]at this;exact this
 have hA:=(xV hx).1;have H2:=(xV a9).1;have h9:=h7.len;have hm:∀i,i<(yH x k).length->(yH x k).getD i 0∈yH x k:=fun i hi=>by rw[zK hi];exact List.getElem_mem _
 have key:∀i,i<(yH x k).length->(wN x k).final.getD i false=(wN x' k).final.getD i false:=fun i hi=>by
  rw[lQ hx hi,lQ a9 (by omega)];obtain⟨_,_,h⟩:=(h8 _ _).1 (h7.get i hi);exact h [] (fun a ha=>by simp at ha)
 have hv:=mO hx;have H0:=mO a9;have e1:(wN x k).letters=(wN x' k).letters:=hx.hk.trans a9.hk.symm
 have e3:(wN x k).final=(wN x' k).final:=by
  refine List.ext_getElem (by rw[hv.hn,H0.hn,h9]) fun i h1 h2=>?_;have:=key i (by rw[hv.hn]at h1;exact h1);rw[zK h1,zK h2]at this;exact this
 have e4:(wN x k).next=(wN x' k).next:=by
  refine List.ext_getElem (by rw[hv.nl,H0.nl,h9]) fun i h1 h2=>?_;have hi:i<(yH x k).length:=by rw[hv.nl]at h1;exact h1
  have r1:=hv.row i hi;have r2:=H0.row i (by omega);rw[zK h1]at r1;rw[zK h2]at r2;refine List.ext_getElem (by rw[r1,r2]) fun a h3 h4=>?_;have ha:a<k:=by omega
  have t1:=jR hx hi ha;have t2:=jR a9 (show i<(yH x' k).length by omega) ha;have hq:=h7.get i hi;have H3:=(xV hx).2;have H1:=hA.cl i a (by omega) hi ha;rw[h7.idx hR hA.nd H2.nd (hs hq ha) H1,<-t2]at t1;unfold ent at t1;rw[zK h1,zK h2,zK h3,zK h4]at t1;exact t1
 show (⟨_,0,(wN x k).final,(wN x k).next⟩:DfaV)=⟨_,0,(wN x' k).final,(wN x' k).next⟩;rw[e3,e4];exact congrArg (fun z=>(⟨z,0,(wN x' k).final,(wN x' k).next⟩:DfaV)) e1
theorem eR {d d':DfaV}{n n' k:Nat}(hd:VD d n k)(a9:VD d' n' k)(h:∀w,xM k w->acc d (st0 d) w=acc d' (st0 d') w):minD d k=minD d' k:=by
 refine qGR (qE hd) (qE a9) (fun h1 h2=>aW hd h1 h2) (fun h1 h2=>aW a9 h1 h2) fun w hw=>?_;rw[jU,jU,lX hd (oU hd) hw,lX a9 (oU a9) hw];exact h w hw
theorem qOA {d:DfaV}{n k:Nat}(hd:VD d n k):minD (wN d k) k=minD d k:=eR (mO hd) hd (fun w hw=>by rw[show st0 (wN d k)=0 from rfl];exact qFL hd hw)
def kL (d:DfaV)(p:List Nat)(q x:Nat):List Nat:=(p.getD q 0::(List.range x).map fun a=>p.getD (nx d q a) 0)++List.replicate (6-x) 0
theorem mT {d:DfaV}{p:List Nat}{q x:Nat}(h:x<=6):(kL d p q x).length=7:=by simp[kL];omega
theorem qJF {d:DfaV}{p:List Nat}{q x:Nat}(h:x<6):(kL d p q x).set (1+x) (p.getD (nx d q x) 0)=kL d p q (x+1):=by
 unfold kL;rw[List.set_append_right _ _ (by simp;omega),List.range_succ,List.map_append,show 6-x=(6-(x+1))+1 by omega,List.replicate_succ];simp[Nat.add_comm]
theorem qNA {d:DfaV}{p:List Nat}{q x N:Nat}(h:∀c∈p,c<N)(hN:0<N):∀y∈kL d p q x,y<N:=by
 intro y hy;rcases List.mem_append.1 hy with hy|hy
 ·rcases List.mem_cons.1 hy with rfl|hy
  ·exact sZ h hN
  obtain⟨a,_,rfl⟩:=List.mem_map.1 hy;exact sZ h hN
 rw[List.mem_replicate]at hy;omega
theorem qJG {d:DfaV}{p:List Nat}{q q' k:Nat}:kL d p q k=kL d p q' k↔p.getD q 0=p.getD q' 0/\∀a,a<k->p.getD (nx d q a) 0=p.getD (nx d q' a) 0:=by
 unfold kL;constructor
 ·intro h
  have h:=List.append_cancel_right h;rw[List.cons.injEq,List.map_inj_left]at h;exact⟨h.1,fun a ha=>h.2 a (List.mem_range.2 ha)⟩
 rintro ⟨h1,h2⟩;rw[h1,List.map_congr_left (fun a ha=>h2 a (List.mem_range.1 ha))]
def sigL (d:DfaV)(k:Nat)(p:List Nat):List (List Nat):=(List.range p.length).map fun q=>kL d p q k
theorem kZ (d:DfaV)(k:Nat)(p:List Nat):(sigL d k p).length=p.length:=by simp[sigL]
theorem aP {d:DfaV}{k:Nat}{p:List Nat}{q:Nat}(h:q<p.length):(sigL d k p)[q]'(by rw[kZ];exact h)=kL d p q k:=by simp[sigL]
theorem qJD {d:DfaV}{n k:Nat}(hd:VD d n k){p:List Nat}(hp:p.length=n)(hn:Norm p):numb (sigL d k p)=tK d p k:=by
 have h0:∀c∈p,c<n:=by have:=oD hn;rwa [hp]at this
 have hl:=kZ d k p;refine jZ (mV _) (lW hn k) ⟨by rw[yW,hl,xO],fun i j hi hj=>?_⟩;rw[yW,hl]at hi hj;rw[nV (by omega) (by omega),aP hi,aP hj,qJG,rK hd hp h0 (by omega) (by omega) k (Nat.le_refl _)]
theorem bJ {α:Type}[DecidableEq α]{l:List α}{k:Nat}(hk:k<l.length):(numb l).getD k 0=if l[k]∈yO (l.take k) then (yO (l.take k)).idxOf l[k] else (yO (l.take k)).length:=by
 rw[zK (by rw[yW];exact hk),pW hk,<-qCE hk,List.take_succ_eq_append_getElem hk,sJ];by_cases h:l[k]∈yO (l.take k)
 ·rw[tE h,if_pos h]
 rw[vN h,if_neg h,List.idxOf_append,if_neg h];simp
theorem jH {α:Type}[DecidableEq α]{l:List α}{k:Nat}(hk:k<l.length):yO (l.take (k+1))=wO (yO (l.take k)) l[k]:=by
 rw[List.take_succ_eq_append_getElem hk,sJ]
theorem qGG {α:Type}[DecidableEq α](l:List α):cls (numb l)=(yO l).length:=by
 unfold cls numb;rw[dP _ _ (fun x hx y _ h=>qCV (xY.2 hx) h),List.length_map]
def uI (d:DfaV)(q:Nat):List Nat:=(List.range q).map fun i=>if d.final.getD i false=d.final.getD 0 false then 0 else 1
def fstC (d:DfaV)(q:Nat):Nat:=if (uI d q).all (· == 0) then 1 else 2
def fstF (d:DfaV)(n q:Nat):List Nat:=uI d q++List.replicate (n-q) 0
theorem jF {d:DfaV}{n q:Nat}(h:q<=n):(fstF d n q).length=n:=by simp[fstF,uI];omega
theorem qLH {d:DfaV}{n q:Nat}(h:q<n)(e:d.final.getD q false=d.final.getD 0 false):fstF d n (q+1)=fstF d n q/\fstC d (q+1)=fstC d q:=by
 have h1:uI d (q+1)=uI d q++[0]:=by
  simp only[uI,List.range_succ,List.map_append,List.map_cons,List.map_nil,if_pos e]
 constructor
 ·unfold fstF
  rw[h1,show n-q=(n-(q+1))+1 by omega,List.replicate_succ,List.append_assoc];rfl
 unfold fstC;rw[h1,List.all_append];simp
theorem qLI {d:DfaV}{n q:Nat}(h:q<n)(e:d.final.getD q false≠d.final.getD 0 false):fstF d n (q+1)=(fstF d n q).set q 1/\fstC d (q+1)=2:=by
 have h1:uI d (q+1)=uI d q++[1]:=by
  simp only[uI,List.range_succ,List.map_append,List.map_cons,List.map_nil,if_neg e]
 have hl:(uI d q).length=q:=by simp[uI]
 constructor
 ·unfold fstF
  rw[h1,List.set_append_right _ _ (by omega),hl,Nat.sub_self,show n-q=(n-(q+1))+1 by omega,List.replicate_succ,List.set_cons_zero,List.append_assoc];rfl
 unfold fstC;rw[h1,List.all_append];simp
theorem qLG {d:DfaV}{n k:Nat}(hd:VD d n k):uI d n=nT d/\fstC d n=cls (nT d):=by
 have hl:(uI d n).length=n:=by simp[uI]
 have hg:∀i,i<n->(uI d n).getD i 0=if d.final.getD i false=d.final.getD 0 false then 0 else 1:=fun i hi=>by
  rw[zK (by omega)];simp[uI]
 have h8:∀i j,i<n->j<n->((uI d n).getD i 0=(uI d n).getD j 0↔(nT d).getD i 0=(nT d).getD j 0):=fun i j hi hj=>by
  rw[hg i hi,hg j hj,oX hd hi hj];cases d.final.getD i false<;>cases d.final.getD j false<;>cases d.final.getD 0 false<;>simp
 have H4:=pV d;have h9:=hd.n1
 have h6:Norm (uI d n):=by
  unfold Norm;have h0:(uI d n).getD 0 0=0:=by rw[hg 0 (by omega),if_pos rfl]
  refine List.ext_getElem (yW _) fun i h1 h2=>?_;have hi:i<n:=by omega
  rw[pW h2]
  have key:∀m,0<m->m<=n->yO ((uI d n).take m)=if (∃j,j<m/\(uI d n).getD j 0=1) then [0,1] else [0]:=by
   intro m hm H7
   induction m with
   | zero=>omega
   | succ m ih =>
    have H0:m<(uI d n).length:=(by omega);rw[jH H0,<-zK (d:=0) H0];have h7:(uI d n).getD m 0=0\/(uI d n).getD m 0=1:=by rw[hg m (by omega)];split<;>simp
    by_cases hm0:m=0
    ·subst hm0
     rw[h0]
     have:¬∃j,j<0+1/\(uI d n).getD j 0=1:=by
      rintro ⟨j,hj,e⟩;have:j=0:=by omega
      subst this;omega
     rw[if_neg this];rfl
    rw[ih (by omega) (by omega)];by_cases hex:∃j,j<m/\(uI d n).getD j 0=1
    ·have h5:∃j,j<m+1/\(uI d n).getD j 0=1:=hex.imp fun j h=>⟨by omega,h.2⟩
     rw[if_pos hex,if_pos h5];rcases h7 with e|e<;>rw[e]<;>rfl
    rw[if_neg hex];rcases h7 with e|e
    ·have h5:¬∃j,j<m+1/\(uI d n).getD j 0=1:=by
      rintro ⟨j,hj,e2⟩;rcases Nat.lt_succ_iff_lt_or_eq.1 hj with hj|rfl
      ·exact hex ⟨j,hj,e2⟩
      ·omega
     rw[if_neg h5,e];rfl
    rw[if_pos ⟨m,by omega,e⟩,e];rfl
  have hk:=key n (by omega) (Nat.le_refl _);rw[show (uI d n).take n=uI d n by rw[List.take_of_length_le (by omega)]]at hk;rw[hk];have h7:(uI d n).getD i 0=0\/(uI d n).getD i 0=1:=by rw[hg i hi];split<;>simp
  rw[zK h2]at h7;rcases h7 with e|e
  ·rw[e];split<;>rfl
  rw[e,if_pos ⟨i,hi,by rw[zK h2,e]⟩];rfl
 have H1:uI d n=nT d:=jZ h6 (iY d) ⟨by rw[hl,H4,hd.hn],fun i j hi hj=>h8 i j (by omega) (by omega)⟩;refine⟨H1,?_⟩;rw[<-H1];unfold fstC;by_cases ha:(uI d n).all (· == 0)=true
 ·rw[if_pos ha]
  have:uI d n=List.replicate n 0:=by
   refine List.eq_replicate_iff.2 ⟨hl,fun x hx=>?_⟩;simpa using List.all_eq_true.1 ha x hx
  rw[this]
  have h1:(yO (List.replicate n 0)) ⊆ [0]:=fun x hx=>by
   have:=xY.1 hx;rw[List.mem_replicate]at this;simp[this.2]
  have h2:=(rB (List.replicate n 0)).length_le_of_subset h1;have h3:=jK (p:=List.replicate n 0) (by simp;omega);unfold cls at h3⊢;simp at h2;omega
 rw[if_neg ha]
 have h1:yO (uI d n) ⊆ [0,1]:=fun x hx=>by
  obtain⟨i,_,rfl⟩:=List.mem_map.1 (xY.1 hx)
  split<;>simp
 have h2:=(rB (uI d n)).length_le_of_subset h1
 have h9:∃x∈uI d n,x≠0:=by
  apply Classical.byContradiction;intro H5
  exact ha (List.all_eq_true.2 fun x hx=>by
   have:x=0:=Classical.byContradiction fun h=>H5 ⟨x,hx,h⟩
   simp[this])
 obtain⟨x,hx,H3⟩:=h9
 have H2:x=1:=by
  obtain⟨i,_,rfl⟩:=List.mem_map.1 hx
  split at H3
  ·omega
  rename_i h;rw[if_neg h]
 have H6:0∈uI d n:=by
  rw[uI,List.mem_map];exact⟨0,List.mem_range.2 (by omega),if_pos rfl⟩
 have h3:[0,1] ⊆ yO (uI d n):=fun y hy=>by
  simp only[List.mem_cons,List.not_mem_nil,or_false]at hy;rcases hy with rfl|rfl
  ·exact xY.2 H6
  exact xY.2 (H2 ▸ hx)
 have h4:=(show [0,1].Nodup by decide).length_le_of_subset h3;unfold cls;simp at h2 h4;omega
theorem qLV {d:DfaV}{n k:Nat}(hd:VD d n k)(m:Nat):numb (sigL d k (xK d k m))=xK d k (m+1):=qJD hd (by rw[xJ,hd.hn]) (tT d k m)
theorem qIE {d:DfaV}{n k:Nat}(hd:VD d n k){m:Nat}(hm:m<=n)(h:cls (xK d k (m+1))=cls (xK d k m)):xK d k (m+1)=yF d k:=by
 have e:tK d (xK d k m) k=xK d k m:=Classical.byContradiction fun hne=>by
  have:=nQ hd (by rw[xJ,hd.hn]) (tT d k m) hne;rw[xK]at h;omega
 rw[oF (by rw[hd.hn];exact hm) e,xK,e]
theorem qIF {d:DfaV}{n k:Nat}(hd:VD d n k){m:Nat}(h:cls (xK d k (m+1))≠cls (xK d k m)):cls (xK d k m)<cls (xK d k (m+1)):=by
 have e:tK d (xK d k m) k≠xK d k m:=fun e=>h (by rw[xK,e]);exact nQ hd (by rw[xJ,hd.hn]) (tT d k m) e
theorem qOZ {d:DfaV}{n k:Nat}(hd:VD d n k)(m:Nat):cls (xK d k m)<=n:=by
 have:=cls_le (xK d k m)
 rwa [xJ,hd.hn]at this
open Go.Maps Go.RowKit
theorem eE:Try.prog.underlying 130=some (.array 7 3):=by kernel_rfl
theorem qBO:Try.prog.underlying 128=some (.map 130 3):=by kernel_rfl
theorem qJE:Keyed Try.prog 130:=Keyed.of_law (deep_law_laid (m:=5) (by kernel_rfl) (by decide) (of_decide_eq_true (by kernel_rfl)) (by kernel_rfl) (by kernel_rfl))
theorem qSM {x:Nat}(hx:x<4611686018427387904):(Lit.int .i64 (x:Int)).wf=true:=bM (x:=(x:Int)) ⟨by omega,by omega⟩
theorem mA (d:Nat){x:Nat}(hx:x<4611686018427387904):Try.prog.keyLits (d+1) 3 [.int .i64 (x:Int)]=some [.int .i64 (x:Int)]:=by
 unfold Program.keyLits;rw[tM];simp[qSM hx]
def sigV (L:List Nat):Value:=.agg #[.int .i64 ((L.getD 0 0:Nat):Int),.int .i64 ((L.getD 1 0:Nat):Int),.int .i64 ((L.getD 2 0:Nat):Int),.int .i64 ((L.getD 3 0:Nat):Int),.int .i64 ((L.getD 4 0:Nat):Int),.int .i64 ((L.getD 5 0:Nat):Int),.int .i64 ((L.getD 6 0:Nat):Int)]
def qPR (L:List Nat):Prop:=L.length=7/\∀x∈L,x<4611686018427387904
theorem qBP:Try.prog.cellsOf 130=7:=by kernel_rfl
theorem qLC:Try.prog.cellsOf 3=1:=by kernel_rfl
theorem qMZ {x0 x1 x2 x3 x4 x5 x6:Nat}(h0:x0<4611686018427387904)(h1:x1<4611686018427387904)(h2:x2<4611686018427387904)(h3:x3<4611686018427387904)(h4:x4<4611686018427387904)(h5:x5<4611686018427387904)(h6:x6<4611686018427387904):(keyOf Try.prog 130 (.agg #[.int .i64 (x0:Int),.int .i64 (x1:Int),.int .i64 (x2:Int),.int .i64 (x3:Int),.int .i64 (x4:Int),.int .i64 (x5:Int),.int .i64 (x6:Int)])).isSome=true:=by
 have hk:Try.prog.keyType 130=true:=by kernel_rfl
 unfold keyOf;rw[eE];simp only[hk,Bool.true_and]
 have hf:(Value.agg #[.int .i64 (x0:Int),.int .i64 (x1:Int),.int .i64 (x2:Int),.int .i64 (x3:Int),.int .i64 (x4:Int),.int .i64 (x5:Int),.int .i64 (x6:Int)]).formed Try.prog 130=true:=by
  simp[Value.formed,eE,qBP]
 rw[if_pos hf]
 have hl:Try.prog.keyLits (Try.prog.types.size+1) 130 (Value.agg #[.int .i64 (x0:Int),.int .i64 (x1:Int),.int .i64 (x2:Int),.int .i64 (x3:Int),.int .i64 (x4:Int),.int .i64 (x5:Int),.int .i64 (x6:Int)]).cells.toList=some [.int .i64 (x0:Int),.int .i64 (x1:Int),.int .i64 (x2:Int),.int .i64 (x3:Int),.int .i64 (x4:Int),.int .i64 (x5:Int),.int .i64 (x6:Int)]:=by
  have hz:Try.prog.types.size=(Try.prog.types.size-1)+1:=by kernel_rfl
  rw[hz];unfold Program.keyLits;rw[eE];simp[Value.cells,qBP,qLC,List.range,List.range.loop,mA _ h0,mA _ h1,mA _ h2,mA _ h3,mA _ h4,mA _ h5,mA _ h6]
 rw[hl];rfl
theorem aO:KeyK 128 130 qPR sigV where
 key:=qJE
 und:=qBO
 of:=fun L h=>by
  have hg:∀i,L.getD i 0<4611686018427387904:=fun i=>by
   by_cases hi:i<L.length
   ·rw[zK hi];exact h.2 _ (List.getElem_mem hi)
   ·rw[List.getD,List.getElem?_eq_none (by omega)];simp
  exact qMZ (hg 0) (hg 1) (hg 2) (hg 3) (hg 4) (hg 5) (hg 6)
 inj:=fun L M hL hM e=>by
  simp only[sigV,Value.agg.injEq]at e
  have e:=congrArg Array.toList e
  simp only[List.cons.injEq,Value.int.injEq,true_and,and_true]at e
  refine List.ext_getElem (by rw[hL.1,hM.1]) fun i h1 h2=>?_
  rw[<-zK (d:=0) h1,<-zK (d:=0) h2]
  have:i<7:=by rw[<-hL.1];exact h1
  match i,this with
  | 0,_=>omega
  | 1,_=>omega
  | 2,_=>omega
  | 3,_=>omega
  | 4,_=>omega
  | 5,_=>omega
  | 6,_=>omega
def numF {α:Type}[DecidableEq α](l:List α)(L:α):Option Nat:=if L∈l then some (l.idxOf L) else none
theorem qNO {α:Type}[DecidableEq α]{l:List α}{L:α}(h:L ∉ l):(fun q=>if q=L then some l.length else numF l q)=numF (l++[L]):=by
 funext q;unfold numF;by_cases e:q=L
 ·subst e
  rw[if_pos rfl,if_pos (by simp),List.idxOf_append,if_neg h];simp
 rw[if_neg e];by_cases hq:q∈l
 ·rw[if_pos hq,if_pos (by simp[hq]),List.idxOf_append,if_pos hq]
 rw[if_neg hq,if_neg (by simp[hq,e])]
theorem qNM {α:Type}[DecidableEq α]{l:List α}{L:α}(h:L∈l):numF l L=some (if L∈l then l.idxOf L else l.length):=by rw[numF,if_pos h,if_pos h]
theorem qRD {α:Type}[DecidableEq α]{l:List α}{L:α}(h:L ∉ l):numF l L=none:=if_neg h
theorem qNK {α:Type}[DecidableEq α]{l:List α}{L:α}{v:Nat}(hv:v=if L∈l then l.idxOf L else l.length)(h:L∈l):numF l L=some v:=by rw[hv,qNM h]
theorem qNL {α:Type}[DecidableEq α]{l:List α}{L:α}{v:Nat}(hv:v=if L∈l then l.idxOf L else l.length)(h:L ∉ l):v=l.length:=by rw[hv,if_neg h]
theorem qTX {L:List Nat}(h:L.length=7):∃y0 y1 y2 y3 y4 y5 y6,L=[y0,y1,y2,y3,y4,y5,y6]:=by
 match L,h with
 | [y0,y1,y2,y3,y4,y5,y6],_=>exact⟨y0,y1,y2,y3,y4,y5,y6,rfl⟩
theorem qGU {w:World}{g e y0 y1 y2 y3 y4 y5 y6:Nat}(h:Arr w g e (nats [y0,y1,y2,y3,y4,y5,y6])):w.cell? ⟨g,0,none⟩=some (.int .i64 (y0:Int))/\w.cell? ⟨g,1,none⟩=some (.int .i64 (y1:Int))/\w.cell? ⟨g,2,none⟩=some (.int .i64 (y2:Int))/\w.cell? ⟨g,3,none⟩=some (.int .i64 (y3:Int))/\w.cell? ⟨g,4,none⟩=some (.int .i64 (y4:Int))/\w.cell? ⟨g,5,none⟩=some (.int .i64 (y5:Int))/\w.cell? ⟨g,6,none⟩=some (.int .i64 (y6:Int)) :=
 ⟨h.cell 0 (by simp[nats]),h.cell 1 (by simp[nats]),h.cell 2 (by simp[nats]),h.cell 3 (by simp[nats]),h.cell 4 (by simp[nats]),h.cell 5 (by simp[nats]),h.cell 6 (by simp[nats])⟩
theorem qNN:(fun _=>none)=numF ([]:List (List Nat)):=by funext L;simp[numF]
theorem qBZ (B:Nat)(w:World)(v:Value)(d:DfaV)(n k:Nat)(hB:B<=w.heap.size)(h:sK B w v d)(hd:VD d n k)(h5:n<=512):Calls Try.prog 69 #[v] w (qFG w (yF d k)):=by
 have r7:=@run_makeMap Try.prog;have b6:=h;obtain⟨fb,fo,fc,b,off,cap,RB,RO,RC,rfl,c4⟩:=h.at hd;have hn:=hd.hn;have o0:=hd.n1;have l2:=hd.k6;have s0:=hd.k1;have s6:=c4.fcap.1;have d4:=c4.fcap.2;have s9:=c4.cap.1;have d5:=c4.cap.2;have o2:fc<=9223372036854775807:=by unfold maxLen at d4;omega
 have o1:cap<=9223372036854775807:=by unfold maxLen at d5;omega
 obtain⟨S,hS⟩:=Nm (st0 d);have j8:dAgg k (st0 d) fb fo fc b off cap n=.agg #[.int .i64 (k:Int),.int .i64 (S:Int),.slice (some ⟨fb,fo,none⟩) n fc,.slice (some ⟨b,off,none⟩) n cap]:=by rw[hS];rfl
 rw[j8]at b6⊢;obtain⟨wA,j0⟩:=Nm (w.alloc (.cells #[.int .i64 (k:Int),.int .i64 (S:Int),.slice (some ⟨fb,fo,none⟩) n fc,.slice (some ⟨b,off,none⟩) n cap] 37));have f6:=Ga w (.cells #[.int .i64 (k:Int),.int .i64 (S:Int),.slice (some ⟨fb,fo,none⟩) n fc,.slice (some ⟨b,off,none⟩) n cap] 37) none;have b9:=heap_alloc_new w (.cells #[.int .i64 (k:Int),.int .i64 (S:Int),.slice (some ⟨fb,fo,none⟩) n fc,.slice (some ⟨b,off,none⟩) n cap] 37);rw[<-j0]at b9 f6;obtain⟨P,hP⟩:=Nm w.heap.size;rw[<-hP]at b9;obtain⟨c0,c1,c2,c3⟩:=zM b9;have t1:=zQ b9;have p0:B<=wA.heap.size:=by omega
 have p7:=Kh hP;have t2:w.heap.size<=P:=by omega
 obtain⟨m9,q5,p3⟩:=K3 b9 f6 j0;have c8:Hid (∀W:World,w.grownBy W none->DAt B W d n k fb fo fc b off cap RB RO RC):=Kh (fun W hg=>c4.kept hg (by simp));have HN:=Kh hn;have HD:=Kh hd;have l7:=Kh (rG B wA _ d p0 (b6.kept f6 (by simp)));have p4:=Kh (mM hd h5);clear b9 f6 j0 c4 hn hd h b6 j8 d4 d5 hS hP;go_enter Try.func69,Try.ntmps69;go_upto_region 1 with fail;rw[<-p3.out,<-p7.out];go_wp2_with fail;refine l7.out.mono ?_;rintro e w1 ⟨rfl,f9⟩;rw[p4.out];have r3:=f9.size;have q6:=Kh (zC q5.out f9);have g3:=Kh (zB m9.out f9);obtain⟨d0,d1,d2,d3⟩:=zM g3.out;have t9:B<=w.heap.size:=hB;clear f9 l7 c0 c1 c2 c3 m9;go_wp2_with (first|(at_make;refine qV rfl _ _ _ rfl yJ rfl .i64 .i64 _ _ n rfl rfl rfl rfl ?b1 ?b2 ?_;(case b1=>omega);(case b2=>(unfold maxLen;omega));intro w2 h0 f8 i5;(obtain⟨e0,e1,e2,e3⟩:=zM (zB g3.out f8)))|fail);obtain⟨G,hG⟩:=Nm w1.heap.size;rw[<-hG]at h0 i5⊢;have t6:P<G:=by omega
 have o9:w.heap.size<=G:=by omega
 have n3:Hid (Arr w2 G 3 (nats (fstF d n 0))):=Kh (by
  rw[show fstF d n 0=List.replicate n 0 by simp[fstF,uI],yS];exact h0)
 have m3:=Kh (zC q6.out f8);have m8:=Kh (zB g3.out f8);clear h0 f8 hG g3 d0 d1 d2 d3 e0 e1 e2 e3
 go_loopg [4,5,6,26] n (fun gh a4 a5 a6 i wr=>∃q:Nat,gh+q=n/\i=.int .i64 q/\a4=.int .i64 (fstC d q:Nat)/\Arr wr G 3 (nats (fstF d n q))/\wr.heap[P]?=some (.cells #[.int .i64 (k:Int),.int .i64 (S:Int),.slice (some ⟨fb,fo,none⟩) n fc,.slice (some ⟨b,off,none⟩) n cap] 37 (0,0))/\w.grownBy wr none)
 case atStart=>exact⟨0,rfl,rfl,rfl,n3.out,m8.out,m3.out⟩
 clear n3 m8 m3;obtain⟨q,a1,rfl,rfl,h0,h6,h3⟩:=hrel;obtain⟨h7,HA,H5,H4⟩:=K4 a1 h0 h6 h3;obtain⟨d0,d1,d2,d3⟩:=zM h6;clear a1;by_cases hq:q<n
 ·have n9:(q:Int)<n:=by omega
  have cf0:=(c8.out _ h3).fin (q:=0) (by omega);have cfq:=(c8.out _ h3).fin hq;have s5:=h0.frozen q;have t0:=h0.nat q (by rw[jF (by omega)];exact hq);have i9:(nats (fstF d n q)).length=n:=by rw[zR,jF (by omega)]
  rw[Nat.add_zero]at cf0;by_cases e:d.final.getD q false=d.final.getD 0 false
  ·obtain⟨h1,h2⟩:=qLH hq e
   have H1:=Kh h1;have H2:=Kh h2;rw[e]at cfq
   generalize d.final.getD 0 false=b0 at cf0 cfq
   have e1:(b0 != b0)=false:=by simp
   clear h1 h2 e h0 h6;go_wp2;go_roundg (n-(q+1))
   case measure=>have:=h7.out;omega
   exact⟨q+1,by have:=h7.out;omega,by go_num,by rw[H2.out],by rw[H1.out];exact HA.out,H5.out,H4.out⟩
  obtain⟨h1,h2⟩:=qLI hq e;have H1:=Kh h1;have H2:=Kh h2;have e1:(d.final.getD q false == d.final.getD 0 false)=false:=by rw[beq_eq_false_iff_ne];exact e
  generalize d.final.getD 0 false=b0 at cf0 e1
  generalize d.final.getD q false=b1 at cfq e1
  clear h1 h2 e h0 h6;go_wp2;go_roundg (n-(q+1))
  case measure=>have:=h7.out;omega
  exact⟨q+1,by have:=h7.out;omega,by go_num,by rw[H2.out];rfl,by rw[H1.out];exact HA.out.nat_set q (by rw[jF (by omega)];exact hq) 1,zB H5.out (zF wr ⟨G,q,none⟩ _) (fun e=>by have e:G=P:=Oj e;omega),yM H4.out (zF wr ⟨G,q,none⟩ _) (by show _<=G;omega)⟩
 have f3:q=n:=by have:=h7.out;omega
 obtain⟨l1,l4⟩:=qLG HD.out
 have n4:Hid (Arr wr G 3 (nats (xK d k 0))):=Kh (by
  rw[show xK d k 0=fstF d n q by rw[f3,fstF,l1];simp[xK]];exact h0)
 have r0:Hid (fstC d q=cls (xK d k 0)):=Kh (by rw[f3,l4];rfl);rw[r0.out];have H8:=Kh f3;clear f3 l1 l4 HA h7 h0 h6 h3;obtain⟨w3,rfl⟩:=Nm (wr:World);go_wp2_with fail
 go_loopg [3,4,7,8,9,10,11,12,13,14,15] (n-cls (xK d k 0)) (fun gh a3 a4 a7 a8 a9 a10 a11 a12 a13 a14 a15 wr=>∃(m g:Nat),gh=n-cls (xK d k m)/\m<=cls (xK d k m)/\a3=.slice (some ⟨g,0,none⟩) n n/\a4=.int .i64 (cls (xK d k m):Nat)/\Arr wr g 3 (nats (xK d k m))/\w.heap.size<=g/\g≠P/\wr.heap[P]?=some (.cells #[.int .i64 (k:Int),.int .i64 (S:Int),.slice (some ⟨fb,fo,none⟩) n fc,.slice (some ⟨b,off,none⟩) n cap] 37 (0,0))/\w.grownBy wr none)
 case atStart=>exact⟨0,G,rfl,by omega,rfl,rfl,n4.out,o9,by omega,H5.out,H4.out⟩
 clear n4 H5 H4;obtain⟨m,g,rfl,o3,rfl,rfl,h0,s1,s3,h6,h3⟩:=hrel;obtain⟨p,hp⟩:=Nm (xK d k m);have l0:p.length=n:=by rw[hp,xJ,HN.out]
 have o7:=qOZ HD.out m;have c9:∀c∈p,c<n:=(by have:=oD (tT d k m);rw[<-hp,l0]at this;exact this);have j2:Hid (numb (sigL d k p)=xK d k (m+1)):=Kh (by rw[hp];exact qLV HD.out m);have d8:Hid (cls (xK d k (m+1))=cls (xK d k m)->xK d k (m+1)=yF d k):=Kh (qIE HD.out (by omega));have e7:Hid (cls (xK d k (m+1))≠cls (xK d k m)->cls (xK d k m)<cls (xK d k (m+1))):=Kh (qIF HD.out);rw[<-hp]at h0;obtain⟨C,hC⟩:=Nm (cls (xK d k m));rw[<-hC]at d8 e7 o3 o7⊢;obtain⟨x2,j3,q9,HA,H5,H4⟩:=K6 hp c9 hC h0 h6 h3;have k7:(sigL d k p).length=n:=by rw[kZ,l0]
 obtain⟨wm,f1⟩:=Nm (wr.alloc (.map #[] 0));obtain⟨mb,i3⟩:=Nm wr.heap.size;have i8:wr.grownBy wm none:=by rw[f1];exact Ga wr _ none
 have e6:Hid (MapK 130 qPR sigV wm mb 0 0 (numF [])):=Kh (by
  rw[f1,i3,<-qNN];exact MapK.made _ _ _ _)
 have t3:=zQ h6;have s2:=h0.lt;obtain⟨p1,c6,q0⟩:=K3 f1 i8 i3;have r2:=i8.size;have r6:=e6.out.lt;have t4:P<mb:=(by omega);have o4:g<mb:=(by omega);have n7:w.heap.size<=mb:=by have:=h3.size;omega
 clear hp c9 hC h0 h6 h3 i8 f1 i3;obtain⟨wo,rfl⟩:=Nm (wr:World);go_upto_region 11 with fail;rw[<-p1.out,<-q0.out];obtain⟨d0,d1,d2,d3⟩:=zM (zB H5.out c6.out);go_wp2_with (first|(at_make;refine qV rfl _ _ _ rfl yJ rfl .i64 .i64 _ _ n rfl rfl rfl rfl ?b1 ?b2 ?_;(case b1=>omega);(case b2=>(unfold maxLen;omega));intro w4 h0 b8 i4;(obtain⟨e0,e1,e2,e3⟩:=zM (zB (zB H5.out c6.out) b8)))|fail);obtain⟨F,hF⟩:=Nm wm.heap.size;rw[<-hF]at h0 i4⊢;obtain⟨sg,g5⟩:=Nm (sigL d k p);rw[<-g5]at j2 k7;have s4:g<F:=(by omega);have t5:P<F:=(by omega);have r8:mb<F:=(by omega);have l6:w.heap.size<=F:=by omega
 have i2:(numb sg).length=n:=by rw[yW,k7]
 have p5:=Kh g5;have g0:=Kh i2
 have m4:Hid (Arr w4 F 3 (nats (wW (numb sg) 0))):=Kh (by
  rw[uW,i2,yS];exact h0)
 have l8:=Kh (e6.out.kept b8 (by simp));have n2:=Kh ((HA.out.kept c6.out (by simp)).kept b8 (by simp));have m7:=Kh (zB (zB H5.out c6.out) b8);have m2:=Kh (zC (zC H4.out c6.out) b8);clear g5 i2 h0 b8 hF e6 HA H5 H4 c6 d0 d1 d2 d3 e0 e1 e2 e3
 go_loopg [9,10,11,12,13,14,15,48] n (fun gh a9 a10 a11 a12 a13 a14 a15 i wr=>∃(q c:Nat),gh+q=n/\i=.int .i64 q/\Arr wr F 3 (nats (wW (numb sg) q))/\MapK 130 qPR sigV wr mb q c (numF (yO (sg.take q)))/\c=(yO (sg.take q)).length/\Arr wr g 3 (nats p)/\wr.heap[P]?=some (.cells #[.int .i64 (k:Int),.int .i64 (S:Int),.slice (some ⟨fb,fo,none⟩) n fc,.slice (some ⟨b,off,none⟩) n cap] 37 (0,0))/\w.grownBy wr none)
 case atStart=>exact⟨0,0,rfl,rfl,m4.out,by simpa [yO] using l8.out,by simp[yO],n2.out,m7.out,m2.out⟩
 clear m4 l8 n2 m7 m2;obtain⟨q,c,a1,rfl,h0,H0,hc,d7,h6,h3⟩:=hrel;obtain⟨h7,HF,e6,HA,H5,H4⟩:=K6 a1 h0 H0 d7 h6 h3;have e9:=Kh hc;obtain⟨d0,d1,d2,d3⟩:=zM h6;have r1:=h3.size;have t7:=h0.lt;have s8:c<=q:=by rw[hc];have:=uZ (sg.take q);rw[List.length_take]at this;omega
 clear a1;by_cases hq:q<n
 ·have n9:(q:Int)<n:=by omega
  have hh:=(c8.out _ h3).hd q hq;have g9:=(c8.out _ h3).rcap q hq;have n8:=(c8.out _ h3).rlt q hq;have g8:=g9.1;have g7:RC q<=9223372036854775807:=by have:=g9.2;unfold maxLen at this;omega
  have d6:=d7.nat q (by omega);obtain⟨rb,i0⟩:=Nm (RB q);obtain⟨ro,g6⟩:=Nm (RO q);obtain⟨rc,a2⟩:=Nm (RC q);rw[<-i0,<-g6,<-a2]at hh;rw[<-a2]at g8 g7;have q8:Hid (∀W:World,w.grownBy W none->∀a,a<k->W.cell? ⟨rb,ro+a,none⟩=some (.int .i64 ((nx d q a:Nat):Int))):=Kh (fun W hg a ha=>by rw[i0,g6];exact(c8.out W hg).el q a hq ha);obtain⟨pq,f4⟩:=Nm (p.getD q 0);rw[<-f4]at d6;have x1:=Kh f4;obtain⟨wk,f2⟩:=Nm (wr.alloc (.cells #[.int .i64 (pq:Int),.int .i64 0,.int .i64 0,.int .i64 0,.int .i64 0,.int .i64 0,.int .i64 0] 130));obtain⟨kb,i7⟩:=Nm wr.heap.size;have b7:wr.grownBy wk none:=by rw[f2];exact Ga wr _ none
  have m0:Hid (Arr wk kb 130 (nats (kL d p q 0))):=Kh (by
   rw[f2,i7];have:=Arr.new wr 130 #[.int .i64 (pq:Int),.int .i64 0,.int .i64 0,.int .i64 0,.int .i64 0,.int .i64 0,.int .i64 0];rw[show nats (kL d p q 0)=#[Value.int .i64 (pq:Int),.int .i64 0,.int .i64 0,.int .i64 0,.int .i64 0,.int .i64 0,.int .i64 0].toList by rw[kL,<-f4];rfl]
   exact this)
  have p2:=Kh f2;have q2:=Kh i7;have q3:=Kh (zC h3 b7);have m5:=Kh (h0.kept b7 (by simp));have l9:=Kh (H0.kept b7 (by simp));have j7:=Kh (d7.kept b7 (by simp));have f0:=Kh (zB h6 b7);have t8:F<kb:=(by omega);clear h0 H0 d7 h6 h3 i0 g6 a2 f4 f2 i7 b7 g9 n8 hc;go_upto_region 16 with fail;rw[<-p2.out,<-q2.out];clear d0 d1 d2 d3 d6 hh HF e6 HA H5 H4;have r5:g<kb:=(by omega);go_wp2_with fail
  go_loopg [12,13,60] k (fun gh a12 a13 i wr=>∃x:Nat,gh+x=k/\i=.int .i64 x/\Arr wr kb 130 (nats (kL d p q x))/\wk.grownBy wr (some kb))
  case atStart=>exact⟨0,rfl,rfl,m0.out,zV _ _⟩
  clear m0;obtain⟨x,a1,rfl,h0,h3⟩:=hrel;obtain⟨H8,HK,H4⟩:=K3 a1 h0 h3;have H6:=yM q3.out h3 (by show _<=kb;omega);have m1:=Kh H6;clear a1;by_cases hx:x<k
  ·have r4:(x:Int)<k:=by omega
   have cel:=q8.out wr H6 x hx;have n6:=pI HD.out hq hx;obtain⟨y,hy⟩:=Nm (nx d q x);rw[<-hy]at cel n6;have n5:(y:Int)<n:=(by omega);have cy:=(j7.out.kept h3 (fun e=>by have e:kb=g:=Oj e;omega)).nat y (by omega);have h4:=qJF (d:=d) (p:=p) (q:=q) (x:=x) (by omega);rw[<-hy]at h4;have H3:=Kh h4;have k8:=mT (d:=d) (p:=p) (q:=q) (x:=x) (by omega);have ck:=h0.nat (1+x) (by omega);have fk:=h0.frozen (1+x);have p6:=Kh k8;obtain⟨z,hz⟩:=Nm (p.getD y 0);rw[<-hz]at cy;have HZ:=Kh hz;clear h4 k8 hz hy h0 h3 H6;go_wp2;go_roundg (k-(x+1))
   case measure=>have:=H8.out;omega
   exact⟨x+1,by have:=H8.out;omega,by go_num,by rw[<-H3.out,<-HZ.out];exact HK.out.nat_set (1+x) (by rw[p6.out];omega) z,zH H4.out (zF wr ⟨kb,1+x,none⟩ _)⟩
  have g4:x=k:=by have:=H8.out;omega
  have x0:=Kh g4;rw[g4]at h0 HK;have c7:=Kh (m5.out.kept h3 (fun e=>by have e:kb=F:=Oj e;omega));have e4:=Kh (l9.out.kept h3 (fun e=>by have e:kb=mb:=Oj e;omega));have n0:=Kh (j7.out.kept h3 (fun e=>by have e:kb=g:=Oj e;omega));have m6:=Kh (zB f0.out h3 (fun e=>by have e:kb=P:=Oj e;omega));have k9:q<sg.length:=by omega
  have j9:sg[q]=kL d p q k:=by
   have e:=p5.out;subst e;exact aP (by omega)
  have b4:=bJ k9;have H7:=jH k9;rw[j9]at b4 H7;obtain⟨y0,y1,y2,y3,y4,y5,y6,hL⟩:=qTX (mT (d:=d) (p:=p) (q:=q) (x:=k) l2)
  have i1:qPR [y0,y1,y2,y3,y4,y5,y6]:=by
   rw[<-hL];exact⟨mT l2,fun z hz=>by have:=qNA j3.out o0 z hz;omega⟩
  rw[hL]at h0 HK b4 H7;obtain⟨k0,k1,k2,k3,k4,k5,k6⟩:=qGU h0;have h4:=tR (l:=numb sg) (k:=q) (by have:=g0.out;omega);have i9:=yV (l:=numb sg) (k:=q) (by have:=g0.out;omega);have g2:Hid ((wW (numb sg) q).length=n):=Kh (by rw[i9,g0.out]);have cF:=c7.out.nat q (by rw[g2.out];exact hq);have fF:=c7.out.frozen q;have b5:=e4.out.lookup aO i1;obtain⟨Fs,j1⟩:=Nm (yO (sg.take q));rw[<-j1]at b4 H7 b5 e4 e9;have x4:=Kh j1;have p8:=Kh i1;clear hL j9 i9 h0 h3 H6 j1 i1 g4 m5 l9 j7 f0;by_cases hin:[y0,y1,y2,y3,y4,y5,y6]∈Fs
  ·obtain⟨I,hI⟩:=Nm ((numb sg).getD q 0)
   have H9:=qNK (hI.trans b4) hin;rw[tE hin]at H7;rw[H9]at b5;rw[<-hI]at h4;replace b5:(Instr.lookup 128 (.map (some mb)) (.agg #[.int .i64 (y0:Int),.int .i64 (y1:Int),.int .i64 (y2:Int),.int .i64 (y3:Int),.int .i64 (y4:Int),.int .i64 (y5:Int),.int .i64 (y6:Int)]) true).run Try.prog wr=.ok (.tuple #[.int .i64 (I:Int),.bool true]) wr:=b5;have H3:=Kh h4;have e8:=Kh H7;clear h4 H7 b4 hI hin H9;go_wp2;go_roundg (n-(q+1))
   case measure=>have:=h7.out;omega
   refine⟨q+1,c,by have:=h7.out;omega,by go_num,by rw[<-H3.out];exact c7.out.nat_set q (by rw[g2.out];exact hq) I,?_,by rw[e8.out];exact e9.out,n0.out.kept (zF wr ⟨F,q,none⟩ _) (fun e=>by have e:F=g:=Oj e;omega),zB m6.out (zF wr ⟨F,q,none⟩ _) (fun e=>by have e:F=P:=Oj e;omega),yM m1.out (zF wr ⟨F,q,none⟩ _) (by show _<=F;omega)⟩;rw[e8.out];exact(e4.out.mono (by omega)).kept (zF wr ⟨F,q,none⟩ _) (fun e=>by have e:F=mb:=Oj e;omega)
  obtain⟨I,hI⟩:=Nm ((numb sg).getD q 0);have h8:=qRD hin;have l5:=qNL (hI.trans b4) hin;rw[vN hin]at H7;rw[h8]at b5;rw[<-hI]at h4;have o8:I=c:=by rw[l5];exact e9.out.symm
  have o5:c<4611686018427387904:=(by omega);have h9:=qNO hin;rw[<-e9.out]at h9;subst o8;replace b5:(Instr.lookup 128 (.map (some mb)) (.agg #[.int .i64 (y0:Int),.int .i64 (y1:Int),.int .i64 (y2:Int),.int .i64 (y3:Int),.int .i64 (y4:Int),.int .i64 (y5:Int),.int .i64 (y6:Int)]) true).run Try.prog wr=.ok (.tuple #[.int .i64 0,.bool false]) wr:=b5;have i6:=e4.out.len aO;obtain⟨H3,e8,j4,d9⟩:=K4 h4 H7 h9 h8;clear h4 H7 b4 hI hin h8 l5 h9;go_wp2_with (first|(at_mapUpdate;refine qJA aO rfl _ _ _ rfl mb q I (numF Fs) [y0,y1,y2,y3,y4,y5,y6] I rfl rfl rfl e4.out (by unfold maxLen;omega) p8.out o5 ?_;intro w5 a0 f7;(have c5:=Kh a0);(have g1:=Kh f7);(have fF5:=(c7.out.kept f7 (fun e=>by have e:mb=F:=Oj e;omega)).frozen q);(have cF5:=(c7.out.kept f7 (fun e=>by have e:mb=F:=Oj e;omega)).nat q (by rw[g2.out];exact hq));clear a0 f7)|fail);rw[d9.out]at c5;replace c5:=c5.out;have e5:(if (none:Option Nat).isSome=true then I else I+1)=I+1:=rfl;rw[e5,j4.out]at c5;have q1:=Kh c5;clear c5 e5;go_roundg (n-(q+1))
  case measure=>have:=h7.out;omega
  have f5:=zF w5 ⟨F,q,none⟩ (.int .i64 (I:Int));refine⟨q+1,I+1,by have:=h7.out;omega,by go_num,?_,?_,by rw[e8.out,List.length_append,<-e9.out];rfl,(n0.out.kept g1.out (fun e=>by have e:mb=g:=Oj e;omega)).kept f5 (fun e=>by have e:F=g:=Oj e;omega),zB (zB m6.out g1.out (fun e=>by have e:mb=P:=Oj e;omega)) f5 (fun e=>by have e:F=P:=Oj e;omega),yM (yM m1.out g1.out (by show _<=mb;omega)) f5 (by show _<=F;omega)⟩
  ·rw[<-H3.out]
   exact(c7.out.kept g1.out (fun e=>by have e:mb=F:=Oj e;omega)).nat_set q (by rw[g2.out];exact hq) I
  rw[e8.out];exact q1.out.kept f5 (fun e=>by have e:F=mb:=Oj e;omega)
 have b3:q=n:=by have:=h7.out;omega
 have l3:c=cls (xK d k (m+1)):=by
  rw[hc,b3,List.take_of_length_le (by omega),<-j2.out,qGG]
 have i6:=H0.len aO
 have j5:Hid (Arr wr F 3 (nats (xK d k (m+1)))):=Kh (by
  have e:wW (numb sg) q=xK d k (m+1):=by rw[b3,<-j2.out,<-g0.out];exact tS _
  rw[<-e];exact h0)
 have j6:=Kh l3;rw[<-l3]at d8 e7;have o6:c<=n:=by omega
 clear h0 H0 hc d7 b3;by_cases he:c=C
 ·have q7:=Kh (d8.out he)
  have p9:Hid ((yF d k).length=n):=Kh (by rw[vD,HN.out]);subst he;clear d8 e7 j6;go_wp2;go_ret;rw[q7.out]at j5;exact⟨F,by rw[p9.out];rfl,l6,j5.out,h3⟩
 have r9:=e7.out he;have s7:((c:Int) == (C:Int))=false:=by rw[beq_eq_false_iff_ne];omega
 have x3:=Kh he;have q4:=Kh h3;clear d8 e7 he h3;go_wp2;go_roundg (n-cls (xK d k (m+1)))
 case measure=>have:=j6.out;have:=q9.out;omega
 exact⟨m+1,F,rfl,by have:=j6.out;omega,rfl,rfl,j5.out,l6,by omega,h6,q4.out⟩
end Go.Proofs.Ytobakifdllameaa
