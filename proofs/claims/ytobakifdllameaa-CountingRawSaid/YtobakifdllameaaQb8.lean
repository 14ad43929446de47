/- Part 8 of the proof. -/
import Derived.Test.YtobakifdllameaaQb7
import Derived.Deep.DeepCutAuto
import Derived.BigQuiet
import Derived.BigRegion
import Derived.Deep.OwnRows
set_option linter.unusedVariables false
set_option linter.unusedSimpArgs false
set_option maxRecDepth 100000
set_option maxHeartbeats 16000000
namespace Go.Proofs.Ytobakifdllameaa
open Go.RowKit
def qI (M:Nat)(p q:List Nat):List Nat:=List.zipWith (fun a b=>a*M+b) p q
theorem rD {M:Nat}{p q:List Nat}(h:q.length=p.length):(qI M p q).length=p.length:=by simp[qI,h]
theorem qGI {M:Nat}{p q:List Nat}(h:q.length=p.length){i:Nat}(hi:i<p.length):(qI M p q).getD i 0=p.getD i 0*M+q.getD i 0:=by
 rw[zN (by rw[rD h];exact hi),zN hi,zN (show i<q.length by omega)];simp[qI]
theorem qJA {M c:Nat}{p q:List Nat}(hp:∀x∈p,x<c)(hq:∀x∈q,x<M):∀x∈qI M p q,x<c*M:=by
 intro x hx;obtain⟨i,hi,rfl⟩:=List.getElem_of_mem hx;simp only[qI,List.getElem_zipWith];have h0:i<p.length/\i<q.length:=by simp only[qI,List.length_zipWith]at hi;omega
 have h1:=hp _ (List.getElem_mem h0.1);have h2:=hq _ (List.getElem_mem h0.2)
 generalize p[i]=a at h1⊢
 generalize q[i]=b at h2⊢
 have:a*M+M<=c*M:=by rw[<-Nat.succ_mul];exact Nat.mul_le_mul_right M h1
 omega
theorem qDH {M:Nat}{p q:List Nat}(h:q.length=p.length)(hq:∀x∈q,x<M)(a9:∀x∈q,x<p.length):numb (qI M p q)=gQ p q:=by
 refine lO _ _ (by rw[rD h,qE h]) fun i j hi hj=>?_;rw[rD h]at hi hj;simp only[qI,mY,List.getElem_zipWith];rw[dT (Nat.le_of_lt (a9 _ (List.getElem_mem _))) (Nat.le_of_lt (a9 _ (List.getElem_mem _)))];have h1:=hq _ (List.getElem_mem (show i<q.length by omega));have h2:=hq _ (List.getElem_mem (show j<q.length by omega));constructor
 ·intro e
  have e1:(p[i]*M+q[i]) / M=p[i]:=by rw[Nat.mul_comm,Nat.mul_add_div (by omega),Nat.div_eq_of_lt h1];omega
  have e2:(p[j]*M+q[j]) / M=p[j]:=by rw[Nat.mul_comm,Nat.mul_add_div (by omega),Nat.div_eq_of_lt h2];omega
  have e3:p[i]=p[j]:=by rw[<-e1,<-e2,e]
  rw[e3]at e;exact⟨e3,by omega⟩
 rintro ⟨e1,e2⟩;rw[e1,e2]
def numA (L:List Nat)(K:Nat):List Nat:=(List.range K).map fun i=>if i∈L then L.idxOf i+1 else 0
theorem nG (L:List Nat)(K:Nat):(numA L K).length=K:=by simp[numA]
theorem qEW {L:List Nat}{K i:Nat}(hi:i<K):(numA L K).getD i 0=if i∈L then L.idxOf i+1 else 0:=by
 rw[zN (by rw[nG];exact hi)];simp[numA]
theorem qMQ (K:Nat):numA [] K=List.replicate K 0:=by
 refine List.ext_getElem (by simp[numA]) fun i h1 h2=>by simp[numA]
theorem qMP {L:List Nat}{K i:Nat}(hi:i ∉ L):(numA L K).set i (L.length+1)=numA (L++[i]) K:=by
 refine List.ext_getElem (by simp[numA]) fun j h1 h2=>?_;rw[List.getElem_set];have hj:j<K:=by simpa [numA] using h2
 simp only[numA,List.getElem_map,List.getElem_range]
 split
 ·rename_i e
  subst e;rw[if_pos (by simp),List.idxOf_append,if_neg hi];simp
 rename_i e
 by_cases hj:j∈L
 ·rw[if_pos hj,if_pos (by simp[hj]),List.idxOf_append,if_pos hj]
 rw[if_neg hj,if_neg (by simp[hj];omega)]
def midC (l p:List Nat)(k:Nat):List Nat:=(numb l).take k++p.drop k
theorem nI {l p:List Nat}{k:Nat}(h:l.length=p.length)(hk:k<=p.length):(midC l p k).length=p.length:=by simp[midC,yW,h];omega
theorem qNE {l p:List Nat}{k:Nat}(h:l.length=p.length)(hk:k<p.length):(midC l p k).getD k 0=p.getD k 0:=by
 have hl:((numb l).take k).length=k:=by rw[List.length_take,yW];omega
 rw[List.getD_eq_getElem?_getD,midC,List.getElem?_append_right (by omega),hl];simp[List.getD]
theorem qND {l p:List Nat}{k:Nat}(h:l.length=p.length)(hk:k<p.length):(midC l p k).set k ((numb l).getD k 0)=midC l p (k+1):=by
 have hl:((numb l).take k).length=k:=by rw[List.length_take,yW];omega
 rw[midC,List.set_append_right _ _ (by omega),hl,Nat.sub_self,midC,zZ (d:=0) (by rw[yW];omega),List.append_assoc];rw[List.drop_eq_getElem_cons hk,List.set_cons_zero];rfl
theorem qNF {l p:List Nat}{k:Nat}(h:l.length=p.length)(hk:k=p.length):midC l p k=numb l:=by
 subst hk;rw[midC,List.drop_length,List.append_nil,List.take_of_length_le (by rw[yW];omega)]
theorem qIA {am b x K:Nat}(hx:x=am+b)(a9:x<K)(hK:K<=1000000):wrap64 (am:Int)=(am:Int)/\wrap64 ((am:Int)+(b:Int))=(x:Int)/\IntKind.i64.wrap ((am:Int)+(b:Int))=(x:Int)/\IntKind.i64.wrap (am:Int)=(am:Int):=by
 have e3:(am:Int)+(b:Int)=(x:Int):=by omega
 rw[e3];exact⟨IntWalk.wrap64_in _ (by omega),IntWalk.wrap64_in _ (by omega),xR (by omega),xR (by omega)⟩
theorem qAN (w:World)(g gm n c M:Nat)(p q:List Nat)(hp:p.length=n)(hq:q.length=n)(a8:∀x∈p,x<c)(a9:∀x∈q,x<M)(a7:c*M<=1000000)(hc:c<=1000000)(hM:M<=1000000)(hn:n<=1000000)(a6:g≠gm)(hA:Arr w g 3 (nats p))(hB:Arr w gm 3 (nats q)):Calls Try.prog 67 #[.slice (some ⟨g,0,none⟩) n n,.slice (some ⟨gm,0,none⟩) n n,.int .i64 (c:Int),.int .i64 (M:Int)] w fun e w'=>e=.returned (.int .i64 ((cls (numb (qI M p q)):Nat):Int))/\Arr w' g 3 (nats (numb (qI M p q)))/\w.grownBy w' (some g):=by
 have hK:=qJA a8 a9;have a3:=rD (M:=M) (p:=p) (q:=q) (by omega);have H8:=Kh (fun(i:Nat) (hi:i<p.length)=>qGI (M:=M) (p:=p) (q:=q) (by omega) hi);obtain⟨l,hl⟩:=Nm (qI M p q);rw[<-hl]at hK a3 H8⊢;obtain⟨K,b5⟩:=Nm (c*M);rw[<-b5]at hK a7;have a0:(c:Int)*(M:Int)=(K:Int):=by rw[b5];simp
 have b4:IntKind.i64.wrap ((c:Int)*(M:Int))=(K:Int):=by rw[a0];exact xR (by omega)
 obtain⟨h6,d1,h8,HK,HA,HB⟩:=K6 hp hq a3 hK hA hB;have e3:=hA.lt;have c7:=hB.lt;have f2:=Kh a9;have f3:=Kh a8;clear hp hq a3 hK hA hB hl b5 a9 a8;go_enter Try.func67,Try.ntmps67;go_wp2_with (first|(at_make;refine qC rfl _ _ _ rfl yJ rfl .i64 .i64 _ _ K rfl rfl (by first|exact a0|exact b4|rfl) (by first|exact a0|exact b4|rfl) ?b1 ?b2 ?_;(case b1=>omega);(case b2=>(unfold maxLen;omega));intro w2 H1 c8 d8)|fail);clear a0 b4;obtain⟨NB,b3⟩:=Nm w.heap.size;rw[<-b3]at H1⊢;obtain⟨d2,a2,f4⟩:=K3 H1 c8 b3;have b0:g≠NB:=by omega
 have a5:gm≠NB:=by omega
 clear H1 c8 b3
 go_loopg [10,11,12,19] n (fun gh v10 a11 a12 i wr=>∃(k:Nat),gh+k=n/\i=.int .i64 k/\v10=.int .i64 (((yO (l.take k)).length:Nat):Int)/\Arr wr NB 3 (nats (numA (yO (l.take k)) K))/\Arr wr g 3 (nats (midC l p k))/\Arr wr gm 3 (nats q)/\w.grownBy wr (some g))
 case atStart=>exact⟨0,rfl,rfl,rfl,by rw[show yO (l.take 0)=[] from rfl,qMQ,yM];exact d2.out,by rw[show midC l p 0=p by simp[midC]];exact HA.out.kept a2.out (by simp),HB.out.kept a2.out (by simp),vH a2.out⟩
 clear d2 a2;obtain⟨k,hg,rfl,rfl,hN,hC,hQ,a4⟩:=hrel;obtain⟨HG,HN,HC,HQ,b6⟩:=K5 hg hN hC hQ a4;clear hg;by_cases hk:k<n
 ·have d9:(k:Int)<n:=by omega
  have h9:k<p.length:=(by rw[h6.out];exact hk);have H4:k<l.length:=(by rw[h8.out];exact h9);have c1:=Arr.nat hC (i:=k) (by rw[nI h8.out (by omega)];exact h9);rw[qNE h8.out h9]at c1;have c2:=Arr.nat hQ (i:=k) (by rw[d1.out];exact hk);have hx:=H8.out k h9;have h5:l.getD k 0<K:=HK.out _ (by rw[zN H4];exact List.getElem_mem _);have c3:=Arr.nat hN (i:=l.getD k 0) (by rw[nG];exact h5);rw[qEW h5]at c3;have fN:=hN.frozen (l.getD k 0);have fC:=hC.frozen k;have H5:=kO H4;have h0:=dX H4;rw[<-zN (d:=0) H4]at H5 h0;have c0:=qND h8.out h9;have c9:(yO (l.take k)).length<=k:=by have:=uW (l.take k);rw[List.length_take]at this;omega
  obtain⟨x,b7⟩:=Nm (l.getD k 0);obtain⟨a,ha⟩:=Nm (p.getD k 0);obtain⟨b,hb⟩:=Nm (q.getD k 0);obtain⟨F,hF⟩:=Nm (yO (l.take k));rw[<-b7]at hx h5 c3 fN H5 h0;rw[<-ha]at c1 hx;rw[<-hb]at c2 hx;rw[<-hF]at c3 H5 h0 c9 HN;obtain⟨d5,d3,f7⟩:=K3 H5 c0 hF;have f1:a<c:=(by rw[ha];exact f3.out _ (by rw[zN h9];exact List.getElem_mem _));have f0:b<M:=(by rw[hb];exact f2.out _ (by rw[zN (show k<q.length by rw[d1.out];exact hk)];exact List.getElem_mem _));have d7:(x:Int)<K:=(by exact_mod_cast h5);have d0:a*M<=1000000:=Nat.le_trans (Nat.le_trans (hx ▸ Nat.le_add_right _ _) (Nat.le_of_lt h5)) a7;obtain⟨am,H2⟩:=Nm (a*M);have e1:(a:Int)*(M:Int)=(am:Int):=by rw[H2];simp
  rw[<-H2]at hx d0;have E1:=Kh e1;clear e1 H2;obtain⟨e5,e6,e4,e0⟩:=qIA hx h5 a7;have e2:IntKind.i64.wrap ((a:Int)*(M:Int))=(am:Int):=by rw[E1.out];exact e0
  clear hx c0 H5 b7 ha hb hF f1 f0 d0 h9 H4 hN hC hQ a4 e0;rw[<-f7.out];by_cases hm:x∈F
  ·rw[if_pos hm]at c3 h0
   have HM:=Kh hm;obtain⟨y,hy⟩:=Nm (F.idxOf x);have g3:y<F.length:=(by rw[hy];exact List.idxOf_lt_length_of_mem hm);rw[<-hy]at c3 h0;have h7:=Kh h0;have b9:¬((y+1:Nat):Int)=0:=by omega
   clear hm hy h0;obtain⟨z,hz⟩:=Nm (y+1);rw[<-hz]at c3 b9;have g2:((z:Int) == 0)=false:=by rw[beq_eq_false_iff_ne];exact b9
   have d6:(z:Int)-1=(y:Int):=by omega
   have g1:IntKind.i64.wrap ((z:Int)-1)=(y:Int):=by rw[d6];exact xR (by omega)
   have HZ:=Kh hz;clear hz;have e1:=E1.out;go_wp2
   go_quiet (fail)
   go_wp2;go_roundg (n-(k+1))
   case measure=>have:=HG.out;omega
   have e8:∀W:World,W.heap=wr.heap->W.os=wr.os->W.tape=wr.tape->W.output=wr.output->wr.grownBy (W.setCell ⟨g,k,none⟩ (.int .i64 (y:Int))) (some g):=fun W h1 h2 h3 h4=>zH (vJ (zT wr (some g)) h2 h3 h4 h1) (zF W _ _);have H0:=e8 (wr.drewN nq) rfl rfl rfl rfl;have H6:yO (l.take (k+1))=F:=by rw[d5.out,uZ HM.out]
   refine⟨k+1,by have:=HG.out;omega,by go_num,by rw[H6],?_,?_,HQ.out.kept H0 (fun e=>a6 (Oj e)),zH b6.out H0⟩
   ·rw[H6];exact HN.out.kept H0 (fun e=>b0 (Oj e))
   rw[<-d3.out,h7.out];exact(HC.out.of_heap rfl).nat_set k (by rw[nI h8.out (by rw[h6.out];omega),h6.out];exact hk) y
  rw[if_neg hm]at c3 h0;have HM:=Kh hm;have h7:=Kh h0;obtain⟨L,hL⟩:=Nm F.length;rw[<-hL]at c9 h0 h7⊢;have a1:=Kh hL;have g4:L<=1000000:=by omega
  clear hm h0 hL;have e1:=E1.out;go_upto_region 6 with fail
  go_quiet (fail)
  go_upto_region 10 with fail;have H9:wr.grownBy ((wr.drewN nq).setCell ⟨NB,x,none⟩ (.int .i64 ((L:Int)+1))) (some NB):=zH (zS wr nq (some NB)) (zF (wr.drewN nq) ⟨NB,x,none⟩ _);have H3:=((HN.out.of_heap (w':=wr.drewN nq) rfl).nat_set x (by rw[nG];exact h5) (L+1));rw[a1.out,qMP HM.out,<-a1.out]at H3;rw[show ((L+1:Nat):Int)=(L:Int)+1 by omega]at H3;obtain⟨w5,b8⟩:=Nm ((wr.drewN nq).setCell ⟨NB,x,none⟩ (.int .i64 ((L:Int)+1)));rw[<-b8]at H9 H3⊢;have f6:=Kh H3;have d4:=Kh H9
  have c5:w5.cell? ⟨NB,x,none⟩=some (.int .i64 ((L:Int)+1)):=by
   have:=Arr.nat H3 x (by rw[nG];exact h5);rw[qEW h5,if_pos (by simp),List.idxOf_append,if_neg HM.out]at this;rw[this];simp[a1.out]
  have H7:=HC.out.kept H9 (fun e=>b0 (Oj e).symm);have f5:=H7.frozen k;have c6:=Arr.nat H7 k (by rw[nI h8.out (by rw[h6.out];omega),h6.out];exact hk);have e7:=H7.lt;have g0:=Kh H7;have e9:(L:Int)+1-1=(L:Int):=by omega
  have e10:wrap64 (L:Int)=(L:Int):=IntWalk.wrap64_in _ (by omega);clear b8 H9 H3 H7 c1 c2 c3 fN fC e1 e2 e4 e5 e6;go_wp2;go_roundg (n-(k+1))
  case measure=>have:=HG.out;omega
  have H0:=zF w5 ⟨g,k,none⟩ (.int .i64 (L:Int));have H6:yO (l.take (k+1))=F++[x]:=by rw[d5.out,vK HM.out]
  refine⟨k+1,by have:=HG.out;omega,by go_num,by rw[H6,List.length_append,<-a1.out];simp,?_,?_,(HQ.out.kept d4.out (fun e=>a5 (Oj e).symm)).kept H0 (fun e=>a6 (Oj e)),zH (yK b6.out d4.out (by show _<=NB;have:=f4.out;omega)) H0⟩
  ·rw[H6];exact f6.out.kept H0 (fun e=>b0 (Oj e))
  rw[<-d3.out,h7.out];exact g0.out.nat_set k (by rw[nI h8.out (by rw[h6.out];omega),h6.out];exact hk) L
 have c4:k=n:=by have:=HG.out;omega
 have d9:¬(k:Int)<n:=(by omega);have HE:Hid (l.take k=l):=Kh (List.take_of_length_le (by rw[h8.out,h6.out];omega));have f8:Hid (midC l p k=numb l):=Kh (qNF h8.out (by rw[h6.out];exact c4));have f9:=Kh (qFF l);rw[f8.out]at HC;clear c4 a4 hN hC hQ;go_wp2;go_ret;exact⟨by rw[f9.out,HE.out];rfl,HC.out,b6.out⟩
theorem uY {w:World}{p e:Nat}{x0 x1 x2:Value}{m:Nat×Nat}(h:w.heap[p]?=some (.cells #[x0,x1,x2] e m)):w.cell? ⟨p,0,none⟩=some x0/\w.cell? ⟨p,1,none⟩=some x1/\w.cell? ⟨p,2,none⟩=some x2:=by
 have c0:=zG h 0;have c1:=zG h 1;have c2:=zG h 2;exact⟨by simpa using c0,by simpa using c1,by simpa using c2⟩
theorem qPJ {w w':World}{p:Addr}{u:Value}(h:w.cell? p=some u)(hg:w.grownBy w' none):w'.cell? p=some u:=(World.cell?_of_block (hg.block p.block (World.block_lt_of_cell? w p h) (by simp))).trans h
theorem qDQ {s k a n:Nat}(hs:s<n)(ha:a<k)(hk:k<=6)(hn:n<=4000):IntKind.i64.wrap ((s:Int)*(k:Int))=((s*k:Nat):Int)/\wrap64 ((s:Int)*(k:Int))=((s*k:Nat):Int)/\IntKind.i64.wrap (((s*k:Nat):Int)+(a:Int))=((s*k+a:Nat):Int)/\wrap64 (((s*k:Nat):Int)+(a:Int))=((s*k+a:Nat):Int)/\s*k+a<n*k:=by
 have h1:s*k<=4000*6:=Nat.mul_le_mul (by omega) hk;have e:(s:Int)*(k:Int)=((s*k:Nat):Int):=by simp
 have h2:s*k+k<=n*k:=by rw[<-Nat.succ_mul];exact Nat.mul_le_mul_right k hs
 rw[e]
 generalize s*k=Y at h1 h2⊢
 have e2:(Y:Int)+(a:Int)=((Y+a:Nat):Int):=by omega
 rw[e2];exact⟨xR (by omega),IntWalk.wrap64_in _ (by omega),xR (by omega),IntWalk.wrap64_in _ (by omega),by omega⟩
def mrkN (d:DfaV)(n k:Nat):List Nat:=(List.range n).map fun s=>if s<k/\d.final.getD s false=true then 1 else 0
theorem qW (d:DfaV)(n k:Nat):(mrkN d n k).length=n:=by simp[mrkN]
theorem qJT (d:DfaV)(n:Nat):mrkN d n 0=List.replicate n 0:=by
 refine List.ext_getElem (by simp[mrkN]) fun i h1 h2=>by simp[mrkN]
theorem qMV {d:DfaV}{n k:Nat}(hk:k<n)(h:d.final.getD k false=true):(mrkN d n k).set k 1=mrkN d n (k+1):=by
 refine List.ext_getElem (by simp[mrkN]) fun i h1 h2=>?_;rw[List.getElem_set];simp only[mrkN,List.getElem_map,List.getElem_range]
 split
 ·rename_i e;subst e;rw[if_pos ⟨by omega,h⟩]
 rename_i e
 by_cases hi:i<k/\d.final.getD i false=true
 ·rw[if_pos hi,if_pos ⟨by omega,hi.2⟩]
 rw[if_neg hi,if_neg (fun h'=>hi ⟨by omega,h'.2⟩)]
theorem qQM {d:DfaV}{n k:Nat}(h:d.final.getD k false=false):mrkN d n k=mrkN d n (k+1):=by
 refine List.map_congr_left fun i hi=>?_;by_cases hi:i<k/\d.final.getD i false=true
 ·rw[if_pos hi,if_pos ⟨by omega,hi.2⟩]
 rw[if_neg hi,if_neg (fun h'=>by
  by_cases e:i=k
  ·subst e;rw[h]at h';cases h'.2
  exact hi ⟨by omega,h'.2⟩)]
theorem qKH {d:DfaV}{n k:Nat}(hd:VD d n k):numb (qI 2 (List.replicate n 0) (mrkN d n n))=oZ d:=by
 have hl:(qI 2 (List.replicate n 0) (mrkN d n n)).length=n:=by rw[rD (by rw[qW];simp)];simp
 refine lO _ _ (by rw[hl,List.length_map,hd.hn]) fun i j hi hj=>?_;rw[hl]at hi hj
 have key:∀i (hi:i<n),(qI 2 (List.replicate n 0) (mrkN d n n))[i]'(by rw[hl];exact hi)=if d.final.getD i false=true then 1 else 0:=fun i hi=>by
  simp[qI,mrkN,hi]
 have key2:∀i (hi:i<n),(d.final.map finB)[i]'(by rw[List.length_map,hd.hn];exact hi)=finB (d.final.getD i false):=fun i hi=>by
  rw[zN (show i<d.final.length by rw[hd.hn];exact hi)];simp
 rw[key i hi,key j hj,key2 i hi,key2 j hj];cases d.final.getD i false<;>cases d.final.getD j false<;>simp[finB]
def midM (d:DfaV)(p q:List Nat)(a j:Nat):List Nat:=(rJ d p a).take j++q.drop j
theorem eB {d:DfaV}{p q:List Nat}{a j:Nat}(h:q.length=p.length)(hj:j<=p.length):(midM d p q a j).length=p.length:=by simp[midM,xS,h];omega
theorem qNB {d:DfaV}{p q:List Nat}{a j:Nat}(h:q.length=p.length)(hj:j<p.length):(midM d p q a j).set j (p.getD (nx d j a) 0)=midM d p q a (j+1):=by
 have hl:((rJ d p a).take j).length=j:=by rw[List.length_take,xS];omega
 rw[midM,List.set_append_right _ _ (by omega),hl,Nat.sub_self,midM,zZ (d:=0) (by rw[xS];omega),List.append_assoc,oH hj];rw[List.drop_eq_getElem_cons (show j<q.length by omega),List.set_cons_zero];rfl
theorem qNC {d:DfaV}{p q:List Nat}{a j:Nat}(h:q.length=p.length)(hj:j=p.length):midM d p q a j=rJ d p a:=by
 subst hj;rw[midM,List.drop_of_length_le (by omega),List.append_nil,List.take_of_length_le (by rw[xS];exact Nat.le_refl _)]
theorem qKS {d:DfaV}{p:List Nat}{a:Nat}{c:Nat}(h:∀x∈p,x<c)(h0:0<c):∀x∈rJ d p a,x<c:=fun x hx=>by
 simp only[rJ,List.mem_map,List.mem_range]at hx
 obtain⟨q,_,rfl⟩:=hx
 exact sM h h0
theorem qBK {p:List Nat}(h:Norm p):∀x∈p,x<cls p:=fun x hx=>by
 obtain⟨i,hi,rfl⟩:=List.getElem_of_mem hx
 have:=tX h hi
 rwa [zN hi]at this
structure MachAt (w:World)(o k n:Nat)(d:DfaV)(nb no nc fb fo fc:Nat)(nxs:List Nat):Prop where
 box:w.heap[o]?=some (.cells #[.int .i64 (k:Int),.slice (some ⟨nb,no,none⟩) (n*k) nc,.slice (some ⟨fb,fo,none⟩) n fc] 59 (0,0))
 nx:∀s a,s<n->a<k->w.cell? ⟨nb,no+(s*k+a),none⟩=some (.int .i64 ((nx d s a:Nat):Int))
 fin:∀s,s<n->w.cell? ⟨fb,fo+s,none⟩=some (.bool (d.final.getD s false))
 nlt:nb<w.heap.size
 flt:fb<w.heap.size
 ncap:n*k<=nc/\nc<=maxLen
 fcap:n<=fc/\fc<=maxLen
theorem MachAt.kept {w w':World}{o k n:Nat}{d:DfaV}{nb no nc fb fo fc:Nat}{a9:List Nat}{row:Option Nat}(h:MachAt w o k n d nb no nc fb fo fc a9)(hg:w.grownBy w' row)(h1:row≠some o)(h2:row≠some nb)(h3:row≠some fb):MachAt w' o k n d nb no nc fb fo fc a9 :=
 ⟨zB h.box hg h1,fun s a hs ha=>(World.cell?_of_block (hg.block _ h.nlt (fun e=>h2 e.symm))).trans (h.nx s a hs ha),fun s hs=>(World.cell?_of_block (hg.block _ h.flt (fun e=>h3 e.symm))).trans (h.fin s hs),Nat.lt_of_lt_of_le h.nlt hg.size,Nat.lt_of_lt_of_le h.flt hg.size,h.ncap,h.fcap⟩
theorem qBT (w:World)(o k n:Nat)(d:DfaV)(nb no nc fb fo fc:Nat)(a9:List Nat)(hd:VD d n k)(hn:n<=4000)(h:MachAt w o k n d nb no nc fb fo fc a9):Calls Try.prog 46 #[.pointer (some ⟨o,0,none⟩)] w fun e w'=>∃(p:List Nat) (g:Nat),e=.returned (.tuple #[.slice (some ⟨g,0,none⟩) n n,.int .i64 ((cls p:Nat):Int)])/\Arr w' g 3 (nats p)/\w.heap.size<=g/\w.grownBy w' none/\SeqI d n k p/\(512<cls p\/p=yI d k):=by
 have H:=Kh h;have HD:=Kh hd;have g6:=hd.k6;have j6:=hd.k1;have j5:=hd.n1;have j3:=zQ h.box;have j4:=h.nlt;have j7:=h.flt;have g8:=h.fcap.1;have g7:fc<=9223372036854775807:=by have:=h.fcap.2;unfold maxLen at this;omega
 have g1:nc<=9223372036854775807:=by have:=h.ncap.2;unfold maxLen at this;omega
 obtain⟨p0,p1,p2⟩:=uY h.box;obtain⟨nk,d1⟩:=Nm (n*k);rw[<-d1]at p1;have H8:=Kh d1;clear h hd d1;go_enter Try.func46,Try.ntmps46;go_upto_region 2 with (first|(at_make;refine qC rfl _ _ _ rfl yJ rfl .i64 .i64 _ _ n rfl rfl rfl rfl ?b1 ?b2 ?_;(case b1=>omega);(case b2=>(unfold maxLen;omega));intro w1 d8 d2 g4)|fail);have H1:=Kh (H.out.kept d2 (by simp) (by simp) (by simp));obtain⟨p0,p1,p2⟩:=uY H1.out.box;rw[<-H8.out]at p1;obtain⟨C,hC⟩:=Nm w.heap.size;rw[<-hC]at d8⊢;obtain⟨f8,f6,HC⟩:=K3 d8 d2 hC;have f0:w.heap.size<=C:=by omega
 have i1:C<w1.heap.size:=by omega
 clear d8 d2 hC;go_upto_region 3 with (first|(at_make;refine qC rfl _ _ _ rfl yJ rfl .i64 .i64 _ _ n rfl rfl rfl rfl ?b3 ?b4 ?_;(case b3=>omega);(case b4=>(unfold maxLen;omega));intro w2 d7 c4 g3)|fail);have H2:=Kh (H1.out.kept c4 (by simp) (by simp) (by simp));obtain⟨p0,p1,p2⟩:=uY H2.out.box;rw[<-H8.out]at p1;obtain⟨M,hM⟩:=Nm w1.heap.size;rw[<-hM]at d7⊢;have H7:C≠M:=by omega
 have i0:w.heap.size<=M:=by omega
 have f7:=Kh d7;have b8:=Kh (f8.out.kept c4 (by simp));have f5:=Kh (zC f6.out c4);clear d7 c4 f8 f6 hM H1;go_wp2_with fail
 go_loopg [6,7,29] n (fun gh a6 a7 i wr=>∃s:Nat,gh+s=n/\i=.int .i64 s/\Arr wr C 3 (nats (List.replicate n 0))/\Arr wr M 3 (nats (mrkN d n s))/\w.grownBy wr none)
 case atStart=>exact⟨0,rfl,rfl,by rw[yM];exact b8.out,by rw[qJT,yM];exact f7.out,f5.out⟩
 clear f7 b8 f5 p0 p1 p2 H2;obtain⟨s,h5,rfl,hc,hm,hg⟩:=hrel;obtain⟨H0,a0,HM,HG⟩:=K4 h5 hc hm hg;have HH:=Kh (H.out.kept hg (by simp) (by simp) (by simp));clear h5;by_cases hs:s<n
 ·have c0:(s:Int)<n:=by omega
  have c1:=HH.out.fin s hs;have H4:=qMV (d:=d) hs;have d0:=qQM (d:=d) (n:=n) (k:=s);obtain⟨b,hb⟩:=Nm (d.final.getD s false);rw[<-hb]at c1 H4 d0;have f1:=hm.frozen s;have c2:=Arr.nat hm s (by rw[qW];exact hs);have g2:=hm.lt;have d9:=Kh H4;have i9:=Kh d0;clear hb hc hm hg H4 d0;cases b with
  | true =>
   go_wp2;go_roundg (n-(s+1))
   case measure=>have:=H0.out;omega
   have a3:=zF wr ⟨M,s,none⟩ (.int .i64 1);refine⟨s+1,by have:=H0.out;omega,by go_num,a0.out.kept a3 (fun e=>H7 (Oj e).symm),?_,yK HG.out a3 (by show _<=M;omega)⟩;rw[<-d9.out (by first|rfl|trivial)];exact HM.out.nat_set s (by rw[qW];exact hs) 1
  | false =>
   go_wp2;go_roundg (n-(s+1))
   case measure=>have:=H0.out;omega
   exact⟨s+1,by have:=H0.out;omega,by go_num,a0.out,by rw[<-i9.out (by first|rfl|trivial)];exact HM.out,HG.out⟩
 have a1:s=n:=by have:=H0.out;omega
 have c0:¬(s:Int)<n:=by omega
 have b5:Hid (Calls Try.prog 67 #[.slice (some ⟨C,0,none⟩) n n,.slice (some ⟨M,0,none⟩) n n,.int .i64 1,.int .i64 2] wr fun e w'=>e=.returned (.int .i64 ((cls (oZ d):Nat):Int))/\Arr w' C 3 (nats (oZ d))/\wr.grownBy w' (some C)):=Kh (by
  have h9:=qAN wr C M n 1 2 (List.replicate n 0) (mrkN d n n) (by simp) (qW _ _ _) (fun x hx=>by have:=(List.mem_replicate.1 hx).2;omega) (fun x hx=>by
   simp only[mrkN,List.mem_map]at hx;obtain⟨y,_,rfl⟩:=hx
   split<;>omega) (by omega) (by omega) (by omega) (by omega) H7 a0.out (by have:=HM.out;rw[a1]at this;exact this)
  rw[qKH HD.out]at h9
  exact h9)
 have f3:Hid (∃q:List Nat,q.length=n/\Arr wr M 3 (nats q)):=Kh ⟨_,qW _ _ _,HM.out⟩;clear a1 hc hm hg HM a0;go_wp2_with fail;refine b5.out.mono ?_;rintro e w4 ⟨rfl,b0,H5⟩;have b7:=Kh b0;have c6:=Kh (yK HG.out H5 (by show _<=C;omega));obtain⟨q,hq,e7⟩:=f3.out;have f2:=Kh (e7.kept H5 (fun e=>H7 (Oj e)));have HQ:=Kh hq;have a5:=SeqI.start HD.out;obtain⟨pp,e8⟩:=Nm (oZ d);rw[<-e8]at b7 a5⊢;have h7:=Kh a5;clear b0 H5 hq e7 e8 a5 f3 b5 HG H0 hs c0;go_upto_region 11 with fail
 go_loopg [8,9,10,11,64] n (fun gh v8 v9 a10 a11 i64_ wr=>∃(bf:Nat) (p q:List Nat),gh+bf=n/\v8=.int .i64 ((cls p:Nat):Int)/\v9=.int .i64 (bf:Int)/\SeqI d n k p/\bf<=cls p/\(bf=cls p->p=yI d k)/\q.length=n/\Arr wr C 3 (nats p)/\Arr wr M 3 (nats q)/\w.grownBy wr none)
 case atStart=>exact⟨0,pp,q,rfl,rfl,rfl,h7.out,Nat.zero_le _,fun e=>absurd e.symm (Nat.ne_of_gt (kQ (by rw[h7.out.len];omega))),HQ.out,b7.out,f2.out,c6.out⟩
 clear h7 b7 f2 c6 HQ;obtain⟨bf,p,q,h5,rfl,rfl,c8,g5,e6,a2,hC,hM,hg⟩:=hrel;obtain⟨H0,h7,i6,h8,HC,HM⟩:=K6 h5 c8 e6 a2 hC hM;have HG:=Kh hg;have a5:cls p<=n:=by have:=cls_le p;rw[c8.len]at this;exact this
 obtain⟨cp,a4⟩:=Nm (cls p);rw[<-a4]at g5 a5⊢;have H9:=Kh a4;clear h5 c8 e6 a2 hC hM a4;by_cases h1:bf<cp
 case neg =>
  have i5:¬(bf:Int)<cp:=(by omega);have HP:Hid (p=yI d k):=Kh (i6.out (by rw[<-H9.out];omega));clear hg;go_wp2;refine bodyPost_ret (v:=.tuple #[.slice (some ⟨C,0,none⟩) n n,.int .i64 (cp:Int)]) (by simp[results,Try.results46,go_sem]) rfl ?_;exact⟨p,C,by rw[H9.out],HC.out,f0,HG.out,h7.out,.inr HP.out⟩
 have i5:(bf:Int)<cp:=(by omega);by_cases h2:cp<=512
 case neg =>
  have i4:¬(cp:Int)<=512:=by omega
  clear hg;go_wp2;refine bodyPost_ret (v:=.tuple #[.slice (some ⟨C,0,none⟩) n n,.int .i64 (cp:Int)]) (by simp[results,Try.results46,go_sem]) rfl ?_;exact⟨p,C,by rw[H9.out],HC.out,f0,HG.out,h7.out,.inl (by rw[<-H9.out];omega)⟩
 have i4:(cp:Int)<=512:=by omega
 clear hg;go_wp2;obtain⟨wo,rfl⟩:=Nm (wr:World)
 go_loopg [8,10,11,64] k (fun gh v8 v10 a11 i64_ wr=>∃(a:Nat) (q:List Nat),gh+a=k/\v10=.int .i64 (a:Int)/\v8=.int .i64 ((cls (kH d p a):Nat):Int)/\q.length=n/\Arr wr C 3 (nats (kH d p a))/\Arr wr M 3 (nats q)/\w.grownBy wr none)
 case atStart=>exact⟨0,q,rfl,rfl,by rw[H9.out];rfl,h8.out,HC.out,HM.out,HG.out⟩
 clear HC HM HG h8;obtain⟨a,q,h5,rfl,rfl,a2,hC,hM,hg⟩:=hrel;have d6:a<=k:=by omega
 have b9:=h7.out.to HD.out a d6;have a8:=fO HD.out h7.out a d6;have c5:=Kh (dL HD.out h7.out a d6);obtain⟨pa,c9⟩:=Nm (kH d p a);rw[<-c9]at b9 a8 hC c5⊢;obtain⟨i8,b6,f4,h8,HC,HM⟩:=K6 c9 b9 h5 a2 hC hM;have HG:=Kh hg;have d3:cls pa<=n:=by have:=cls_le pa;rw[b9.len]at this;exact this
 obtain⟨ca,d4⟩:=Nm (cls pa);rw[<-d4]at a8 d3 c5⊢;rw[<-H9.out]at a8 c5;have H3:=Kh d4;have HH:=Kh (H.out.kept hg (by simp) (by simp) (by simp));obtain⟨p0,p1,p2⟩:=uY HH.out.box;rw[<-H8.out]at p1;clear h5 a2 hC hM d4 c9 b9;by_cases h3:a<k
 case neg =>
  have i3:¬(a:Int)<k:=(by omega);have d5:a=k:=by omega
  have i7:Hid (cp=ca->pa=yI d k):=Kh (fun e=>by
   obtain⟨e1,e2⟩:=c5.out e.symm;rw[e1]
   exact h7.out.stable HD.out (fun b hb=>e2 b (by omega)))
  clear hg d5;go_wp2;go_roundg (n-cp)
  case measure=>have:=H0.out;omega
  exact⟨cp,pa,q,by omega,by rw[H3.out],rfl,b6.out,by rw[<-H3.out];exact a8,fun e=>i7.out (by rw[H3.out];exact e),h8.out,HC.out,HM.out,HG.out⟩
 have i3:(a:Int)<k:=(by omega);by_cases h4:ca<=512
 case neg =>
  have i2:¬(ca:Int)<=512:=by omega
  clear hg;go_wp2;go_roundg (n-cp)
  case measure=>have:=H0.out;omega
  exact⟨cp,pa,q,by omega,by rw[H3.out],rfl,b6.out,by rw[<-H3.out];exact a8,fun e=>absurd e (by rw[<-H3.out];omega),h8.out,HC.out,HM.out,HG.out⟩
 have i2:(ca:Int)<=512:=by omega
 have g9:1<=ca:=by rw[H3.out];exact kQ (by rw[b6.out.len];omega)
 clear hg;go_wp2;obtain⟨wo2,rfl⟩:=Nm (wr:World);clear p0 p1 p2
 go_loopg [11,64] n (fun gh a11 i wr=>∃s:Nat,gh+s=n/\i=.int .i64 s/\Arr wr C 3 (nats pa)/\Arr wr M 3 (nats (midM d pa q a s))/\w.grownBy wr none)
 case atStart=>exact⟨0,rfl,rfl,HC.out,by rw[show midM d pa q a 0=q by simp[midM]];exact HM.out,HG.out⟩
 clear HC HM HG HH;obtain⟨s,h5,rfl,hC,hM,hg⟩:=hrel;obtain⟨e0,HC,HM,HG⟩:=K4 h5 hC hM hg;have HH:=Kh (H.out.kept hg (by simp) (by simp) (by simp));have h6:pa.length=n:=b6.out.len;have h0:=Kh h6;by_cases hs:s<n
 ·have c0:(s:Int)<n:=by omega
  obtain⟨p0,p1,p2⟩:=uY HH.out.box;rw[<-H8.out]at p1;have cN:=HH.out.nx s a hs h3;have c7:=qV HD.out hs h3;have cC:=Arr.nat hC (nx d s a) (by rw[h6];exact c7);have fM:=hM.frozen s;have cM:=Arr.nat hM s (by rw[eB (by rw[h8.out,h6]) (by omega),h6];exact hs);have g2:=hM.lt;have c3:=qNB (d:=d) (p:=pa) (q:=q) (a:=a) (by rw[h8.out,h6]) (by rw[h6];exact hs);obtain⟨e1,e2,e3,e4,e5⟩:=qDQ hs h3 g6 hn;rw[<-H8.out]at e5;obtain⟨X,hX⟩:=Nm (s*k+a);rw[<-hX]at cN e3 e4 e5;obtain⟨Y,hY⟩:=Nm (s*k);rw[<-hY]at e1 e2 e3 e4;obtain⟨t,ht⟩:=Nm (nx d s a);rw[<-ht]at cN cC c7 c3;obtain⟨c,hc⟩:=Nm (pa.getD t 0);rw[<-hc]at cC c3;have j0:=Kh c3;have e5':(X:Int)<nk:=(by exact_mod_cast e5);have f9:(t:Int)<n:=(by exact_mod_cast c7);have g0:nk<=nc:=by rw[H8.out];exact HH.out.ncap.1
  obtain⟨wo3,rfl⟩:=Nm (wr:World);clear hC hM hg hX hY ht hc c3 h5 h6;go_wp2
  go_region
  all_goals (try go_frame)
  all_goals go_wp2
  all_goals
   go_roundg (n-(s+1))
   case measure=>have:=e0.out;clear e1 e2 e3 e4;omega
   have a3:wo3.grownBy (wo3.drew.setCell ⟨M,s,none⟩ (.int .i64 (c:Int))) (some M):=zH (zW wo3 (some M)) (zF wo3.drew ⟨M,s,none⟩ (.int .i64 (c:Int)));refine⟨s+1,by have:=e0.out;clear e1 e2 e3 e4;omega,by go_num,HC.out.kept a3 (fun e=>H7 (Oj e).symm),?_,zC HG.out a3 (fun j e=>by have e:M=j:=Oj e;rw[<-e];exact i0)⟩;rw[<-j0.out];exact(HM.out.of_heap (w':=wo3.drew) rfl).nat_set s (by rw[eB (by rw[h8.out,h0.out]) (by rw[h0.out];exact Nat.le_of_lt hs),h0.out];exact hs) c
 have a1:s=n:=by have:=e0.out;omega
 have c0:¬(s:Int)<n:=(by omega);have j1:Hid (midM d pa q a s=rJ d pa a):=Kh (qNC (by rw[h8.out,h6]) (by rw[h6];exact a1));rw[j1.out]at HM
 have b5:Hid (Calls Try.prog 67 #[.slice (some ⟨C,0,none⟩) n n,.slice (some ⟨M,0,none⟩) n n,.int .i64 (ca:Int),.int .i64 (ca:Int)] wr fun e w'=>e=.returned (.int .i64 ((cls (kH d p (a+1)):Nat):Int))/\Arr w' C 3 (nats (kH d p (a+1)))/\wr.grownBy w' (some C)):=Kh (by
  have e9:∀x∈pa,x<ca:=(by rw[H3.out];exact qBK b6.out.norm);have a4:ca<=pa.length:=by rw[H3.out];exact cls_le pa
  have H6:=qKS (d:=d) (a:=a) e9 (by omega);have h9:=qAN wr C M n ca ca pa (rJ d pa a) h0.out (by rw[xS,h0.out]) e9 H6 (Nat.le_trans (Nat.mul_le_mul h4 h4) (by decide)) (by omega) (by omega) (by omega) H7 HC.out HM.out;rw[qDH (by rw[xS]) H6 (fun x hx=>Nat.lt_of_lt_of_le (H6 x hx) a4)]at h9;rw[show kH d p (a+1)=gQ pa (rJ d pa a) by rw[i8.out];rfl]
  exact h9)
 clear a1 hC hM hg h6 h5;go_wp2_with fail;refine b5.out.mono ?_;rintro e w4 ⟨rfl,b0,H5⟩;have b7:=Kh b0;have c6:=Kh (yK HG.out H5 (by show _<=C;omega));have j2:=Kh (HM.out.kept H5 (fun e=>H7 (Oj e)));obtain⟨cc,H6⟩:=Nm (cls (kH d p (a+1)));rw[<-H6];have a0:=Kh H6;clear b0 H5 H6 b5;go_wp2;go_roundg (k-(a+1))
 case measure=>have:=f4.out;omega
 exact⟨a+1,rJ d pa a,by have:=f4.out;omega,by go_num,by rw[a0.out],by rw[xS,h0.out],b7.out,j2.out,c6.out⟩
theorem RowT.len_le {B e:Nat}{w:World}{v:Value}{xs:List Value}(h:RowT B e w v xs):xs.length<=maxLen:=h.row.len_le
theorem Mat.of_rowT {w:World}{B e:Nat}{v:Value}{hs:List Value}{t:List (List Int)}(h:RowT B e w v hs)(hr:tN B 3 ints w hs t)(hB:B<=w.heap.size):Mat w.heap.size w v t:=by
 have h0:=hr.1;rcases h with ⟨rfl,rfl⟩|⟨b,off,cap,cur,m,rfl,hb,hc1,hc2,hg,hcell⟩
 ·exact .inl ⟨_,_,rfl,List.eq_nil_of_length_eq_zero (by simpa using h0.symm)⟩
 have h3:∀x,∃a c,x<t.length->hs.getD x (.int .i64 0)=.slice a (t.getD x []).length c:=by
  intro x;by_cases hx:x<t.length
  ·have h1:=hr.2 x (by omega) hx
   obtain⟨a,c,e⟩:=h1.shape;refine⟨a,c,fun _=>?_⟩;rw[zN (by omega),e,zK,zN hx]
  exact⟨none,0,fun h=>absurd h hx⟩
 obtain⟨A,hA⟩:=Classical.axiomOfChoice h3;obtain⟨C,hC⟩:=Classical.axiomOfChoice hA;refine .inr ⟨b,off,cap,A,C,by rw[h0],by omega,hc2,zQ hg,zQ hg,fun x hx=>?_,fun x hx=>?_⟩
 ·rw[cell_of_row w b (off+x) _ _ _ hg,hcell x (by omega),<-hC x hx,zN (show x<hs.length by omega)]
 have h1:=hr.2 x (by omega) hx;have h2:=hC x hx;rw[zN (show x<hs.length by omega)]at h2;rw[<-h2,zN hx];exact h1.row.mono hB
def DfaT (w:World)(f nx:Value)(d:DfaV):Prop:=∃hs,RowT w.heap.size 4 w f (bls d.final)/\RowT w.heap.size 22 w nx hs/\tN w.heap.size 3 ints w hs d.next
section
variable {w w':World} {f nx:Value} {d:DfaV}
theorem DfaT.kept {row:Option Nat}(h:DfaT w f nx d)(hg:w.grownBy w' row)(h1:∀k,row=some k->yZ w 4 k/\yZ w 22 k/\yZ w 3 k):DfaT w' f nx d:=by
 obtain⟨hs,a,b,c⟩:=h;exact⟨hs,(a.kept hg (fun k hk=>.inr (h1 k hk).1)).mono hg.size,(b.kept hg (fun k hk=>.inr (h1 k hk).2.1)).mono hg.size,(c.kept hg (fun k hk=>.inr (h1 k hk).2.2)).mono hg.size⟩
theorem DfaT.grow (h:DfaT w f nx d)(hg:w.grownBy w' none):DfaT w' f nx d:=h.kept hg (by simp)
theorem DfaT.zero (w:World):DfaT w (.slice none 0 0) (.slice none 0 0) qHM:=⟨[],.inl ⟨rfl,rfl⟩,.inl ⟨rfl,rfl⟩,tN.nil⟩
theorem DfaT.ok (h:DfaT w f nx d):tO w.heap.size w (.agg #[.int .i64 d.letters,.int .i64 d.start,f,nx]) d:=by
 obtain⟨hs,a,b,c⟩:=h;exact⟨_,_,rfl,a.row,Mat.of_rowT b c (Nat.le_refl _)⟩
end
theorem tT.t {w w':World}{v:Value}{m:DfaV}(h:tT w w' v m):∃f nx,v=.agg #[.int .i64 m.letters,.int .i64 m.start,f,nx]/\DfaT w' f nx m:=by
 obtain⟨o,hs,sf,cf,sn,cn,rfl,_,hb⟩:=h;exact⟨_,_,rfl,hs,RowT.of_owns hb.ownF,RowT.of_owns hb.ownN,hb.rows⟩
def qRD (w:World)(E:Int)(m:DfaV)(e:Ending)(w':World):Prop:=∃f nx,e=.returned (.tuple #[.agg #[.int .i64 m.letters,.int .i64 m.start,f,nx],.int .i64 E])/\DfaT w' f nx m/\w.grownBy w' none
def rowV (k g:Nat):Value:=.slice (some ⟨g,0,none⟩) k k
structure QB (w0 w:World)(T F N C B k cnt c0:Nat)(p:List Nat)(fs:List Bool)(t:List (List Int))(gs:List Nat):Prop where
 box:w.heap[T]?=some (.cells #[.int .i64 (k:Int),.int .i64 (c0:Int),.slice (some ⟨F,0,none⟩) cnt cnt,.slice (some ⟨N,0,none⟩) cnt cnt] 37 (0,0))
 fa:Arr w F 4 (bls (fs++List.replicate (cnt-fs.length) false))
 na:Arr w N 22 (gs.map (rowV k)++List.replicate (cnt-gs.length) (.slice none 0 0))
 len:gs.length=t.length
 row:∀i,i<t.length->Arr w (gs.getD i 0) 3 (ints (t.getD i []))
 rl:∀i,i<t.length->(t.getD i []).length=k
 glo:∀g∈gs,B<=g
 nd:gs.Nodup
 cl:Arr w C 3 (nats p)
 lo:w0.heap.size<=T/\w0.heap.size<=F/\w0.heap.size<=N/\w0.heap.size<=C
 cB:C<B/\w0.heap.size<=B/\B<=w.heap.size
 grown:w0.grownBy w none
theorem mZ {α:Type}{l m:List α}{i:Nat}{d:α}(h:i<l.length):(l++m).getD i d=l.getD i d:=by
 rw[List.getD_eq_getElem?_getD,List.getElem?_append_left h,<-List.getD_eq_getElem?_getD]
theorem qJN {l:List Nat}(h:l.Nodup){i j:Nat}(hi:i<l.length)(hj:j<l.length)(e:l[i]=l[j]):i=j:=by
 have h1:=h.idxOf_getElem i hi;have h2:=h.idxOf_getElem j hj;rw[e]at h1;omega
section
variable {w0 w w':World} {T F N C B k cnt c0:Nat} {p:List Nat} {fs:List Bool} {t:List (List Int)} {gs:List Nat}
theorem QB.grow (h:QB w0 w T F N C B k cnt c0 p fs t gs)(hg:w.grownBy w' none):QB w0 w' T F N C B k cnt c0 p fs t gs :=
 ⟨zB h.box hg,h.fa.kept hg (by simp),h.na.kept hg (by simp),h.len,fun i hi=>(h.row i hi).kept hg (by simp),h.rl,h.glo,h.nd,h.cl.kept hg (by simp),h.lo,⟨h.cB.1,h.cB.2.1,Nat.le_trans h.cB.2.2 hg.size⟩,zC h.grown hg⟩
theorem QB.box_ne {g e:Nat}{xs:List Value}(h:QB w0 w T F N C B k cnt c0 p fs t gs)(ha:Arr w g e xs)(he:e≠37):g≠T:=ha.type_ne h.box he
theorem bE {g g' e e':Nat}{xs ys:List Value}(h:Arr w g e xs)(h':Arr w g' e' ys)(he:e≠e'):g≠g':=by
 obtain⟨c,r,hc,_⟩:=h';exact h.type_ne hc he
theorem QB.mem (h:QB w0 w T F N C B k cnt c0 p fs t gs){i:Nat}(hi:i<t.length):gs.getD i 0∈gs:=by
 rw[zN (by rw[h.len];exact hi)];exact List.getElem_mem _
theorem QB.setF (h:QB w0 w T F N C B k cnt c0 p fs t gs)(hc:fs.length<cnt)(b:Bool):QB w0 (w.setCell ⟨F,fs.length,none⟩ (.bool b)) T F N C B k cnt c0 p (fs++[b]) t gs:=by
 have hg:=zF w ⟨F,fs.length,none⟩ (.bool b);refine⟨zB h.box hg (fun e=>(h.box_ne h.fa (by decide)) (Oj e)),?_,h.na.kept hg (fun e=>(bE h.na h.fa (by decide)) (Oj e).symm),h.len,fun i hi=>(h.row i hi).kept hg (fun e=>(bE (h.row i hi) h.fa (by decide)) (Oj e).symm),h.rl,h.glo,h.nd,h.cl.kept hg (fun e=>(bE h.cl h.fa (by decide)) (Oj e).symm),h.lo,⟨h.cB.1,h.cB.2.1,Nat.le_trans h.cB.2.2 hg.size⟩,yK h.grown hg (by show _<=F;have:=h.lo;omega)⟩;have h1:=h.fa.bool_set fs.length (by simp;omega) b
 have e:(fs++List.replicate (cnt-fs.length) false).set fs.length b=(fs++[b])++List.replicate (cnt-(fs++[b]).length) false:=by
  rw[List.set_append_right _ _ (Nat.le_refl _),Nat.sub_self];obtain⟨m,hm⟩:∃m,cnt-fs.length=m+1:=⟨cnt-fs.length-1,by omega⟩;rw[hm,List.replicate_succ,List.set_cons_zero,List.append_assoc];congr 1;rw[List.length_append,List.length_singleton,show cnt-(fs.length+1)=m by omega];rfl
 rw[e]at h1;exact h1
theorem QB.setN2 (h:QB w0 w T F N C B k cnt c0 p fs t gs)(hc:gs.length<cnt){g:Nat}(a9:(w.setCell ⟨N,gs.length,none⟩ (rowV k g)).grownBy w' none)(ha:Arr w' g 3 (ints (List.replicate k 0)))(a8:w.heap.size<=g)(hB:B<=w.heap.size):QB w0 w' T F N C B k cnt c0 p fs (t++[List.replicate k 0]) (gs++[g]):=by
 have hg:=zF w ⟨N,gs.length,none⟩ (rowV k g);have h0:∀ {g2 e2:Nat} {xs:List Value},Arr w g2 e2 xs->e2≠22->Arr w' g2 e2 xs:=fun h2 he=>(h2.kept hg (fun e=>(bE h2 h.na he) (Oj e).symm)).kept a9 (by simp);refine⟨zB (zB h.box hg (fun e=>(h.box_ne h.na (by decide)) (Oj e))) a9,h0 h.fa (by decide),?_,by simp[h.len],fun i hi=>?_,fun i hi=>?_,fun x hx=>?_,?_,h0 h.cl (by decide),h.lo,⟨h.cB.1,h.cB.2.1,Nat.le_trans h.cB.2.2 (Nat.le_trans hg.size a9.size)⟩,zC (yK h.grown hg (by show _<=N;have:=h.lo;omega)) a9⟩
 ·have h1:=(h.na.set gs.length (by simp;omega) (rowV k g)).kept a9 (by simp)
  have e:(gs.map (rowV k)++List.replicate (cnt-gs.length) (Value.slice none 0 0)).set gs.length (rowV k g)=(gs++[g]).map (rowV k)++List.replicate (cnt-(gs++[g]).length) (.slice none 0 0):=by
   rw[List.set_append_right _ _ (by simp),List.length_map,Nat.sub_self];obtain⟨m,hm⟩:∃m,cnt-gs.length=m+1:=⟨cnt-gs.length-1,by omega⟩;rw[hm,List.replicate_succ,List.set_cons_zero,List.map_append,List.append_assoc];congr 1;rw[List.length_append,List.length_singleton,show cnt-(gs.length+1)=m by omega];rfl
  rw[e]at h1;exact h1
 ·rw[List.length_append,List.length_singleton]at hi
  by_cases hi2:i<t.length
  ·rw[mZ (by rw[h.len];exact hi2),mZ hi2]
   exact h0 (h.row i hi2) (by decide)
  have e:i=t.length:=by omega
  subst e;have e1:(gs++[g]).getD t.length 0=g:=by rw[<-h.len,List.getD_eq_getElem?_getD];simp
  have e2:(t++[List.replicate k (0:Int)]).getD t.length []=List.replicate k 0:=by rw[List.getD_eq_getElem?_getD];simp
  rw[e1,e2];exact ha
 ·rw[List.length_append,List.length_singleton]at hi
  by_cases hi2:i<t.length
  ·rw[mZ hi2];exact h.rl i hi2
  have e:i=t.length:=by omega
  subst e;have e2:(t++[List.replicate k (0:Int)]).getD t.length []=List.replicate k 0:=by rw[List.getD_eq_getElem?_getD];simp
  rw[e2];simp
 ·rcases List.mem_append.1 hx with hx|hx
  ·exact h.glo x hx
  simp at hx;subst hx;omega
 rw[List.nodup_append];refine⟨h.nd,by simp,fun a ha2 b hb e=>?_⟩;simp at hb;subst hb;subst e;obtain⟨i,hi,e2⟩:=List.getElem_of_mem ha2;have h3:=(h.row i (by rw[<-h.len];exact hi)).lt;rw[zN hi,e2]at h3;omega
theorem QB.setR (h:QB w0 w T F N C B k cnt c0 p fs t gs){i a:Nat}(hi:i<t.length)(ha:a<k)(x:Int):QB w0 (w.setCell ⟨gs.getD i 0,a,none⟩ (.int .i64 x)) T F N C B k cnt c0 p fs (t.set i ((t.getD i []).set a x)) gs:=by
 have hg:=zF w ⟨gs.getD i 0,a,none⟩ (.int .i64 x);have hr:=h.row i hi;have h0:=h.glo _ (h.mem hi);refine⟨zB h.box hg (fun e=>(h.box_ne hr (by decide)) (Oj e)),h.fa.kept hg (fun e=>(bE h.fa hr (by decide)) (Oj e).symm),h.na.kept hg (fun e=>(bE h.na hr (by decide)) (Oj e).symm),by rw[List.length_set];exact h.len,fun j hj=>?_,fun j hj=>?_,h.glo,h.nd,h.cl.kept hg (fun e=>by have e:gs.getD i 0=C:=Oj e;have:=h.cB;omega),h.lo,⟨h.cB.1,h.cB.2.1,Nat.le_trans h.cB.2.2 hg.size⟩,zC h.grown hg (fun j e=>by have e:gs.getD i 0=j:=Oj e;have:=h.cB;omega)⟩
 ·rw[List.length_set]at hj
  by_cases e:i=j
  ·subst e
   have e2:(t.set i ((t.getD i []).set a x)).getD i []=(t.getD i []).set a x:=by rw[List.getD_eq_getElem?_getD];simp[hi]
   rw[e2];exact hr.int_set a (by rw[h.rl i hi];exact ha) x
  have e2:(t.set i ((t.getD i []).set a x)).getD j []=t.getD j []:=by rw[List.getD_eq_getElem?_getD,List.getElem?_set_ne e,<-List.getD_eq_getElem?_getD]
  rw[e2];refine(h.row j hj).kept hg (fun e3=>e ?_);have e3:gs.getD i 0=gs.getD j 0:=Oj e3;rw[zN (by rw[h.len];exact hi),zN (by rw[h.len];exact hj)]at e3;exact qJN h.nd _ _ e3
 rw[List.length_set]at hj;by_cases e:i=j
 ·subst e
  have e2:(t.set i ((t.getD i []).set a x)).getD i []=(t.getD i []).set a x:=by rw[List.getD_eq_getElem?_getD];simp[hi]
  rw[e2,List.length_set];exact h.rl i hi
 have e2:(t.set i ((t.getD i []).set a x)).getD j []=t.getD j []:=by rw[List.getD_eq_getElem?_getD,List.getElem?_set_ne e,<-List.getD_eq_getElem?_getD]
 rw[e2];exact h.rl j hj
theorem QB.setL {r:List Int}{g a:Nat}(h:QB w0 w T F N C B k cnt c0 p fs (t++[r]) (gs++[g]))(ha:a<k)(x:Int):QB w0 (w.setCell ⟨g,a,none⟩ (.int .i64 x)) T F N C B k cnt c0 p fs (t++[r.set a x]) (gs++[g]):=by
 have hl:=h.len;rw[List.length_append,List.length_append,List.length_singleton,List.length_singleton]at hl;have h1:=h.setR (i:=t.length) (by simp) ha x;have e1:(gs++[g]).getD t.length 0=g:=by rw[show t.length=gs.length by omega,List.getD_eq_getElem?_getD];simp
 have e2:(t++[r]).getD t.length []=r:=by rw[List.getD_eq_getElem?_getD];simp
 rw[e1,e2,List.set_append_right _ _ (Nat.le_refl _),Nat.sub_self,List.set_cons_zero]at h1;exact h1
theorem QB.last {r:List Int}{g:Nat}(h:QB w0 w T F N C B k cnt c0 p fs (t++[r]) (gs++[g]))(hc:gs.length<cnt):Arr w g 3 (ints r)/\w.cell? ⟨N,gs.length,none⟩=some (rowV k g)/\r.length=k:=by
 have hl:=h.len;rw[List.length_append,List.length_append,List.length_singleton,List.length_singleton]at hl;have e1:(gs++[g]).getD t.length 0=g:=by rw[show t.length=gs.length by omega,List.getD_eq_getElem?_getD];simp
 have e2:(t++[r]).getD t.length []=r:=by rw[List.getD_eq_getElem?_getD];simp
 have h1:=h.row t.length (by simp);have h2:=h.rl t.length (by simp);rw[e1,e2]at h1;rw[e2]at h2;refine⟨h1,?_,h2⟩;rw[h.na.cell gs.length (by simp<;>omega),List.getElem_append_left (by simp)];simp
theorem QB.ok (h:QB w0 w T F N C B k cnt c0 p fs t gs)(hf:fs.length=cnt)(ht:t.length=cnt)(a9:cnt<=maxLen)(a8:k<=maxLen):tO w.heap.size w (.agg #[.int .i64 (k:Int),.int .i64 (c0:Int),.slice (some ⟨F,0,none⟩) cnt cnt,.slice (some ⟨N,0,none⟩) cnt cnt]) ⟨k,c0,fs,t⟩:=by
 have h4:=h.fa;have h0:=h.na;rw[hf,Nat.sub_self,List.replicate_zero,List.append_nil]at h4;rw[h.len,ht,Nat.sub_self,List.replicate_zero,List.append_nil]at h0;have h7:(bls fs).length=cnt:=by rw[zX,hf]
 have h5:(gs.map (rowV k)).length=cnt:=by rw[List.length_map,h.len,ht]
 refine⟨_,_,rfl,?_,?_⟩
 ·have:=h4.rowT' (cap:=cnt) (by omega) a9
  rw[h7]at this;exact this.row
 have h1:=h0.rowT' (cap:=cnt) (by omega) a9;rw[h5]at h1;refine Mat.of_rowT h1 ⟨by rw[List.length_map,h.len],fun i h2 h3=>?_⟩ (Nat.le_refl _);have hr:=(h.row i h3).rowT' (cap:=k) (by rw[zK,h.rl i h3];exact Nat.le_refl _) a8;rw[zK,h.rl i h3]at hr;rw[List.getElem_map];have h6:i<gs.length:=by rw[h.len];exact h3
 rw[zN h6,zN h3]at hr;exact hr
end
theorem DfaT.shapes {w:World}{f nx:Value}{d:DfaV}(h:DfaT w f nx d):∃sa n1 c1 sb n2 c2,f=.slice sa n1 c1/\nx=.slice sb n2 c2:=by
 obtain⟨hs,a,b,_⟩:=h;obtain⟨sa,c1,rfl⟩:=a.shape;obtain⟨sb,c2,rfl⟩:=b.shape;exact⟨sa,_,c1,sb,_,c2,rfl,rfl⟩
def MmOk (w:World)(d:DfaV)(k:Nat)(e:Ending)(w':World):Prop:=∃v b,e=.returned (.tuple #[v,.bool b])/\w.grownBy w' none/\((b=true/\minN d k<=512/\∃f nx,v=.agg #[.int .i64 (k:Int),.int .i64 0,f,nx]/\DfaT w' f nx (minD d k))\/(b=false/\512<minN d k/\v=.agg #[.int .i64 0,.int .i64 0,.slice none 0 0,.slice none 0 0]))
theorem qMX (n:Nat)(h:n<=4096):∀w:World,(Instr.makeSlice 35 (.int .i64 (n:Int)) (.int .i64 (n:Int))).run Try.prog w=.ok (.slice (some ⟨w.heap.size,0,none⟩) n n) (w.alloc (.cells (madeCells #[.slice none 0 0] n) 22)) :=
 fun w=>run_make_row' 35 22 (.slice none 0 0) 24 Try.underlying35 (by kernel_rfl) rfl .i64 .i64 n (by omega) (by omega) w
theorem qGP (n:Nat):(madeCells #[.slice none 0 0] n).toList=List.replicate n (.slice none 0 0):=by
 have:=qX (z:=.slice none 0 0) rfl n;rw[Nat.mul_one]at this;exact this
theorem qMY (n:Nat)(h:n<=4096):∀w:World,(Instr.makeSlice 22 (.int .i64 (n:Int)) (.int .i64 (n:Int))).run Try.prog w=.ok (.slice (some ⟨w.heap.size,0,none⟩) n n) (w.alloc (.cells (madeCells #[.int .i64 0] n) 3)) :=
 fun w=>run_make_row' 22 3 (.int .i64 0) 8 Try.underlying22 (by kernel_rfl) rfl .i64 .i64 n (by omega) (by omega) w
theorem qGQ (n:Nat):(madeCells #[.int .i64 0] n).toList=ints (List.replicate n 0):=by
 have:=qX (z:=.int .i64 0) rfl n;rw[Nat.mul_one]at this;rw[rV];exact this
def mrow (d:DfaV)(p:List Nat)(s k a:Nat):List Int:=(vY p (d.next.getD s [])).take a++List.replicate (k-a) 0
theorem qJR (d:DfaV)(p:List Nat)(s k:Nat):mrow d p s k 0=List.replicate k 0:=by simp[mrow]
theorem qJS {d:DfaV}{n k:Nat}(hd:VD d n k){p:List Nat}{s:Nat}(hs:s<n):mrow d p s k k=vY p (d.next.getD s []):=by
 rw[mrow,Nat.sub_self,List.replicate_zero,List.append_nil,List.take_of_length_le (by rw[rE hd hs];exact Nat.le_refl _)]
theorem qMU {d:DfaV}{n k:Nat}(hd:VD d n k){p:List Nat}{s a:Nat}(hs:s<n)(ha:a<k):(mrow d p s k a).set a ((p.getD (nx d s a) 0:Nat):Int)=mrow d p s k (a+1):=by
 have hl:((vY p (d.next.getD s [])).take a).length=a:=by rw[List.length_take,rE hd hs];omega
 obtain⟨m,hm⟩:∃m,k-a=m+1:=⟨k-a-1,by omega⟩;rw[mrow,List.set_append_right _ _ (by omega),hl,Nat.sub_self,hm,List.replicate_succ,List.set_cons_zero,mrow,zZ (d:=0) (by rw[rE hd hs];exact ha),qBW hd hs ha,List.append_assoc,show k-(a+1)=m by omega];rfl
theorem gD {w X:World}(h:w.grownBy X none):w.grownBy X.drew none:=zC h (zW X none)
theorem gA {w X:World}(h:w.grownBy X none)(o:Obj):w.grownBy (X.alloc o) none:=nM h o
theorem gS {w X:World}(h:w.grownBy X none){b i:Nat}(u:Value)(hb:w.heap.size<=b):w.grownBy (X.setCell ⟨b,i,none⟩ u) none:=yK h (zF X ⟨b,i,none⟩ u) (by show _<=b;omega)
theorem qSD (w:World)(o1 o2 o3:Obj):(((w.alloc o1).alloc o2).alloc o3).drew.heap[w.heap.size]?=some o1/\(((w.alloc o1).alloc o2).alloc o3).drew.heap[w.heap.size+1]?=some o2/\(((w.alloc o1).alloc o2).alloc o3).drew.heap[w.heap.size+1+1]?=some o3:=by
 have g3:=Ga ((w.alloc o1).alloc o2) o3 none;show (((w.alloc o1).alloc o2).alloc o3).heap[w.heap.size]?=some o1/\(((w.alloc o1).alloc o2).alloc o3).heap[w.heap.size+1]?=some o2/\(((w.alloc o1).alloc o2).alloc o3).heap[w.heap.size+1+1]?=some o3;refine⟨zB (cV w o1 o2) g3,zB (dZ w o1 o2) g3,?_⟩;have:=heap_alloc_new ((w.alloc o1).alloc o2) o3
 rwa [zU,zU]at this
theorem qBN (w:World)(o k n:Nat)(d:DfaV)(nb no nc fb fo fc:Nat)(a6:List Nat)(hd:VD d n k)(hn:n<=4000)(a5:st0 d=0)(hr:∀q,q<n->∃w,tP k w/\run d (st0 d) w=q)(h:MachAt w o k n d nb no nc fb fo fc a6):Calls Try.prog 26 #[.pointer (some ⟨o,0,none⟩)] w (MmOk w d k):=by
 have j7:=qNA hd hr;have m4:=hd.k6;have p4:=hd.k1;have o6:=hd.n1;have o4:=zQ h.box;have m7:=h.fcap.1;have m6:fc<=9223372036854775807:=by have:=h.fcap.2;unfold maxLen at this;omega
 have m2:nc<=9223372036854775807:=by have:=h.ncap.2;unfold maxLen at this;omega
 have d3:=Ga w (.cells #[.int .i64 0,.int .i64 0,.slice none 0 0,.slice none 0 0] 37) none;have c6:=heap_alloc_new w (.cells #[.int .i64 0,.int .i64 0,.slice none 0 0,.slice none 0 0] 37);obtain⟨wA,g1⟩:=Nm (w.alloc (.cells #[.int .i64 0,.int .i64 0,.slice none 0 0,.slice none 0 0] 37));obtain⟨Q,hQ⟩:=Nm w.heap.size;rw[<-g1]at d3 c6;rw[<-hQ]at c6;have H:=Kh (h.kept d3 (by simp) (by simp) (by simp));obtain⟨HD,k8,n4,g6,l2,o3⟩:=K6 hd j7 g1 hQ d3 c6;have n6:=Kh a5;have l4:=Kh (qBT wA o k n d nb no nc fb fo fc a6 hd hn H.out);have p7:Q<wA.heap.size:=zQ c6;clear h hd d3 c6 g1 hQ j7 hr a5;go_enter Try.func26,Try.ntmps26;go_upto_region 1 with fail;rw[<-n4.out,<-g6.out];go_wp2_with fail;refine l4.out.mono ?_;rintro e w1 ⟨p,C,rfl,hC,p9,c3,e7,i1⟩;have b1:=Kh (zC l2.out c3);have a0:=Kh (zB o3.out c3);have H1:=Kh (H.out.kept c3 (by simp) (by simp) (by simp));have n2:w.heap.size<=C:=by have:=l2.out.size;omega
 obtain⟨HC,k4,k3⟩:=K3 hC e7 i1;have c9:=Kh (e7.cls_le HD.out);have p8:Q<w1.heap.size:=by have:=c3.size;omega
 obtain⟨cnt,H7⟩:=Nm (cls p);rw[<-H7]at c9 k3⊢;have h0:=Kh H7;clear hC c3 e7 i1 H7 l4;by_cases h5:cnt<=512
 case neg =>
  have n3:(512:Int)<cnt:=by omega
  have g8:Hid (512<minN d k):=Kh (by rw[k8.out];have:=c9.out;omega);obtain⟨q0,q1,q2,q3⟩:=zL a0.out;have f0:=zA a0.out 0;have f1:=zA a0.out 1;have f2:=zA a0.out 2;have f3:=zA a0.out 3;go_wp2;obtain⟨c5,a2⟩:=uB a0.out (.int .i64 0) (.int .i64 0) (.slice none 0 0) (.slice none 0 0);obtain⟨wz,b3⟩:=Nm ((((w1.setCell ⟨Q,0,none⟩ (.int .i64 0)).setCell ⟨Q,1,none⟩ (.int .i64 0)).setCell ⟨Q,2,none⟩ (.slice none 0 0)).setCell ⟨Q,3,none⟩ (.slice none 0 0));rw[<-b3]at c5 a2⊢;clear b3;obtain⟨r0,r1,r2,r3⟩:=zL c5;clear q0 q1 q2 q3 f0 f1 f2 f3;refine bodyPost_ret (v:=.tuple #[.agg #[.int .i64 0,.int .i64 0,.slice none 0 0,.slice none 0 0],.bool false]) (by simp[results,Try.results26,go_sem,r0,r1,r2,r3]) rfl ?_;exact⟨_,false,rfl,yK b1.out a2 (by show _<=Q;have:=g6.out;omega),.inr ⟨rfl,g8.out,rfl⟩⟩
 have n3:¬(512:Int)<cnt:=by omega
 have k7:Hid (p=yI d k):=Kh (by
  rcases k3.out with h|h
  ·omega
  exact h)
 have g8:Hid (minN d k<=512):=Kh (by rw[k8.out,<-k7.out,<-h0.out];exact h5);have e9:p.length=n:=k4.out.len;have p6:1<=cnt:=by rw[h0.out];exact kQ (by omega)
 have cC0:=Arr.nat HC.out 0 (by omega);obtain⟨c0,g0⟩:=Nm (p.getD 0 0);rw[<-g0]at cC0;have o2:=Kh g0;have p3:=qDJ cnt (by omega);have o9:=qMX cnt (by omega);have o8:=qMY k (by omega);have m3:(0:Int)<n:=by omega
 have o7:0<n:=by omega
 obtain⟨wo,rfl⟩:=Nm (w1:World);obtain⟨p0,p1,p2⟩:=uY H1.out.box;have g4:=HC.out.lt;have l9:=zQ H1.out.box;clear g0;have l5:Hid (∀W:World,wo.grownBy W none->W.cell? ⟨o,0,none⟩=some (.int .i64 (k:Int))/\W.cell? ⟨C,0,none⟩=some (.int .i64 (c0:Int))):=Kh (fun W hW=>⟨qPJ p0 hW,qPJ cC0 hW⟩);go_upto_region 4 with fail;go_cut [6] (fun s6 wx=>∃T F N:Nat,s6=.pointer (some ⟨T,0,none⟩)/\wx.heap[T]?=some (.cells #[.int .i64 (k:Int),.int .i64 (c0:Int),.slice (some ⟨F,0,none⟩) cnt cnt,.slice (some ⟨N,0,none⟩) cnt cnt] 37 (0,0))/\Arr wx F 4 (bls (List.replicate cnt false))/\Arr wx N 22 (List.replicate cnt (.slice none 0 0))/\wo.heap.size<=T/\wo.heap.size<=F/\wo.heap.size<=N/\wo.grownBy wx none)
 case first =>
  go_region_held3 (fun w'=>w'.cell? ⟨o,0,none⟩=some (.int .i64 (k:Int))/\w'.cell? ⟨C,0,none⟩=some (.int .i64 (c0:Int)))
   (first|(refine l5.out _ ?_;repeat(first|exact zT _ _|refine gD ?_|refine gA ?_ _|refine gS ?_ _ (by simp;omega)))|fail) (fail)
  all_goals
   go_wp2_with fail
   go_meet
   obtain⟨h1,h2,h3⟩:=qSD wo _ _ _;refine⟨_,_,_,rfl,by first|exact h1|exact h2|exact h3,⟨_,[],by first|exact h1|exact h2|exact h3,by rw[List.append_nil];exact qBX cnt⟩,⟨_,[],by first|exact h1|exact h2|exact h3,by rw[List.append_nil];exact qGP cnt⟩,by omega,by omega,by omega,gD (gA (gA (gA (zT _ _) _) _) _)⟩
 obtain⟨T,F,N,rfl,j2,hF,hN,j4,j8,j6,a3⟩:=hcut;obtain⟨B,hB⟩:=Nm wc.heap.size;have d6:=a3.size;have c7:Hid (QB w wc T F N C B k cnt c0 p [] [] []):=Kh ⟨j2,by simpa using hF,by simpa using hN,rfl,fun i hi=>absurd hi (by simp),fun i hi=>absurd hi (by simp),fun g hg=>absurd hg (by simp),by simp,HC.out.kept a3 (by simp),⟨Nat.le_trans b1.out.size j4,Nat.le_trans b1.out.size j8,Nat.le_trans b1.out.size j6,n2⟩,⟨by rw[hB];exact Nat.lt_of_lt_of_le g4 d6,by rw[hB];exact Nat.le_trans b1.out.size d6,by rw[hB];exact Nat.le_refl _⟩,zC b1.out a3⟩;have h8:=Kh (H1.out.kept a3 (by simp) (by simp) (by simp));have k2:=Kh (zB a0.out a3);have j5:Q≠F/\Q≠N/\Q<B:=by omega
 have g5:=Kh j5;clear j5;have i5:o<B/\nb<B/\fb<B:=⟨by rw[hB];exact zQ h8.out.box,by rw[hB];exact h8.out.nlt,by rw[hB];exact h8.out.flt⟩;have a1:o≠T/\o≠F/\o≠N/\nb≠F/\nb≠N/\fb≠F/\fb≠N:=by have:=H1.out.nlt;have:=H1.out.flt;omega
 have a4:=Kh a1;have n7:=Kh i5;clear a1 i5;clear j2 hF hN j4 j8 j6 a3 d6 cC0 l5 p0 p1 p2;go_wp2
 go_loopg [7,8,9,32,67] n (fun gh a7 a8 a9 i a67 wr=>∃(s:Nat) (gs:List Nat),gh+s=n/\i=.int .i64 s/\QB w wr T F N C B k cnt c0 p (mC d p s) (oD d p s) gs/\MachAt wr o k n d nb no nc fb fo fc a6/\wr.heap[Q]?=some (.cells #[.int .i64 0,.int .i64 0,.slice none 0 0,.slice none 0 0] 37 (0,0)))
 case atStart=>exact⟨0,[],rfl,rfl,c7.out,h8.out,k2.out⟩
 clear c7 h8 k2;obtain⟨s,gs,b9,rfl,hq,b7,b2⟩:=hrel;have HZ:=Kh b2;clear b2;have c8:=Kh b9;have HQ:=Kh hq;clear b9;have hg:=hq.grown;have HM:=Kh b7;have H5:=k4.out.norm;by_cases hs:s<n
 ·have l7:(s:Int)<n:=by omega
  have b5:s<p.length:=(by omega);obtain⟨d2,H0,hold⟩:=lP H5 b5;have H4:=vG H5 s (by omega);have d4:(mC d p s).length=cls (p.take s):=by rw[mC,List.length_map,H4]
  have b4:(oD d p s).length=cls (p.take s):=by rw[oD,List.length_map,H4]
  have c4:p.getD s 0<cnt:=(by rw[h0.out];exact tX H5 b5);have j1:=Arr.nat hq.cl s b5;have b8:gs.length=cls (p.take s):=by rw[hq.len,b4]
  obtain⟨c,hc⟩:=Nm (p.getD s 0);rw[<-hc]at d2 c4 j1 H0 hold;obtain⟨m,hm⟩:=Nm (cls (p.take s));rw[<-hm]at d2 d4 b4 b8 H0 hold;have m8:(c:Int)<cnt:=(by exact_mod_cast c4);have i7:m<=cnt:=by rw[hm,h0.out];exact(rG p s).length_le
  have h4:(gs.map (rowV k)++List.replicate (cnt-gs.length) (Value.slice none 0 0)).length=cnt:=by rw[List.length_append,List.length_map,List.length_replicate,b8];omega
  have cN:=hq.na.cell c (by omega);obtain⟨t0,t1,t2,t3⟩:=zL hq.box;have q6:=Kh hc;have q5:=Kh hm;by_cases hcm:c=m
  case neg =>
   have i9:c<gs.length:=by omega
   have cN2:wr.cell? ⟨N,c,none⟩=some (.slice (some ⟨gs.getD c 0,0,none⟩) k k):=by
    rw[cN,List.getElem_append_left (by simpa using i9)];simp[rowV,List.getD,List.getElem?_eq_getElem i9]
   obtain⟨gg,c1⟩:=Nm (gs.getD c 0);rw[<-c1]at cN2;have a1:p.getD s 0≠cls (p.take s):=(by rw[<-hc,<-hm];exact hcm);have e1:=qBR (d:=d) a1;have e2:=qBP (d:=d) a1;have E1:=Kh e1;have E2:=Kh e2;clear hcm a1 e1 e2 c1 cN d4 b4 b8 H0 hold hc hm d2 h4 i7 hq hg H5 H4 b5;go_wp2;go_roundg (n-(s+1))
   case measure=>have:=c8.out;omega
   exact⟨s+1,gs,by have:=c8.out;omega,by go_num,by rw[E1.out,E2.out];exact HQ.out,HM.out,HZ.out⟩
  obtain rfl:c=m:=hcm;have e1:=qBS (d:=d) (p:=p) (i:=s) (by rw[<-hc,<-hm]);have e2:=qBQ (d:=d) (p:=p) (i:=s) (by rw[<-hc,<-hm])
  have cN2:wr.cell? ⟨N,c,none⟩=some (.slice none 0 0):=by
   rw[cN,List.getElem_append_right (by simp;omega)];simp
  have cFb:=hq.fa.bool c (by simp;omega);have fF:=hq.fa.frozen c;have g3:=hq.fa.lt;have cf:=b7.fin s hs;obtain⟨p0,p1,p2⟩:=uY b7.box;obtain⟨b,hb⟩:=Nm (d.final.getD s false);rw[<-hb]at cf e1;have E1:=Kh e1;have E2:=Kh e2;obtain⟨nk,f5⟩:=Nm (n*k);rw[<-f5]at p1;obtain⟨d5,l3,q4,b0⟩:=K4 f5 d4 b4 b8;obtain⟨wo2,rfl⟩:=Nm (wr:World);clear e1 e2 cN d4 b4 b8 H0 hold hc hm d2 h4 i7 hq hg H5 H4 b5 hb b7 f5;go_upto_region 9 with fail
  go_region
  all_goals (try go_frame)
  have h9:=(HQ.out.setF (by rw[l3.out];exact c4) b).grow (zW _ none);rw[l3.out,<-E1.out]at h9;have H6:wo2.grownBy (wo2.setCell ⟨F,c,none⟩ (.bool b)).drew (some F):=zH (zF wo2 ⟨F,c,none⟩ (.bool b)) (zW _ _);have b6:=HM.out.kept H6 (fun e=>a4.out.2.1 (Oj e).symm) (fun e=>a4.out.2.2.2.1 (Oj e).symm) (fun e=>a4.out.2.2.2.2.2.1 (Oj e).symm);have d7:=zB HZ.out H6 (fun e=>g5.out.1 (Oj e).symm);obtain⟨w3,i0⟩:=Nm ((wo2.setCell ⟨F,c,none⟩ (.bool b)).drew);rw[<-i0]at h9 b6 d7⊢;obtain⟨k0,g7,l1⟩:=K3 d7 h9 b6
  have cN3:w3.cell? ⟨N,c,none⟩=some (.slice none 0 0):=by
   rw[h9.na.cell c (by simp;have:=b0.out;omega),List.getElem_append_right (by simp;have:=b0.out;omega)];simp
  have fN3:=h9.na.frozen c;have g2:=h9.na.lt;obtain⟨p0,p1,p2⟩:=uY b6.box;rw[<-d5.out]at p1;obtain⟨t0,t1,t2,t3⟩:=zL h9.box;have n0:=zQ h9.box;have m0:=zQ b6.box;clear i0 h9 b6 d7 HZ H6 cN2 cFb fF g3 cf HQ HM j1;go_upto_region 10 with fail
  go_region
  all_goals (try go_frame)
  have c2:=Ga (w3.setCell ⟨N,c,none⟩ (.slice (some ⟨w3.heap.size,0,none⟩) k k)) (.cells (madeCells #[.int .i64 0] k) 3) none;have h6:=zC c2 (zW _ none);have H8:=Arr.new (w3.setCell ⟨N,c,none⟩ (.slice (some ⟨w3.heap.size,0,none⟩) k k)) 3 (madeCells #[.int .i64 0] k);rw[qGQ,show (w3.setCell ⟨N,c,none⟩ (.slice (some ⟨w3.heap.size,0,none⟩) k k)).heap.size=w3.heap.size by simp[World.setCell]]at H8;have H2:w3.grownBy ((w3.setCell ⟨N,c,none⟩ (.slice (some ⟨w3.heap.size,0,none⟩) k k)).alloc (.cells (madeCells #[.int .i64 0] k) 3)).drew (some N):=zH (zF w3 ⟨N,c,none⟩ _) (vH h6);obtain⟨w4,d8⟩:=Nm (((w3.setCell ⟨N,c,none⟩ (.slice (some ⟨w3.heap.size,0,none⟩) k k)).alloc (.cells (madeCells #[.int .i64 0] k) 3)).drew);have h7:Arr w4 w3.heap.size 3 (ints (List.replicate k 0)):=(by rw[d8];exact H8.of_heap rfl);rw[<-d8]at H2 h6⊢;obtain⟨g,hg⟩:=Nm w3.heap.size;rw[<-hg]at h7 h6;have e8:=g7.out.setN2 (w':=w4) (g:=g) (by rw[b0.out];exact c4) (by rw[b0.out];exact h6) h7 (by omega) g7.out.cB.2.2;have f6:=l1.out.kept H2 (fun e=>a4.out.2.2.1 (Oj e).symm) (fun e=>a4.out.2.2.2.2.1 (Oj e).symm) (fun e=>a4.out.2.2.2.2.2.2 (Oj e).symm);rw[<-qJR d p s k]at e8;have k5:=Kh e8;have l0:=Kh f6;have j9:=Kh (zB k0.out H2 (fun e=>g5.out.2.1 (Oj e).symm));obtain⟨p0,p1,p2⟩:=uY f6.box;clear k0 d8 c2 h6 H8 h7 H2 e8 f6 g7 l1 cN3 fN3 g2 t0 t1 t2 t3 n0 m0 hg;go_wp2;clear p0 p1 p2;obtain⟨wo3,rfl⟩:=Nm (w4:World)
  go_loopg [9,67] k (fun gh a9 i wr=>∃a:Nat,gh+a=k/\i=.int .i64 a/\QB w wr T F N C B k cnt c0 p (mC d p (s+1)) (oD d p s++[mrow d p s k a]) (gs++[g])/\MachAt wr o k n d nb no nc fb fo fc a6/\wr.heap[Q]?=some (.cells #[.int .i64 0,.int .i64 0,.slice none 0 0,.slice none 0 0] 37 (0,0)))
  case atStart=>exact⟨0,rfl,rfl,k5.out,l0.out,j9.out⟩
  clear k5 l0 j9;obtain⟨a,b9,rfl,hq,hm,b2⟩:=hrel;have HZ:=Kh b2;clear b2;obtain⟨H9,HQ,HM⟩:=K3 b9 hq hm;clear b9;by_cases ha:a<k
  ·have m9:(a:Int)<k:=by exact_mod_cast ha
   obtain⟨d0,j0,i3⟩:=hq.last (by rw[b0.out];exact c4);rw[b0.out]at j0;unfold rowV at j0;obtain⟨p0,p1,p2⟩:=uY hm.box;rw[<-d5.out]at p1;obtain⟨t0,t1,t2,t3⟩:=zL hq.box;have cX:=hm.nx s a hs ha;have e0:=qV HD.out hs ha;have cC:=Arr.nat hq.cl (nx d s a) (by rw[e9];exact e0);have fg:=d0.frozen a;have cg:=d0.int a (by rw[i3];exact ha);have m5:=d0.lt;have d1:=qMU HD.out (p:=p) hs ha;obtain⟨e1,e2,e3,e4,e5⟩:=qDQ hs ha m4 hn;rw[<-d5.out]at e5;obtain⟨X,hX⟩:=Nm (s*k+a);rw[<-hX]at cX e3 e4 e5;obtain⟨Y,hY⟩:=Nm (s*k);rw[<-hY]at e1 e2 e3 e4;obtain⟨t,ht⟩:=Nm (nx d s a);rw[<-ht]at cX cC e0 d1;obtain⟨v,hv⟩:=Nm (p.getD t 0);rw[<-hv]at cC d1;have n8:=Kh d1;have e5':(X:Int)<nk:=(by exact_mod_cast e5);have l6:(t:Int)<n:=(by exact_mod_cast e0);have m1:nk<=nc:=by rw[d5.out];exact HM.out.ncap.1
   obtain⟨wo4,rfl⟩:=Nm (wr:World);clear d0 i3 hq hm hX hY ht hv d1;go_wp2
   go_region
   all_goals (try go_frame)
   all_goals go_wp2
   all_goals
    go_roundg (k-(a+1))
    case measure=>have:=H9.out;clear e1 e2 e3 e4;omega
    have c1:wo4.grownBy (wo4.setCell ⟨g,a,none⟩ (.int .i64 (v:Int))).drew (some g):=zH (zF wo4 ⟨g,a,none⟩ _) (zW _ _);have p5:=HQ.out.glo g (by simp);have o5:=n7.out;clear e1 e2 e3 e4;exact⟨a+1,by have:=H9.out;omega,by go_num,by rw[<-n8.out];exact(HQ.out.setL ha v).grow (zW _ none),HM.out.kept c1 (fun e=>by have:=Oj e;omega) (fun e=>by have:=Oj e;omega) (fun e=>by have:=Oj e;omega),zB HZ.out c1 (fun e=>by have:=Oj e;have:=g5.out;omega)⟩
  have j3:a=k:=by have:=H9.out;omega
  have m9:¬(a:Int)<k:=(by omega);have HE:Hid (oD d p s++[mrow d p s k a]=oD d p (s+1)):=Kh (by rw[j3,qJS HD.out hs,E2.out]);rw[HE.out]at HQ;clear j3 hq hm;go_wp2;go_roundg (n-(s+1))
  case measure=>have:=c8.out;omega
  exact⟨s+1,gs++[g],by have:=c8.out;omega,by go_num,HQ.out,HM.out,HZ.out⟩
 have i2:s=n:=by have:=c8.out;omega
 have l7:¬(s:Int)<n:=(by omega);have H4:=vG H5 s (by omega);have f8:cls (p.take s)=cnt:=by rw[h0.out,List.take_of_length_le (by omega)]
 have f4:=hq.ok (by rw[mC,List.length_map,H4,f8]) (by rw[oD,List.length_map,H4,f8]) (by unfold maxLen;omega) (by unfold maxLen;omega)
 have i4:(⟨(k:Int),(c0:Int),mC d p s,oD d p s⟩:DfaV)=uI d p:=by
  rw[uI,n6.out,<-o2.out,HD.out.hk,reps,e9,<-i2];rfl
 rw[i4]at f4;have d9:=bV HD.out e9 H5;rw[<-h0.out]at d9;have g9:=Kh (qEV wr.heap.size wr _ (uI d p) cnt k (Nat.le_refl _) f4 d9 h5);have i6:minD (uI d p) k=minD d k:=by rw[k7.out];exact minQ HD.out
 rw[i6]at g9;obtain⟨t0,t1,t2,t3⟩:=zL hq.box;have k9:Hid ((minD d k).letters=k/\(minD d k).start=0):=Kh ⟨(iZ HD.out).hk,rfl⟩;have o0:=Kh (hg);clear i2 H4 f8 f4 i4 d9 i6 hg hq b7 H5;go_wp2_with fail;refine g9.out.mono ?_;rintro e w9 ⟨v9,rfl,i8,f7⟩;obtain⟨f9,n9,rfl,e6⟩:=i8.t;obtain⟨fa9,fl9,fc9,na9,nl9,nc9,rfl,rfl⟩:=e6.shapes;rw[k9.out.1,k9.out.2];have H3:=Kh (zB HZ.out f7);have n5:=Kh e6;have o1:=Kh (zC o0.out f7);obtain⟨q0,q1,q2,q3⟩:=zL H3.out;have f0:=zA H3.out 0;have f1:=zA H3.out 1;have f2:=zA H3.out 2;have f3:=zA H3.out 3;clear i8 f7 e6 g9 t0 t1 t2 t3;go_wp2;obtain⟨c5,a2⟩:=uB H3.out (.int .i64 (k:Int)) (.int .i64 0) (.slice fa9 fl9 fc9) (.slice na9 nl9 nc9);obtain⟨wz,b3⟩:=Nm ((((w9.setCell ⟨Q,0,none⟩ (.int .i64 (k:Int))).setCell ⟨Q,1,none⟩ (.int .i64 0)).setCell ⟨Q,2,none⟩ (.slice fa9 fl9 fc9)).setCell ⟨Q,3,none⟩ (.slice na9 nl9 nc9));rw[<-b3]at c5 a2⊢;clear b3;obtain⟨r0,r1,r2,r3⟩:=zL c5;clear q0 q1 q2 q3 f0 f1 f2 f3;refine bodyPost_ret (v:=.tuple #[.agg #[.int .i64 (k:Int),.int .i64 0,.slice fa9 fl9 fc9,.slice na9 nl9 nc9],.bool true]) (by simp[results,Try.results26,go_sem,r0,r1,r2,r3]) rfl ?_
 have l8:∀j,some Q=some j->yZ w9 4 j/\yZ w9 22 j/\yZ w9 3 j:=fun j e=>by
  obtain rfl:Q=j:=Oj e;exact⟨⟨_,_,_,H3.out,by decide⟩,⟨_,_,_,H3.out,by decide⟩,⟨_,_,_,H3.out,by decide⟩⟩
 exact⟨_,true,rfl,yK o1.out a2 (by show _<=Q;have:=g6.out;omega),.inl ⟨rfl,g8.out,_,_,rfl,n5.out.kept a2 l8⟩⟩
end Go.Proofs.Ytobakifdllameaa
