/- Part 22 of the proof. -/
import Derived.Test.YtobakifdllameaaQc21
import Derived.BigRegion
import Derived.Deep.OwnRows
set_option linter.unusedVariables false
set_option linter.unusedSimpArgs false
set_option maxRecDepth 100000
set_option maxHeartbeats 16000000
namespace Go.Proofs.Ytobakifdllameaa
open Go.RowKit
theorem tD {w:World}{p e:Nat}{x0 x1 x2:Value}{m:Nat×Nat}(h:w.heap[p]?=some (.cells #[x0,x1,x2] e m)):w.cell? ⟨p,0,none⟩=some x0/\w.cell? ⟨p,1,none⟩=some x1/\w.cell? ⟨p,2,none⟩=some x2:=by
 have c0:=zG h 0;have c1:=zG h 1;have c2:=zG h 2;exact⟨by simpa using c0,by simpa using c1,by simpa using c2⟩
theorem qQC {w w':World}{p:Addr}{u:Value}(h:w.cell? p=some u)(hg:w.grownBy w' none):w'.cell? p=some u:=(World.cell?_of_block (hg.block p.block (World.block_lt_of_cell? w p h) (by simp))).trans h
theorem qEM {s k a n:Nat}(hs:s<n)(ha:a<k)(hk:k<=6)(hn:n<=4000):IntKind.i64.wrap ((s:Int)*(k:Int))=((s*k:Nat):Int)/\wrap64 ((s:Int)*(k:Int))=((s*k:Nat):Int)/\IntKind.i64.wrap (((s*k:Nat):Int)+(a:Int))=((s*k+a:Nat):Int)/\wrap64 (((s*k:Nat):Int)+(a:Int))=((s*k+a:Nat):Int)/\s*k+a<n*k:=by
 have h1:s*k<=4000*6:=Nat.mul_le_mul (by omega) hk;have e:(s:Int)*(k:Int)=((s*k:Nat):Int):=by simp
 have h2:s*k+k<=n*k:=by rw[<-Nat.succ_mul];exact Nat.mul_le_mul_right k hs
 rw[e]
 generalize s*k=Y at h1 h2⊢
 have e2:(Y:Int)+(a:Int)=((Y+a:Nat):Int):=by omega
 rw[e2];exact⟨wG (by omega),IntWalk.wrap64_in _ (by omega),wG (by omega),IntWalk.wrap64_in _ (by omega),by omega⟩
def mrkN (d:DfaV)(n k:Nat):List Nat:=(List.range n).map fun s=>if s<k/\d.final.getD s false=true then 1 else 0
theorem pJ (d:DfaV)(n k:Nat):(mrkN d n k).length=n:=by simp[mrkN]
theorem qKQ (d:DfaV)(n:Nat):mrkN d n 0=List.replicate n 0:=by
 refine List.ext_getElem (by simp[mrkN]) fun i h1 h2=>by simp[mrkN]
theorem qNW {d:DfaV}{n k:Nat}(hk:k<n)(h:d.final.getD k false=true):(mrkN d n k).set k 1=mrkN d n (k+1):=by
 refine List.ext_getElem (by simp[mrkN]) fun i h1 h2=>?_;rw[List.getElem_set];simp only[mrkN,List.getElem_map,List.getElem_range]
 split
 ·rename_i e;subst e;rw[if_pos ⟨by omega,h⟩]
 rename_i e
 by_cases hi:i<k/\d.final.getD i false=true
 ·rw[if_pos hi,if_pos ⟨by omega,hi.2⟩]
 rw[if_neg hi,if_neg (fun h'=>hi ⟨by omega,h'.2⟩)]
theorem qRF {d:DfaV}{n k:Nat}(h:d.final.getD k false=false):mrkN d n k=mrkN d n (k+1):=by
 refine List.map_congr_left fun i hi=>?_;by_cases hi:i<k/\d.final.getD i false=true
 ·rw[if_pos hi,if_pos ⟨by omega,hi.2⟩]
 rw[if_neg hi,if_neg (fun h'=>by
  by_cases e:i=k
  ·subst e;rw[h]at h';cases h'.2
  exact hi ⟨by omega,h'.2⟩)]
theorem qLJ {d:DfaV}{n k:Nat}(hd:VD d n k):numb (qT 2 (List.replicate n 0) (mrkN d n n))=nT d:=by
 have hl:(qT 2 (List.replicate n 0) (mrkN d n n)).length=n:=by rw[rL (by rw[pJ];simp)];simp
 refine lY _ _ (by rw[hl,List.length_map,hd.hn]) fun i j hi hj=>?_;rw[hl]at hi hj
 have key:∀i (hi:i<n),(qT 2 (List.replicate n 0) (mrkN d n n))[i]'(by rw[hl];exact hi)=if d.final.getD i false=true then 1 else 0:=fun i hi=>by
  simp[qT,mrkN,hi]
 have key2:∀i (hi:i<n),(d.final.map finB)[i]'(by rw[List.length_map,hd.hn];exact hi)=finB (d.final.getD i false):=fun i hi=>by
  rw[zK (show i<d.final.length by rw[hd.hn];exact hi)];simp
 rw[key i hi,key j hj,key2 i hi,key2 j hj];cases d.final.getD i false<;>cases d.final.getD j false<;>simp[finB]
def midM (d:DfaV)(p q:List Nat)(a j:Nat):List Nat:=(rR d p a).take j++q.drop j
theorem eS {d:DfaV}{p q:List Nat}{a j:Nat}(h:q.length=p.length)(hj:j<=p.length):(midM d p q a j).length=p.length:=by simp[midM,xT,h];omega
theorem qOC {d:DfaV}{p q:List Nat}{a j:Nat}(h:q.length=p.length)(hj:j<p.length):(midM d p q a j).set j (p.getD (nx d j a) 0)=midM d p q a (j+1):=by
 have hl:((rR d p a).take j).length=j:=by rw[List.length_take,xT];omega
 rw[midM,List.set_append_right _ _ (by omega),hl,Nat.sub_self,midM,yD (d:=0) (by rw[xT];omega),List.append_assoc,nH hj];rw[List.drop_eq_getElem_cons (show j<q.length by omega),List.set_cons_zero];rfl
theorem qOD {d:DfaV}{p q:List Nat}{a j:Nat}(h:q.length=p.length)(hj:j=p.length):midM d p q a j=rR d p a:=by
 subst hj;rw[midM,List.drop_of_length_le (by omega),List.append_nil,List.take_of_length_le (by rw[xT];exact Nat.le_refl _)]
theorem qLU {d:DfaV}{p:List Nat}{a:Nat}{c:Nat}(h:∀x∈p,x<c)(h0:0<c):∀x∈rR d p a,x<c:=fun x hx=>by
 simp only[rR,List.mem_map,List.mem_range]at hx
 obtain⟨q,_,rfl⟩:=hx
 exact sZ h h0
theorem qCH {p:List Nat}(h:Norm p):∀x∈p,x<cls p:=fun x hx=>by
 obtain⟨i,hi,rfl⟩:=List.getElem_of_mem hx
 have:=sH h hi
 rwa [zK hi]at this
structure MachAt (w:World)(o k n:Nat)(d:DfaV)(nb no nc fb fo fc:Nat)(nxs:List Nat):Prop where
 box:w.heap[o]?=some (.cells #[.int .i64 (k:Int),.slice (some ⟨nb,no,none⟩) (n*k) nc,.slice (some ⟨fb,fo,none⟩) n fc] 59 (0,0))
 nx:∀s a,s<n->a<k->w.cell? ⟨nb,no+(s*k+a),none⟩=some (.int .i64 ((nx d s a:Nat):Int))
 fin:∀s,s<n->w.cell? ⟨fb,fo+s,none⟩=some (.bool (d.final.getD s false))
 nlt:nb<w.heap.size
 flt:fb<w.heap.size
 ncap:n*k<=nc/\nc<=maxLen
 fcap:n<=fc/\fc<=maxLen
theorem MachAt.kept {w w':World}{o k n:Nat}{d:DfaV}{nb no nc fb fo fc:Nat}{a9:List Nat}{row:Option Nat}(h:MachAt w o k n d nb no nc fb fo fc a9)(hg:w.grownBy w' row)(h1:row≠some o)(h2:row≠some nb)(h3:row≠some fb):MachAt w' o k n d nb no nc fb fo fc a9 :=
 ⟨zB h.box hg h1,fun s a hs ha=>(World.cell?_of_block (hg.block _ h.nlt (fun e=>h2 e.symm))).trans (h.nx s a hs ha),fun s hs=>(World.cell?_of_block (hg.block _ h.flt (fun e=>h3 e.symm))).trans (h.fin s hs),Nat.lt_of_lt_of_le h.nlt hg.size,Nat.lt_of_lt_of_le h.flt hg.size,h.ncap,h.fcap⟩
theorem qCO (w:World)(o k n:Nat)(d:DfaV)(nb no nc fb fo fc:Nat)(a9:List Nat)(hd:VD d n k)(hn:n<=4000)(h:MachAt w o k n d nb no nc fb fo fc a9):Calls Try.prog 46 #[.pointer (some ⟨o,0,none⟩)] w fun e w'=>∃(p:List Nat) (g:Nat),e=.returned (.tuple #[.slice (some ⟨g,0,none⟩) n n,.int .i64 ((cls p:Nat):Int)])/\Arr w' g 3 (nats p)/\w.heap.size<=g/\w.grownBy w' none/\SeqI d n k p/\(512<cls p\/p=yF d k):=by
 have H:=Kh h;have HD:=Kh hd;have g6:=hd.k6;have j6:=hd.k1;have j5:=hd.n1;have j3:=zQ h.box;have j4:=h.nlt;have j7:=h.flt;have g8:=h.fcap.1;have g7:fc<=9223372036854775807:=by have:=h.fcap.2;unfold maxLen at this;omega
 have g1:nc<=9223372036854775807:=by have:=h.ncap.2;unfold maxLen at this;omega
 obtain⟨p0,p1,p2⟩:=tD h.box;obtain⟨nk,d1⟩:=Nm (n*k);rw[<-d1]at p1;have H8:=Kh d1;clear h hd d1;go_enter Try.func46,Try.ntmps46;go_upto_region 2 with (first|(at_make;refine qV rfl _ _ _ rfl yJ rfl .i64 .i64 _ _ n rfl rfl rfl rfl ?b1 ?b2 ?_;(case b1=>omega);(case b2=>(unfold maxLen;omega));intro w1 d8 d2 g4)|fail);have H1:=Kh (H.out.kept d2 (by simp) (by simp) (by simp));obtain⟨p0,p1,p2⟩:=tD H1.out.box;rw[<-H8.out]at p1;obtain⟨C,hC⟩:=Nm w.heap.size;rw[<-hC]at d8⊢;obtain⟨f8,f6,HC⟩:=K3 d8 d2 hC;have f0:w.heap.size<=C:=by omega
 have i1:C<w1.heap.size:=by omega
 clear d8 d2 hC;go_upto_region 3 with (first|(at_make;refine qV rfl _ _ _ rfl yJ rfl .i64 .i64 _ _ n rfl rfl rfl rfl ?b3 ?b4 ?_;(case b3=>omega);(case b4=>(unfold maxLen;omega));intro w2 d7 c4 g3)|fail);have H2:=Kh (H1.out.kept c4 (by simp) (by simp) (by simp));obtain⟨p0,p1,p2⟩:=tD H2.out.box;rw[<-H8.out]at p1;obtain⟨M,hM⟩:=Nm w1.heap.size;rw[<-hM]at d7⊢;have H7:C≠M:=by omega
 have i0:w.heap.size<=M:=by omega
 have f7:=Kh d7;have b8:=Kh (f8.out.kept c4 (by simp));have f5:=Kh (zC f6.out c4);clear d7 c4 f8 f6 hM H1;go_wp2_with fail
 go_loopg [6,7,29] n (fun gh a6 a7 i wr=>∃s:Nat,gh+s=n/\i=.int .i64 s/\Arr wr C 3 (nats (List.replicate n 0))/\Arr wr M 3 (nats (mrkN d n s))/\w.grownBy wr none)
 case atStart=>exact⟨0,rfl,rfl,by rw[yS];exact b8.out,by rw[qKQ,yS];exact f7.out,f5.out⟩
 clear f7 b8 f5 p0 p1 p2 H2;obtain⟨s,h5,rfl,hc,hm,hg⟩:=hrel;obtain⟨H0,a0,HM,HG⟩:=K4 h5 hc hm hg;have HH:=Kh (H.out.kept hg (by simp) (by simp) (by simp));clear h5;by_cases hs:s<n
 ·have c0:(s:Int)<n:=by omega
  have c1:=HH.out.fin s hs;have H4:=qNW (d:=d) hs;have d0:=qRF (d:=d) (n:=n) (k:=s);obtain⟨b,hb⟩:=Nm (d.final.getD s false);rw[<-hb]at c1 H4 d0;have f1:=hm.frozen s;have c2:=Arr.nat hm s (by rw[pJ];exact hs);have g2:=hm.lt;have d9:=Kh H4;have i9:=Kh d0;clear hb hc hm hg H4 d0;cases b with
  | true =>
   go_wp2;go_roundg (n-(s+1))
   case measure=>have:=H0.out;omega
   have a3:=zF wr ⟨M,s,none⟩ (.int .i64 1);refine⟨s+1,by have:=H0.out;omega,by go_num,a0.out.kept a3 (fun e=>H7 (Oj e).symm),?_,yM HG.out a3 (by show _<=M;omega)⟩;rw[<-d9.out (by first|rfl|trivial)];exact HM.out.nat_set s (by rw[pJ];exact hs) 1
  | false =>
   go_wp2;go_roundg (n-(s+1))
   case measure=>have:=H0.out;omega
   exact⟨s+1,by have:=H0.out;omega,by go_num,a0.out,by rw[<-i9.out (by first|rfl|trivial)];exact HM.out,HG.out⟩
 have a1:s=n:=by have:=H0.out;omega
 have c0:¬(s:Int)<n:=by omega
 have b5:Hid (Calls Try.prog 67 #[.slice (some ⟨C,0,none⟩) n n,.slice (some ⟨M,0,none⟩) n n,.int .i64 1,.int .i64 2] wr fun e w'=>e=.returned (.int .i64 ((cls (nT d):Nat):Int))/\Arr w' C 3 (nats (nT d))/\wr.grownBy w' (some C)):=Kh (by
  have h9:=qBM wr C M n 1 2 (List.replicate n 0) (mrkN d n n) (by simp) (pJ _ _ _) (fun x hx=>by have:=(List.mem_replicate.1 hx).2;omega) (fun x hx=>by
   simp only[mrkN,List.mem_map]at hx;obtain⟨y,_,rfl⟩:=hx
   split<;>omega) (by omega) (by omega) (by omega) (by omega) H7 a0.out (by have:=HM.out;rw[a1]at this;exact this)
  rw[qLJ HD.out]at h9
  exact h9)
 have f3:Hid (∃q:List Nat,q.length=n/\Arr wr M 3 (nats q)):=Kh ⟨_,pJ _ _ _,HM.out⟩;clear a1 hc hm hg HM a0;go_wp2_with fail;refine b5.out.mono ?_;rintro e w4 ⟨rfl,b0,H5⟩;have b7:=Kh b0;have c6:=Kh (yM HG.out H5 (by show _<=C;omega));obtain⟨q,hq,e7⟩:=f3.out;have f2:=Kh (e7.kept H5 (fun e=>H7 (Oj e)));have HQ:=Kh hq;have a5:=SeqI.start HD.out;obtain⟨pp,e8⟩:=Nm (nT d);rw[<-e8]at b7 a5⊢;have h7:=Kh a5;clear b0 H5 hq e7 e8 a5 f3 b5 HG H0 hs c0;go_upto_region 11 with fail
 go_loopg [8,9,10,11,64] n (fun gh v8 v9 a10 a11 i64_ wr=>∃(bf:Nat) (p q:List Nat),gh+bf=n/\v8=.int .i64 ((cls p:Nat):Int)/\v9=.int .i64 (bf:Int)/\SeqI d n k p/\bf<=cls p/\(bf=cls p->p=yF d k)/\q.length=n/\Arr wr C 3 (nats p)/\Arr wr M 3 (nats q)/\w.grownBy wr none)
 case atStart=>exact⟨0,pp,q,rfl,rfl,rfl,h7.out,Nat.zero_le _,fun e=>absurd e.symm (Nat.ne_of_gt (jK (by rw[h7.out.len];omega))),HQ.out,b7.out,f2.out,c6.out⟩
 clear h7 b7 f2 c6 HQ;obtain⟨bf,p,q,h5,rfl,rfl,c8,g5,e6,a2,hC,hM,hg⟩:=hrel;obtain⟨H0,h7,i6,h8,HC,HM⟩:=K6 h5 c8 e6 a2 hC hM;have HG:=Kh hg;have a5:cls p<=n:=by have:=cls_le p;rw[c8.len]at this;exact this
 obtain⟨cp,a4⟩:=Nm (cls p);rw[<-a4]at g5 a5⊢;have H9:=Kh a4;clear h5 c8 e6 a2 hC hM a4;by_cases h1:bf<cp
 case neg =>
  have i5:¬(bf:Int)<cp:=(by omega);have HP:Hid (p=yF d k):=Kh (i6.out (by rw[<-H9.out];omega));clear hg;go_wp2;refine bodyPost_ret (v:=.tuple #[.slice (some ⟨C,0,none⟩) n n,.int .i64 (cp:Int)]) (by simp[results,Try.results46,go_sem]) rfl ?_;exact⟨p,C,by rw[H9.out],HC.out,f0,HG.out,h7.out,.inr HP.out⟩
 have i5:(bf:Int)<cp:=(by omega);by_cases h2:cp<=512
 case neg =>
  have i4:¬(cp:Int)<=512:=by omega
  clear hg;go_wp2;refine bodyPost_ret (v:=.tuple #[.slice (some ⟨C,0,none⟩) n n,.int .i64 (cp:Int)]) (by simp[results,Try.results46,go_sem]) rfl ?_;exact⟨p,C,by rw[H9.out],HC.out,f0,HG.out,h7.out,.inl (by rw[<-H9.out];omega)⟩
 have i4:(cp:Int)<=512:=by omega
 clear hg;go_wp2;obtain⟨wo,rfl⟩:=Nm (wr:World)
 go_loopg [8,10,11,64] k (fun gh v8 v10 a11 i64_ wr=>∃(a:Nat) (q:List Nat),gh+a=k/\v10=.int .i64 (a:Int)/\v8=.int .i64 ((cls (jB d p a):Nat):Int)/\q.length=n/\Arr wr C 3 (nats (jB d p a))/\Arr wr M 3 (nats q)/\w.grownBy wr none)
 case atStart=>exact⟨0,q,rfl,rfl,by rw[H9.out];rfl,h8.out,HC.out,HM.out,HG.out⟩
 clear HC HM HG h8;obtain⟨a,q,h5,rfl,rfl,a2,hC,hM,hg⟩:=hrel;have d6:a<=k:=by omega
 have b9:=h7.out.to HD.out a d6;have a8:=eI HD.out h7.out a d6;have c5:=Kh (cV HD.out h7.out a d6);obtain⟨pa,c9⟩:=Nm (jB d p a);rw[<-c9]at b9 a8 hC c5⊢;obtain⟨i8,b6,f4,h8,HC,HM⟩:=K6 c9 b9 h5 a2 hC hM;have HG:=Kh hg;have d3:cls pa<=n:=by have:=cls_le pa;rw[b9.len]at this;exact this
 obtain⟨ca,d4⟩:=Nm (cls pa);rw[<-d4]at a8 d3 c5⊢;rw[<-H9.out]at a8 c5;have H3:=Kh d4;have HH:=Kh (H.out.kept hg (by simp) (by simp) (by simp));obtain⟨p0,p1,p2⟩:=tD HH.out.box;rw[<-H8.out]at p1;clear h5 a2 hC hM d4 c9 b9;by_cases h3:a<k
 case neg =>
  have i3:¬(a:Int)<k:=(by omega);have d5:a=k:=by omega
  have i7:Hid (cp=ca->pa=yF d k):=Kh (fun e=>by
   obtain⟨e1,e2⟩:=c5.out e.symm;rw[e1]
   exact h7.out.stable HD.out (fun b hb=>e2 b (by omega)))
  clear hg d5;go_wp2;go_roundg (n-cp)
  case measure=>have:=H0.out;omega
  exact⟨cp,pa,q,by omega,by rw[H3.out],rfl,b6.out,by rw[<-H3.out];exact a8,fun e=>i7.out (by rw[H3.out];exact e),h8.out,HC.out,HM.out,HG.out⟩
 have i3:(a:Int)<k:=(by omega);by_cases h4:ca<=512
 case neg =>
  have i2:¬(ca:Int)<=512:=by omega
  clear hg;go_wp2;go_roundg (n-cp)
  case measure=>have:=H0.out;omega
  exact⟨cp,pa,q,by omega,by rw[H3.out],rfl,b6.out,by rw[<-H3.out];exact a8,fun e=>absurd e (by rw[<-H3.out];omega),h8.out,HC.out,HM.out,HG.out⟩
 have i2:(ca:Int)<=512:=by omega
 have g9:1<=ca:=by rw[H3.out];exact jK (by rw[b6.out.len];omega)
 clear hg;go_wp2;obtain⟨wo2,rfl⟩:=Nm (wr:World);clear p0 p1 p2
 go_loopg [11,64] n (fun gh a11 i wr=>∃s:Nat,gh+s=n/\i=.int .i64 s/\Arr wr C 3 (nats pa)/\Arr wr M 3 (nats (midM d pa q a s))/\w.grownBy wr none)
 case atStart=>exact⟨0,rfl,rfl,HC.out,by rw[show midM d pa q a 0=q by simp[midM]];exact HM.out,HG.out⟩
 clear HC HM HG HH;obtain⟨s,h5,rfl,hC,hM,hg⟩:=hrel;obtain⟨e0,HC,HM,HG⟩:=K4 h5 hC hM hg;have HH:=Kh (H.out.kept hg (by simp) (by simp) (by simp));have h6:pa.length=n:=b6.out.len;have h0:=Kh h6;by_cases hs:s<n
 ·have c0:(s:Int)<n:=by omega
  obtain⟨p0,p1,p2⟩:=tD HH.out.box;rw[<-H8.out]at p1;have cN:=HH.out.nx s a hs h3;have c7:=pI HD.out hs h3;have cC:=Arr.nat hC (nx d s a) (by rw[h6];exact c7);have fM:=hM.frozen s;have cM:=Arr.nat hM s (by rw[eS (by rw[h8.out,h6]) (by omega),h6];exact hs);have g2:=hM.lt;have c3:=qOC (d:=d) (p:=pa) (q:=q) (a:=a) (by rw[h8.out,h6]) (by rw[h6];exact hs);obtain⟨e1,e2,e3,e4,e5⟩:=qEM hs h3 g6 hn;rw[<-H8.out]at e5;obtain⟨X,hX⟩:=Nm (s*k+a);rw[<-hX]at cN e3 e4 e5;obtain⟨Y,hY⟩:=Nm (s*k);rw[<-hY]at e1 e2 e3 e4;obtain⟨t,ht⟩:=Nm (nx d s a);rw[<-ht]at cN cC c7 c3;obtain⟨c,hc⟩:=Nm (pa.getD t 0);rw[<-hc]at cC c3;have j0:=Kh c3;have e5':(X:Int)<nk:=(by exact_mod_cast e5);have f9:(t:Int)<n:=(by exact_mod_cast c7);have g0:nk<=nc:=by rw[H8.out];exact HH.out.ncap.1
  obtain⟨wo3,rfl⟩:=Nm (wr:World);clear hC hM hg hX hY ht hc c3 h5 h6;go_wp2
  go_region
  all_goals (try go_frame)
  all_goals go_wp2
  all_goals
   go_roundg (n-(s+1))
   case measure=>have:=e0.out;clear e1 e2 e3 e4;omega
   have a3:wo3.grownBy (wo3.drew.setCell ⟨M,s,none⟩ (.int .i64 (c:Int))) (some M):=zH (zU wo3 (some M)) (zF wo3.drew ⟨M,s,none⟩ (.int .i64 (c:Int)));refine⟨s+1,by have:=e0.out;clear e1 e2 e3 e4;omega,by go_num,HC.out.kept a3 (fun e=>H7 (Oj e).symm),?_,zC HG.out a3 (fun j e=>by have e:M=j:=Oj e;rw[<-e];exact i0)⟩;rw[<-j0.out];exact(HM.out.of_heap (w':=wo3.drew) rfl).nat_set s (by rw[eS (by rw[h8.out,h0.out]) (by rw[h0.out];exact Nat.le_of_lt hs),h0.out];exact hs) c
 have a1:s=n:=by have:=e0.out;omega
 have c0:¬(s:Int)<n:=(by omega);have j1:Hid (midM d pa q a s=rR d pa a):=Kh (qOD (by rw[h8.out,h6]) (by rw[h6];exact a1));rw[j1.out]at HM
 have b5:Hid (Calls Try.prog 67 #[.slice (some ⟨C,0,none⟩) n n,.slice (some ⟨M,0,none⟩) n n,.int .i64 (ca:Int),.int .i64 (ca:Int)] wr fun e w'=>e=.returned (.int .i64 ((cls (jB d p (a+1)):Nat):Int))/\Arr w' C 3 (nats (jB d p (a+1)))/\wr.grownBy w' (some C)):=Kh (by
  have e9:∀x∈pa,x<ca:=(by rw[H3.out];exact qCH b6.out.norm);have a4:ca<=pa.length:=by rw[H3.out];exact cls_le pa
  have H6:=qLU (d:=d) (a:=a) e9 (by omega);have h9:=qBM wr C M n ca ca pa (rR d pa a) h0.out (by rw[xT,h0.out]) e9 H6 (Nat.le_trans (Nat.mul_le_mul h4 h4) (by decide)) (by omega) (by omega) (by omega) H7 HC.out HM.out;rw[qDZ (by rw[xT]) H6 (fun x hx=>Nat.lt_of_lt_of_le (H6 x hx) a4)]at h9;rw[show jB d p (a+1)=fH pa (rR d pa a) by rw[i8.out];rfl]
  exact h9)
 clear a1 hC hM hg h6 h5;go_wp2_with fail;refine b5.out.mono ?_;rintro e w4 ⟨rfl,b0,H5⟩;have b7:=Kh b0;have c6:=Kh (yM HG.out H5 (by show _<=C;omega));have j2:=Kh (HM.out.kept H5 (fun e=>H7 (Oj e)));obtain⟨cc,H6⟩:=Nm (cls (jB d p (a+1)));rw[<-H6];have a0:=Kh H6;clear b0 H5 H6 b5;go_wp2;go_roundg (k-(a+1))
 case measure=>have:=f4.out;omega
 exact⟨a+1,rR d pa a,by have:=f4.out;omega,by go_num,by rw[a0.out],by rw[xT,h0.out],b7.out,j2.out,c6.out⟩
def rowV (k g:Nat):Value:=.slice (some ⟨g,0,none⟩) k k
structure QB (w0 w:World)(T F N C B k cnt c0:Nat)(p:List Nat)(fs:List Bool)(t:List (List Int))(gs:List Nat):Prop where
 box:w.heap[T]?=some (.cells #[.int .i64 (k:Int),.int .i64 (c0:Int),.slice (some ⟨F,0,none⟩) cnt cnt,.slice (some ⟨N,0,none⟩) cnt cnt] 37 (0,0))
 fa:Arr w F 4 (bls (fs++List.replicate (cnt-fs.length) false))
 na:Arr w N 22 (gs.map (rowV k)++List.replicate (cnt-gs.length) (.slice none 0 0))
 len:gs.length=t.length
 row:∀i,i<t.length->Arr w (gs.getD i 0) 3 (ints (t.getD i []))
 rl:∀i,i<t.length->(t.getD i []).length=k
 glo:∀g∈gs,B<=g
 nd:gs.Nodup
 cl:Arr w C 3 (nats p)
 lo:w0.heap.size<=T/\w0.heap.size<=F/\w0.heap.size<=N/\w0.heap.size<=C
 cB:C<B/\w0.heap.size<=B/\B<=w.heap.size
 grown:w0.grownBy w none
theorem lK {α:Type}{l m:List α}{i:Nat}{d:α}(h:i<l.length):(l++m).getD i d=l.getD i d:=by
 rw[List.getD_eq_getElem?_getD,List.getElem?_append_left h,<-List.getD_eq_getElem?_getD]
theorem qKJ {l:List Nat}(h:l.Nodup){i j:Nat}(hi:i<l.length)(hj:j<l.length)(e:l[i]=l[j]):i=j:=by
 have h1:=h.idxOf_getElem i hi;have h2:=h.idxOf_getElem j hj;rw[e]at h1;omega
section
variable {w0 w w':World} {T F N C B k cnt c0:Nat} {p:List Nat} {fs:List Bool} {t:List (List Int)} {gs:List Nat}
theorem QB.grow (h:QB w0 w T F N C B k cnt c0 p fs t gs)(hg:w.grownBy w' none):QB w0 w' T F N C B k cnt c0 p fs t gs :=
 ⟨zB h.box hg,h.fa.kept hg (by simp),h.na.kept hg (by simp),h.len,fun i hi=>(h.row i hi).kept hg (by simp),h.rl,h.glo,h.nd,h.cl.kept hg (by simp),h.lo,⟨h.cB.1,h.cB.2.1,Nat.le_trans h.cB.2.2 hg.size⟩,zC h.grown hg⟩
theorem QB.box_ne {g e:Nat}{xs:List Value}(h:QB w0 w T F N C B k cnt c0 p fs t gs)(ha:Arr w g e xs)(he:e≠37):g≠T:=ha.type_ne h.box he
theorem bX {g g' e e':Nat}{xs ys:List Value}(h:Arr w g e xs)(h':Arr w g' e' ys)(he:e≠e'):g≠g':=by
 obtain⟨c,r,hc,_⟩:=h';exact h.type_ne hc he
theorem QB.mem (h:QB w0 w T F N C B k cnt c0 p fs t gs){i:Nat}(hi:i<t.length):gs.getD i 0∈gs:=by
 rw[zK (by rw[h.len];exact hi)];exact List.getElem_mem _
theorem QB.setF (h:QB w0 w T F N C B k cnt c0 p fs t gs)(hc:fs.length<cnt)(b:Bool):QB w0 (w.setCell ⟨F,fs.length,none⟩ (.bool b)) T F N C B k cnt c0 p (fs++[b]) t gs:=by
 have hg:=zF w ⟨F,fs.length,none⟩ (.bool b);refine⟨zB h.box hg (fun e=>(h.box_ne h.fa (by decide)) (Oj e)),?_,h.na.kept hg (fun e=>(bX h.na h.fa (by decide)) (Oj e).symm),h.len,fun i hi=>(h.row i hi).kept hg (fun e=>(bX (h.row i hi) h.fa (by decide)) (Oj e).symm),h.rl,h.glo,h.nd,h.cl.kept hg (fun e=>(bX h.cl h.fa (by decide)) (Oj e).symm),h.lo,⟨h.cB.1,h.cB.2.1,Nat.le_trans h.cB.2.2 hg.size⟩,yM h.grown hg (by show _<=F;have:=h.lo;omega)⟩;have h1:=h.fa.bool_set fs.length (by simp;omega) b
 have e:(fs++List.replicate (cnt-fs.length) false).set fs.length b=(fs++[b])++List.replicate (cnt-(fs++[b]).length) false:=by
  rw[List.set_append_right _ _ (Nat.le_refl _),Nat.sub_self];obtain⟨m,hm⟩:∃m,cnt-fs.length=m+1:=⟨cnt-fs.length-1,by omega⟩;rw[hm,List.replicate_succ,List.set_cons_zero,List.append_assoc];congr 1;rw[List.length_append,List.length_singleton,show cnt-(fs.length+1)=m by omega];rfl
 rw[e]at h1;exact h1
theorem QB.setN2 (h:QB w0 w T F N C B k cnt c0 p fs t gs)(hc:gs.length<cnt){g:Nat}(a9:(w.setCell ⟨N,gs.length,none⟩ (rowV k g)).grownBy w' none)(ha:Arr w' g 3 (ints (List.replicate k 0)))(a8:w.heap.size<=g)(hB:B<=w.heap.size):QB w0 w' T F N C B k cnt c0 p fs (t++[List.replicate k 0]) (gs++[g]):=by
 have hg:=zF w ⟨N,gs.length,none⟩ (rowV k g);have h0:∀ {g2 e2:Nat} {xs:List Value},Arr w g2 e2 xs->e2≠22->Arr w' g2 e2 xs:=fun h2 he=>(h2.kept hg (fun e=>(bX h2 h.na he) (Oj e).symm)).kept a9 (by simp);refine⟨zB (zB h.box hg (fun e=>(h.box_ne h.na (by decide)) (Oj e))) a9,h0 h.fa (by decide),?_,by simp[h.len],fun i hi=>?_,fun i hi=>?_,fun x hx=>?_,?_,h0 h.cl (by decide),h.lo,⟨h.cB.1,h.cB.2.1,Nat.le_trans h.cB.2.2 (Nat.le_trans hg.size a9.size)⟩,zC (yM h.grown hg (by show _<=N;have:=h.lo;omega)) a9⟩
 ·have h1:=(h.na.set gs.length (by simp;omega) (rowV k g)).kept a9 (by simp)
  have e:(gs.map (rowV k)++List.replicate (cnt-gs.length) (Value.slice none 0 0)).set gs.length (rowV k g)=(gs++[g]).map (rowV k)++List.replicate (cnt-(gs++[g]).length) (.slice none 0 0):=by
   rw[List.set_append_right _ _ (by simp),List.length_map,Nat.sub_self];obtain⟨m,hm⟩:∃m,cnt-gs.length=m+1:=⟨cnt-gs.length-1,by omega⟩;rw[hm,List.replicate_succ,List.set_cons_zero,List.map_append,List.append_assoc];congr 1;rw[List.length_append,List.length_singleton,show cnt-(gs.length+1)=m by omega];rfl
  rw[e]at h1;exact h1
 ·rw[List.length_append,List.length_singleton]at hi
  by_cases hi2:i<t.length
  ·rw[lK (by rw[h.len];exact hi2),lK hi2]
   exact h0 (h.row i hi2) (by decide)
  have e:i=t.length:=by omega
  subst e;have e1:(gs++[g]).getD t.length 0=g:=by rw[<-h.len,List.getD_eq_getElem?_getD];simp
  have e2:(t++[List.replicate k (0:Int)]).getD t.length []=List.replicate k 0:=by rw[List.getD_eq_getElem?_getD];simp
  rw[e1,e2];exact ha
 ·rw[List.length_append,List.length_singleton]at hi
  by_cases hi2:i<t.length
  ·rw[lK hi2];exact h.rl i hi2
  have e:i=t.length:=by omega
  subst e;have e2:(t++[List.replicate k (0:Int)]).getD t.length []=List.replicate k 0:=by rw[List.getD_eq_getElem?_getD];simp
  rw[e2];simp
 ·rcases List.mem_append.1 hx with hx|hx
  ·exact h.glo x hx
  simp at hx;subst hx;omega
 rw[List.nodup_append];refine⟨h.nd,by simp,fun a ha2 b hb e=>?_⟩;simp at hb;subst hb;subst e;obtain⟨i,hi,e2⟩:=List.getElem_of_mem ha2;have h3:=(h.row i (by rw[<-h.len];exact hi)).lt;rw[zK hi,e2]at h3;omega
theorem QB.setR (h:QB w0 w T F N C B k cnt c0 p fs t gs){i a:Nat}(hi:i<t.length)(ha:a<k)(x:Int):QB w0 (w.setCell ⟨gs.getD i 0,a,none⟩ (.int .i64 x)) T F N C B k cnt c0 p fs (t.set i ((t.getD i []).set a x)) gs:=by
 have hg:=zF w ⟨gs.getD i 0,a,none⟩ (.int .i64 x);have hr:=h.row i hi;have h0:=h.glo _ (h.mem hi);refine⟨zB h.box hg (fun e=>(h.box_ne hr (by decide)) (Oj e)),h.fa.kept hg (fun e=>(bX h.fa hr (by decide)) (Oj e).symm),h.na.kept hg (fun e=>(bX h.na hr (by decide)) (Oj e).symm),by rw[List.length_set];exact h.len,fun j hj=>?_,fun j hj=>?_,h.glo,h.nd,h.cl.kept hg (fun e=>by have e:gs.getD i 0=C:=Oj e;have:=h.cB;omega),h.lo,⟨h.cB.1,h.cB.2.1,Nat.le_trans h.cB.2.2 hg.size⟩,zC h.grown hg (fun j e=>by have e:gs.getD i 0=j:=Oj e;have:=h.cB;omega)⟩
 ·rw[List.length_set]at hj
  by_cases e:i=j
  ·subst e
   have e2:(t.set i ((t.getD i []).set a x)).getD i []=(t.getD i []).set a x:=by rw[List.getD_eq_getElem?_getD];simp[hi]
   rw[e2];exact hr.int_set a (by rw[h.rl i hi];exact ha) x
  have e2:(t.set i ((t.getD i []).set a x)).getD j []=t.getD j []:=by rw[List.getD_eq_getElem?_getD,List.getElem?_set_ne e,<-List.getD_eq_getElem?_getD]
  rw[e2];refine(h.row j hj).kept hg (fun e3=>e ?_);have e3:gs.getD i 0=gs.getD j 0:=Oj e3;rw[zK (by rw[h.len];exact hi),zK (by rw[h.len];exact hj)]at e3;exact qKJ h.nd _ _ e3
 rw[List.length_set]at hj;by_cases e:i=j
 ·subst e
  have e2:(t.set i ((t.getD i []).set a x)).getD i []=(t.getD i []).set a x:=by rw[List.getD_eq_getElem?_getD];simp[hi]
  rw[e2,List.length_set];exact h.rl i hi
 have e2:(t.set i ((t.getD i []).set a x)).getD j []=t.getD j []:=by rw[List.getD_eq_getElem?_getD,List.getElem?_set_ne e,<-List.getD_eq_getElem?_getD]
 rw[e2];exact h.rl j hj
theorem QB.setL {r:List Int}{g a:Nat}(h:QB w0 w T F N C B k cnt c0 p fs (t++[r]) (gs++[g]))(ha:a<k)(x:Int):QB w0 (w.setCell ⟨g,a,none⟩ (.int .i64 x)) T F N C B k cnt c0 p fs (t++[r.set a x]) (gs++[g]):=by
 have hl:=h.len;rw[List.length_append,List.length_append,List.length_singleton,List.length_singleton]at hl;have h1:=h.setR (i:=t.length) (by simp) ha x;have e1:(gs++[g]).getD t.length 0=g:=by rw[show t.length=gs.length by omega,List.getD_eq_getElem?_getD];simp
 have e2:(t++[r]).getD t.length []=r:=by rw[List.getD_eq_getElem?_getD];simp
 rw[e1,e2,List.set_append_right _ _ (Nat.le_refl _),Nat.sub_self,List.set_cons_zero]at h1;exact h1
theorem QB.last {r:List Int}{g:Nat}(h:QB w0 w T F N C B k cnt c0 p fs (t++[r]) (gs++[g]))(hc:gs.length<cnt):Arr w g 3 (ints r)/\w.cell? ⟨N,gs.length,none⟩=some (rowV k g)/\r.length=k:=by
 have hl:=h.len;rw[List.length_append,List.length_append,List.length_singleton,List.length_singleton]at hl;have e1:(gs++[g]).getD t.length 0=g:=by rw[show t.length=gs.length by omega,List.getD_eq_getElem?_getD];simp
 have e2:(t++[r]).getD t.length []=r:=by rw[List.getD_eq_getElem?_getD];simp
 have h1:=h.row t.length (by simp);have h2:=h.rl t.length (by simp);rw[e1,e2]at h1;rw[e2]at h2;refine⟨h1,?_,h2⟩;rw[h.na.cell gs.length (by simp<;>omega),List.getElem_append_left (by simp)];simp
theorem QB.ok (h:QB w0 w T F N C B k cnt c0 p fs t gs)(hf:fs.length=cnt)(ht:t.length=cnt)(a9:cnt<=maxLen)(a8:k<=maxLen):sK w.heap.size w (.agg #[.int .i64 (k:Int),.int .i64 (c0:Int),.slice (some ⟨F,0,none⟩) cnt cnt,.slice (some ⟨N,0,none⟩) cnt cnt]) ⟨k,c0,fs,t⟩:=by
 have h4:=h.fa;have h0:=h.na;rw[hf,Nat.sub_self,List.replicate_zero,List.append_nil]at h4;rw[h.len,ht,Nat.sub_self,List.replicate_zero,List.append_nil]at h0;have h7:(bls fs).length=cnt:=by rw[yB,hf]
 have h5:(gs.map (rowV k)).length=cnt:=by rw[List.length_map,h.len,ht]
 refine⟨_,_,rfl,?_,?_⟩
 ·have:=h4.rowT' (cap:=cnt) (by omega) a9
  rw[h7]at this;exact this.row
 have h1:=h0.rowT' (cap:=cnt) (by omega) a9;rw[h5]at h1;refine Mat.of_rowT h1 ⟨by rw[List.length_map,h.len],fun i h2 h3=>?_⟩ (Nat.le_refl _);have hr:=(h.row i h3).rowT' (cap:=k) (by rw[zN,h.rl i h3];exact Nat.le_refl _) a8;rw[zN,h.rl i h3]at hr;rw[List.getElem_map];have h6:i<gs.length:=by rw[h.len];exact h3
 rw[zK h6,zK h3]at hr;exact hr
end
theorem DfaT.shapes {w:World}{f nx:Value}{d:DfaV}(h:DfaT w f nx d):∃sa n1 c1 sb n2 c2,f=.slice sa n1 c1/\nx=.slice sb n2 c2:=by
 obtain⟨hs,a,b,_⟩:=h;obtain⟨sa,c1,rfl⟩:=a.shape;obtain⟨sb,c2,rfl⟩:=b.shape;exact⟨sa,_,c1,sb,_,c2,rfl,rfl⟩
def MmOk (w:World)(d:DfaV)(k:Nat)(e:Ending)(w':World):Prop:=∃v b,e=.returned (.tuple #[v,.bool b])/\w.grownBy w' none/\((b=true/\minN d k<=512/\∃f nx,v=.agg #[.int .i64 (k:Int),.int .i64 0,f,nx]/\DfaT w' f nx (minD d k))\/(b=false/\512<minN d k/\v=.agg #[.int .i64 0,.int .i64 0,.slice none 0 0,.slice none 0 0]))
theorem qNY (n:Nat)(h:n<=4096):∀w:World,(Instr.makeSlice 35 (.int .i64 (n:Int)) (.int .i64 (n:Int))).run Try.prog w=.ok (.slice (some ⟨w.heap.size,0,none⟩) n n) (w.alloc (.cells (madeCells #[.slice none 0 0] n) 22)) :=
 fun w=>run_make_row' 35 22 (.slice none 0 0) 24 Try.underlying35 (by kernel_rfl) rfl .i64 .i64 n (by omega) (by omega) w
theorem qHS (n:Nat):(madeCells #[.slice none 0 0] n).toList=List.replicate n (.slice none 0 0):=by
 have:=pL (z:=.slice none 0 0) rfl n;rw[Nat.mul_one]at this;exact this
theorem qNZ (n:Nat)(h:n<=4096):∀w:World,(Instr.makeSlice 22 (.int .i64 (n:Int)) (.int .i64 (n:Int))).run Try.prog w=.ok (.slice (some ⟨w.heap.size,0,none⟩) n n) (w.alloc (.cells (madeCells #[.int .i64 0] n) 3)) :=
 fun w=>run_make_row' 22 3 (.int .i64 0) 8 Try.underlying22 (by kernel_rfl) rfl .i64 .i64 n (by omega) (by omega) w
theorem qHT (n:Nat):(madeCells #[.int .i64 0] n).toList=ints (List.replicate n 0):=by
 have:=pL (z:=.int .i64 0) rfl n;rw[Nat.mul_one]at this;rw[qG];exact this
def mrow (d:DfaV)(p:List Nat)(s k a:Nat):List Int:=(uD p (d.next.getD s [])).take a++List.replicate (k-a) 0
theorem qKO (d:DfaV)(p:List Nat)(s k:Nat):mrow d p s k 0=List.replicate k 0:=by simp[mrow]
theorem qKP {d:DfaV}{n k:Nat}(hd:VD d n k){p:List Nat}{s:Nat}(hs:s<n):mrow d p s k k=uD p (d.next.getD s []):=by
 rw[mrow,Nat.sub_self,List.replicate_zero,List.append_nil,List.take_of_length_le (by rw[rM hd hs];exact Nat.le_refl _)]
theorem qNV {d:DfaV}{n k:Nat}(hd:VD d n k){p:List Nat}{s a:Nat}(hs:s<n)(ha:a<k):(mrow d p s k a).set a ((p.getD (nx d s a) 0:Nat):Int)=mrow d p s k (a+1):=by
 have hl:((uD p (d.next.getD s [])).take a).length=a:=by rw[List.length_take,rM hd hs];omega
 obtain⟨m,hm⟩:∃m,k-a=m+1:=⟨k-a-1,by omega⟩;rw[mrow,List.set_append_right _ _ (by omega),hl,Nat.sub_self,hm,List.replicate_succ,List.set_cons_zero,mrow,yD (d:=0) (by rw[rM hd hs];exact ha),qCP hd hs ha,List.append_assoc,show k-(a+1)=m by omega];rfl
theorem gD {w X:World}(h:w.grownBy X none):w.grownBy X.drew none:=zC h (zU X none)
theorem gA {w X:World}(h:w.grownBy X none)(o:Obj):w.grownBy (X.alloc o) none:=mB h o
theorem gS {w X:World}(h:w.grownBy X none){b i:Nat}(u:Value)(hb:w.heap.size<=b):w.grownBy (X.setCell ⟨b,i,none⟩ u) none:=yM h (zF X ⟨b,i,none⟩ u) (by show _<=b;omega)
theorem qTH (w:World)(o1 o2 o3:Obj):(((w.alloc o1).alloc o2).alloc o3).drew.heap[w.heap.size]?=some o1/\(((w.alloc o1).alloc o2).alloc o3).drew.heap[w.heap.size+1]?=some o2/\(((w.alloc o1).alloc o2).alloc o3).drew.heap[w.heap.size+1+1]?=some o3:=by
 have g3:=Ga ((w.alloc o1).alloc o2) o3 none;show (((w.alloc o1).alloc o2).alloc o3).heap[w.heap.size]?=some o1/\(((w.alloc o1).alloc o2).alloc o3).heap[w.heap.size+1]?=some o2/\(((w.alloc o1).alloc o2).alloc o3).heap[w.heap.size+1+1]?=some o3;refine⟨zB (bP w o1 o2) g3,zB (bL w o1 o2) g3,?_⟩;have:=heap_alloc_new ((w.alloc o1).alloc o2) o3
 rwa [zX,zX]at this
theorem qCJ (w:World)(o k n:Nat)(d:DfaV)(nb no nc fb fo fc:Nat)(a6:List Nat)(hd:VD d n k)(hn:n<=4000)(a5:st0 d=0)(hr:∀q,q<n->∃w,xM k w/\run d (st0 d) w=q)(h:MachAt w o k n d nb no nc fb fo fc a6):Calls Try.prog 26 #[.pointer (some ⟨o,0,none⟩)] w (MmOk w d k):=by
 have j7:=qOB hd hr;have m4:=hd.k6;have p4:=hd.k1;have o6:=hd.n1;have o4:=zQ h.box;have m7:=h.fcap.1;have m6:fc<=9223372036854775807:=by have:=h.fcap.2;unfold maxLen at this;omega
 have m2:nc<=9223372036854775807:=by have:=h.ncap.2;unfold maxLen at this;omega
 have d3:=Ga w (.cells #[.int .i64 0,.int .i64 0,.slice none 0 0,.slice none 0 0] 37) none;have c6:=heap_alloc_new w (.cells #[.int .i64 0,.int .i64 0,.slice none 0 0,.slice none 0 0] 37);obtain⟨wA,g1⟩:=Nm (w.alloc (.cells #[.int .i64 0,.int .i64 0,.slice none 0 0,.slice none 0 0] 37));obtain⟨Q,hQ⟩:=Nm w.heap.size;rw[<-g1]at d3 c6;rw[<-hQ]at c6;have H:=Kh (h.kept d3 (by simp) (by simp) (by simp));obtain⟨HD,k8,n4,g6,l2,o3⟩:=K6 hd j7 g1 hQ d3 c6;have n6:=Kh a5;have l4:=Kh (qCO wA o k n d nb no nc fb fo fc a6 hd hn H.out);have p7:Q<wA.heap.size:=zQ c6;clear h hd d3 c6 g1 hQ j7 hr a5;go_enter Try.func26,Try.ntmps26;go_upto_region 1 with fail;rw[<-n4.out,<-g6.out];go_wp2_with fail;refine l4.out.mono ?_;rintro e w1 ⟨p,C,rfl,hC,p9,c3,e7,i1⟩;have b1:=Kh (zC l2.out c3);have a0:=Kh (zB o3.out c3);have H1:=Kh (H.out.kept c3 (by simp) (by simp) (by simp));have n2:w.heap.size<=C:=by have:=l2.out.size;omega
 obtain⟨HC,k4,k3⟩:=K3 hC e7 i1;have c9:=Kh (e7.cls_le HD.out);have p8:Q<w1.heap.size:=by have:=c3.size;omega
 obtain⟨cnt,H7⟩:=Nm (cls p);rw[<-H7]at c9 k3⊢;have h0:=Kh H7;clear hC c3 e7 i1 H7 l4;by_cases h5:cnt<=512
 case neg =>
  have n3:(512:Int)<cnt:=by omega
  have g8:Hid (512<minN d k):=Kh (by rw[k8.out];have:=c9.out;omega);obtain⟨q0,q1,q2,q3⟩:=zM a0.out;have f0:=zA a0.out 0;have f1:=zA a0.out 1;have f2:=zA a0.out 2;have f3:=zA a0.out 3;go_wp2;obtain⟨c5,a2⟩:=tG a0.out (.int .i64 0) (.int .i64 0) (.slice none 0 0) (.slice none 0 0);obtain⟨wz,b3⟩:=Nm ((((w1.setCell ⟨Q,0,none⟩ (.int .i64 0)).setCell ⟨Q,1,none⟩ (.int .i64 0)).setCell ⟨Q,2,none⟩ (.slice none 0 0)).setCell ⟨Q,3,none⟩ (.slice none 0 0));rw[<-b3]at c5 a2⊢;clear b3;obtain⟨r0,r1,r2,r3⟩:=zM c5;clear q0 q1 q2 q3 f0 f1 f2 f3;refine bodyPost_ret (v:=.tuple #[.agg #[.int .i64 0,.int .i64 0,.slice none 0 0,.slice none 0 0],.bool false]) (by simp[results,Try.results26,go_sem,r0,r1,r2,r3]) rfl ?_;exact⟨_,false,rfl,yM b1.out a2 (by show _<=Q;have:=g6.out;omega),.inr ⟨rfl,g8.out,rfl⟩⟩
 have n3:¬(512:Int)<cnt:=by omega
 have k7:Hid (p=yF d k):=Kh (by
  rcases k3.out with h|h
  ·omega
  exact h)
 have g8:Hid (minN d k<=512):=Kh (by rw[k8.out,<-k7.out,<-h0.out];exact h5);have e9:p.length=n:=k4.out.len;have p6:1<=cnt:=by rw[h0.out];exact jK (by omega)
 have cC0:=Arr.nat HC.out 0 (by omega);obtain⟨c0,g0⟩:=Nm (p.getD 0 0);rw[<-g0]at cC0;have o2:=Kh g0;have p3:=qEC cnt (by omega);have o9:=qNY cnt (by omega);have o8:=qNZ k (by omega);have m3:(0:Int)<n:=by omega
 have o7:0<n:=by omega
 obtain⟨wo,rfl⟩:=Nm (w1:World);obtain⟨p0,p1,p2⟩:=tD H1.out.box;have g4:=HC.out.lt;have l9:=zQ H1.out.box;clear g0;have l5:Hid (∀W:World,wo.grownBy W none->W.cell? ⟨o,0,none⟩=some (.int .i64 (k:Int))/\W.cell? ⟨C,0,none⟩=some (.int .i64 (c0:Int))):=Kh (fun W hW=>⟨qQC p0 hW,qQC cC0 hW⟩);go_upto_region 4 with fail;go_cut [6] (fun s6 wx=>∃T F N:Nat,s6=.pointer (some ⟨T,0,none⟩)/\wx.heap[T]?=some (.cells #[.int .i64 (k:Int),.int .i64 (c0:Int),.slice (some ⟨F,0,none⟩) cnt cnt,.slice (some ⟨N,0,none⟩) cnt cnt] 37 (0,0))/\Arr wx F 4 (bls (List.replicate cnt false))/\Arr wx N 22 (List.replicate cnt (.slice none 0 0))/\wo.heap.size<=T/\wo.heap.size<=F/\wo.heap.size<=N/\wo.grownBy wx none)
 case first =>
  go_region_held3 (fun w'=>w'.cell? ⟨o,0,none⟩=some (.int .i64 (k:Int))/\w'.cell? ⟨C,0,none⟩=some (.int .i64 (c0:Int)))
   (first|(refine l5.out _ ?_;repeat(first|exact zV _ _|refine gD ?_|refine gA ?_ _|refine gS ?_ _ (by simp;omega)))|fail) (fail)
  all_goals
   go_wp2_with fail
   go_meet
   obtain⟨h1,h2,h3⟩:=qTH wo _ _ _;refine⟨_,_,_,rfl,by first|exact h1|exact h2|exact h3,⟨_,[],by first|exact h1|exact h2|exact h3,by rw[List.append_nil];exact qCQ cnt⟩,⟨_,[],by first|exact h1|exact h2|exact h3,by rw[List.append_nil];exact qHS cnt⟩,by omega,by omega,by omega,gD (gA (gA (gA (zV _ _) _) _) _)⟩
 obtain⟨T,F,N,rfl,j2,hF,hN,j4,j8,j6,a3⟩:=hcut;obtain⟨B,hB⟩:=Nm wc.heap.size;have d6:=a3.size;have c7:Hid (QB w wc T F N C B k cnt c0 p [] [] []):=Kh ⟨j2,by simpa using hF,by simpa using hN,rfl,fun i hi=>absurd hi (by simp),fun i hi=>absurd hi (by simp),fun g hg=>absurd hg (by simp),by simp,HC.out.kept a3 (by simp),⟨Nat.le_trans b1.out.size j4,Nat.le_trans b1.out.size j8,Nat.le_trans b1.out.size j6,n2⟩,⟨by rw[hB];exact Nat.lt_of_lt_of_le g4 d6,by rw[hB];exact Nat.le_trans b1.out.size d6,by rw[hB];exact Nat.le_refl _⟩,zC b1.out a3⟩;have h8:=Kh (H1.out.kept a3 (by simp) (by simp) (by simp));have k2:=Kh (zB a0.out a3);have j5:Q≠F/\Q≠N/\Q<B:=by omega
 have g5:=Kh j5;clear j5;have i5:o<B/\nb<B/\fb<B:=⟨by rw[hB];exact zQ h8.out.box,by rw[hB];exact h8.out.nlt,by rw[hB];exact h8.out.flt⟩;have a1:o≠T/\o≠F/\o≠N/\nb≠F/\nb≠N/\fb≠F/\fb≠N:=by have:=H1.out.nlt;have:=H1.out.flt;omega
 have a4:=Kh a1;have n7:=Kh i5;clear a1 i5;clear j2 hF hN j4 j8 j6 a3 d6 cC0 l5 p0 p1 p2;go_wp2
 go_loopg [7,8,9,32,67] n (fun gh a7 a8 a9 i a67 wr=>∃(s:Nat) (gs:List Nat),gh+s=n/\i=.int .i64 s/\QB w wr T F N C B k cnt c0 p (mK d p s) (nD d p s) gs/\MachAt wr o k n d nb no nc fb fo fc a6/\wr.heap[Q]?=some (.cells #[.int .i64 0,.int .i64 0,.slice none 0 0,.slice none 0 0] 37 (0,0)))
 case atStart=>exact⟨0,[],rfl,rfl,c7.out,h8.out,k2.out⟩
 clear c7 h8 k2;obtain⟨s,gs,b9,rfl,hq,b7,b2⟩:=hrel;have HZ:=Kh b2;clear b2;have c8:=Kh b9;have HQ:=Kh hq;clear b9;have hg:=hq.grown;have HM:=Kh b7;have H5:=k4.out.norm;by_cases hs:s<n
 ·have l7:(s:Int)<n:=by omega
  have b5:s<p.length:=(by omega);obtain⟨d2,H0,hold⟩:=lZ H5 b5;have H4:=vK H5 s (by omega);have d4:(mK d p s).length=cls (p.take s):=by rw[mK,List.length_map,H4]
  have b4:(nD d p s).length=cls (p.take s):=by rw[nD,List.length_map,H4]
  have c4:p.getD s 0<cnt:=(by rw[h0.out];exact sH H5 b5);have j1:=Arr.nat hq.cl s b5;have b8:gs.length=cls (p.take s):=by rw[hq.len,b4]
  obtain⟨c,hc⟩:=Nm (p.getD s 0);rw[<-hc]at d2 c4 j1 H0 hold;obtain⟨m,hm⟩:=Nm (cls (p.take s));rw[<-hm]at d2 d4 b4 b8 H0 hold;have m8:(c:Int)<cnt:=(by exact_mod_cast c4);have i7:m<=cnt:=by rw[hm,h0.out];exact(rO p s).length_le
  have h4:(gs.map (rowV k)++List.replicate (cnt-gs.length) (Value.slice none 0 0)).length=cnt:=by rw[List.length_append,List.length_map,List.length_replicate,b8];omega
  have cN:=hq.na.cell c (by omega);obtain⟨t0,t1,t2,t3⟩:=zM hq.box;have q6:=Kh hc;have q5:=Kh hm;by_cases hcm:c=m
  case neg =>
   have i9:c<gs.length:=by omega
   have cN2:wr.cell? ⟨N,c,none⟩=some (.slice (some ⟨gs.getD c 0,0,none⟩) k k):=by
    rw[cN,List.getElem_append_left (by simpa using i9)];simp[rowV,List.getD,List.getElem?_eq_getElem i9]
   obtain⟨gg,c1⟩:=Nm (gs.getD c 0);rw[<-c1]at cN2;have a1:p.getD s 0≠cls (p.take s):=(by rw[<-hc,<-hm];exact hcm);have e1:=qCM (d:=d) a1;have e2:=qCK (d:=d) a1;have E1:=Kh e1;have E2:=Kh e2;clear hcm a1 e1 e2 c1 cN d4 b4 b8 H0 hold hc hm d2 h4 i7 hq hg H5 H4 b5;go_wp2;go_roundg (n-(s+1))
   case measure=>have:=c8.out;omega
   exact⟨s+1,gs,by have:=c8.out;omega,by go_num,by rw[E1.out,E2.out];exact HQ.out,HM.out,HZ.out⟩
  obtain rfl:c=m:=hcm;have e1:=qCN (d:=d) (p:=p) (i:=s) (by rw[<-hc,<-hm]);have e2:=qCL (d:=d) (p:=p) (i:=s) (by rw[<-hc,<-hm])
  have cN2:wr.cell? ⟨N,c,none⟩=some (.slice none 0 0):=by
   rw[cN,List.getElem_append_right (by simp;omega)];simp
  have cFb:=hq.fa.bool c (by simp;omega);have fF:=hq.fa.frozen c;have g3:=hq.fa.lt;have cf:=b7.fin s hs;obtain⟨p0,p1,p2⟩:=tD b7.box;obtain⟨b,hb⟩:=Nm (d.final.getD s false);rw[<-hb]at cf e1;have E1:=Kh e1;have E2:=Kh e2;obtain⟨nk,f5⟩:=Nm (n*k);rw[<-f5]at p1;obtain⟨d5,l3,q4,b0⟩:=K4 f5 d4 b4 b8;obtain⟨wo2,rfl⟩:=Nm (wr:World);clear e1 e2 cN d4 b4 b8 H0 hold hc hm d2 h4 i7 hq hg H5 H4 b5 hb b7 f5;go_upto_region 9 with fail
  go_region
  all_goals (try go_frame)
  have h9:=(HQ.out.setF (by rw[l3.out];exact c4) b).grow (zU _ none);rw[l3.out,<-E1.out]at h9;have H6:wo2.grownBy (wo2.setCell ⟨F,c,none⟩ (.bool b)).drew (some F):=zH (zF wo2 ⟨F,c,none⟩ (.bool b)) (zU _ _);have b6:=HM.out.kept H6 (fun e=>a4.out.2.1 (Oj e).symm) (fun e=>a4.out.2.2.2.1 (Oj e).symm) (fun e=>a4.out.2.2.2.2.2.1 (Oj e).symm);have d7:=zB HZ.out H6 (fun e=>g5.out.1 (Oj e).symm);obtain⟨w3,i0⟩:=Nm ((wo2.setCell ⟨F,c,none⟩ (.bool b)).drew);rw[<-i0]at h9 b6 d7⊢;obtain⟨k0,g7,l1⟩:=K3 d7 h9 b6
  have cN3:w3.cell? ⟨N,c,none⟩=some (.slice none 0 0):=by
   rw[h9.na.cell c (by simp;have:=b0.out;omega),List.getElem_append_right (by simp;have:=b0.out;omega)];simp
  have fN3:=h9.na.frozen c;have g2:=h9.na.lt;obtain⟨p0,p1,p2⟩:=tD b6.box;rw[<-d5.out]at p1;obtain⟨t0,t1,t2,t3⟩:=zM h9.box;have n0:=zQ h9.box;have m0:=zQ b6.box;clear i0 h9 b6 d7 HZ H6 cN2 cFb fF g3 cf HQ HM j1;go_upto_region 10 with fail
  go_region
  all_goals (try go_frame)
  have c2:=Ga (w3.setCell ⟨N,c,none⟩ (.slice (some ⟨w3.heap.size,0,none⟩) k k)) (.cells (madeCells #[.int .i64 0] k) 3) none;have h6:=zC c2 (zU _ none);have H8:=Arr.new (w3.setCell ⟨N,c,none⟩ (.slice (some ⟨w3.heap.size,0,none⟩) k k)) 3 (madeCells #[.int .i64 0] k);rw[qHT,show (w3.setCell ⟨N,c,none⟩ (.slice (some ⟨w3.heap.size,0,none⟩) k k)).heap.size=w3.heap.size by simp[World.setCell]]at H8;have H2:w3.grownBy ((w3.setCell ⟨N,c,none⟩ (.slice (some ⟨w3.heap.size,0,none⟩) k k)).alloc (.cells (madeCells #[.int .i64 0] k) 3)).drew (some N):=zH (zF w3 ⟨N,c,none⟩ _) (wU h6);obtain⟨w4,d8⟩:=Nm (((w3.setCell ⟨N,c,none⟩ (.slice (some ⟨w3.heap.size,0,none⟩) k k)).alloc (.cells (madeCells #[.int .i64 0] k) 3)).drew);have h7:Arr w4 w3.heap.size 3 (ints (List.replicate k 0)):=(by rw[d8];exact H8.of_heap rfl);rw[<-d8]at H2 h6⊢;obtain⟨g,hg⟩:=Nm w3.heap.size;rw[<-hg]at h7 h6;have e8:=g7.out.setN2 (w':=w4) (g:=g) (by rw[b0.out];exact c4) (by rw[b0.out];exact h6) h7 (by omega) g7.out.cB.2.2;have f6:=l1.out.kept H2 (fun e=>a4.out.2.2.1 (Oj e).symm) (fun e=>a4.out.2.2.2.2.1 (Oj e).symm) (fun e=>a4.out.2.2.2.2.2.2 (Oj e).symm);rw[<-qKO d p s k]at e8;have k5:=Kh e8;have l0:=Kh f6;have j9:=Kh (zB k0.out H2 (fun e=>g5.out.2.1 (Oj e).symm));obtain⟨p0,p1,p2⟩:=tD f6.box;clear k0 d8 c2 h6 H8 h7 H2 e8 f6 g7 l1 cN3 fN3 g2 t0 t1 t2 t3 n0 m0 hg;go_wp2;clear p0 p1 p2;obtain⟨wo3,rfl⟩:=Nm (w4:World)
  go_loopg [9,67] k (fun gh a9 i wr=>∃a:Nat,gh+a=k/\i=.int .i64 a/\QB w wr T F N C B k cnt c0 p (mK d p (s+1)) (nD d p s++[mrow d p s k a]) (gs++[g])/\MachAt wr o k n d nb no nc fb fo fc a6/\wr.heap[Q]?=some (.cells #[.int .i64 0,.int .i64 0,.slice none 0 0,.slice none 0 0] 37 (0,0)))
  case atStart=>exact⟨0,rfl,rfl,k5.out,l0.out,j9.out⟩
  clear k5 l0 j9;obtain⟨a,b9,rfl,hq,hm,b2⟩:=hrel;have HZ:=Kh b2;clear b2;obtain⟨H9,HQ,HM⟩:=K3 b9 hq hm;clear b9;by_cases ha:a<k
  ·have m9:(a:Int)<k:=by exact_mod_cast ha
   obtain⟨d0,j0,i3⟩:=hq.last (by rw[b0.out];exact c4);rw[b0.out]at j0;unfold rowV at j0;obtain⟨p0,p1,p2⟩:=tD hm.box;rw[<-d5.out]at p1;obtain⟨t0,t1,t2,t3⟩:=zM hq.box;have cX:=hm.nx s a hs ha;have e0:=pI HD.out hs ha;have cC:=Arr.nat hq.cl (nx d s a) (by rw[e9];exact e0);have fg:=d0.frozen a;have cg:=d0.int a (by rw[i3];exact ha);have m5:=d0.lt;have d1:=qNV HD.out (p:=p) hs ha;obtain⟨e1,e2,e3,e4,e5⟩:=qEM hs ha m4 hn;rw[<-d5.out]at e5;obtain⟨X,hX⟩:=Nm (s*k+a);rw[<-hX]at cX e3 e4 e5;obtain⟨Y,hY⟩:=Nm (s*k);rw[<-hY]at e1 e2 e3 e4;obtain⟨t,ht⟩:=Nm (nx d s a);rw[<-ht]at cX cC e0 d1;obtain⟨v,hv⟩:=Nm (p.getD t 0);rw[<-hv]at cC d1;have n8:=Kh d1;have e5':(X:Int)<nk:=(by exact_mod_cast e5);have l6:(t:Int)<n:=(by exact_mod_cast e0);have m1:nk<=nc:=by rw[d5.out];exact HM.out.ncap.1
   obtain⟨wo4,rfl⟩:=Nm (wr:World);clear d0 i3 hq hm hX hY ht hv d1;go_wp2
   go_region
   all_goals (try go_frame)
   all_goals go_wp2
   all_goals
    go_roundg (k-(a+1))
    case measure=>have:=H9.out;clear e1 e2 e3 e4;omega
    have c1:wo4.grownBy (wo4.setCell ⟨g,a,none⟩ (.int .i64 (v:Int))).drew (some g):=zH (zF wo4 ⟨g,a,none⟩ _) (zU _ _);have p5:=HQ.out.glo g (by simp);have o5:=n7.out;clear e1 e2 e3 e4;exact⟨a+1,by have:=H9.out;omega,by go_num,by rw[<-n8.out];exact(HQ.out.setL ha v).grow (zU _ none),HM.out.kept c1 (fun e=>by have:=Oj e;omega) (fun e=>by have:=Oj e;omega) (fun e=>by have:=Oj e;omega),zB HZ.out c1 (fun e=>by have:=Oj e;have:=g5.out;omega)⟩
  have j3:a=k:=by have:=H9.out;omega
  have m9:¬(a:Int)<k:=(by omega);have HE:Hid (nD d p s++[mrow d p s k a]=nD d p (s+1)):=Kh (by rw[j3,qKP HD.out hs,E2.out]);rw[HE.out]at HQ;clear j3 hq hm;go_wp2;go_roundg (n-(s+1))
  case measure=>have:=c8.out;omega
  exact⟨s+1,gs++[g],by have:=c8.out;omega,by go_num,HQ.out,HM.out,HZ.out⟩
 have i2:s=n:=by have:=c8.out;omega
 have l7:¬(s:Int)<n:=(by omega);have H4:=vK H5 s (by omega);have f8:cls (p.take s)=cnt:=by rw[h0.out,List.take_of_length_le (by omega)]
 have f4:=hq.ok (by rw[mK,List.length_map,H4,f8]) (by rw[nD,List.length_map,H4,f8]) (by unfold maxLen;omega) (by unfold maxLen;omega)
 have i4:(⟨(k:Int),(c0:Int),mK d p s,nD d p s⟩:DfaV)=wQ d p:=by
  rw[wQ,n6.out,<-o2.out,HD.out.hk,reps,e9,<-i2];rfl
 rw[i4]at f4;have d9:=aU HD.out e9 H5;rw[<-h0.out]at d9;have g9:=Kh (qFV wr.heap.size wr _ (wQ d p) cnt k (Nat.le_refl _) f4 d9 h5);have i6:minD (wQ d p) k=minD d k:=by rw[k7.out];exact minQ HD.out
 rw[i6]at g9;obtain⟨t0,t1,t2,t3⟩:=zM hq.box;have k9:Hid ((minD d k).letters=k/\(minD d k).start=0):=Kh ⟨(kV HD.out).hk,rfl⟩;have o0:=Kh (hg);clear i2 H4 f8 f4 i4 d9 i6 hg hq b7 H5;go_wp2_with fail;refine g9.out.mono ?_;rintro e w9 ⟨v9,rfl,i8,f7⟩;obtain⟨f9,n9,rfl,e6⟩:=i8.t;obtain⟨fa9,fl9,fc9,na9,nl9,nc9,rfl,rfl⟩:=e6.shapes;rw[k9.out.1,k9.out.2];have H3:=Kh (zB HZ.out f7);have n5:=Kh e6;have o1:=Kh (zC o0.out f7);obtain⟨q0,q1,q2,q3⟩:=zM H3.out;have f0:=zA H3.out 0;have f1:=zA H3.out 1;have f2:=zA H3.out 2;have f3:=zA H3.out 3;clear i8 f7 e6 g9 t0 t1 t2 t3;go_wp2;obtain⟨c5,a2⟩:=tG H3.out (.int .i64 (k:Int)) (.int .i64 0) (.slice fa9 fl9 fc9) (.slice na9 nl9 nc9);obtain⟨wz,b3⟩:=Nm ((((w9.setCell ⟨Q,0,none⟩ (.int .i64 (k:Int))).setCell ⟨Q,1,none⟩ (.int .i64 0)).setCell ⟨Q,2,none⟩ (.slice fa9 fl9 fc9)).setCell ⟨Q,3,none⟩ (.slice na9 nl9 nc9));rw[<-b3]at c5 a2⊢;clear b3;obtain⟨r0,r1,r2,r3⟩:=zM c5;clear q0 q1 q2 q3 f0 f1 f2 f3;refine bodyPost_ret (v:=.tuple #[.agg #[.int .i64 (k:Int),.int .i64 0,.slice fa9 fl9 fc9,.slice na9 nl9 nc9],.bool true]) (by simp[results,Try.results26,go_sem,r0,r1,r2,r3]) rfl ?_
 have l8:∀j,some Q=some j->xG w9 4 j/\xG w9 22 j/\xG w9 3 j:=fun j e=>by
  obtain rfl:Q=j:=Oj e;exact⟨⟨_,_,_,H3.out,by decide⟩,⟨_,_,_,H3.out,by decide⟩,⟨_,_,_,H3.out,by decide⟩⟩
 exact⟨_,true,rfl,yM o1.out a2 (by show _<=Q;have:=g6.out;omega),.inl ⟨rfl,g8.out,_,_,rfl,n5.out.kept a2 l8⟩⟩
open Go.Maps
theorem qRH (n:Nat)(h:n<=100000):∀w:World,(Instr.makeSlice 22 (.int .i64 (n:Int)) (.int .i64 (n:Int))).run Try.prog w=.ok (.slice (some ⟨w.heap.size,0,none⟩) n n) (w.alloc (.cells (madeCells #[.int .i64 0] n) 3)) :=
 fun w=>run_make_row' 22 3 (.int .i64 0) 8 Try.underlying22 (by kernel_rfl) rfl .i64 .i64 n (by omega) (by omega) w
def mtab (c:CntV)(n k a q:Nat):List Int:=(List.range (n*k)).map fun t=>if a<t % k\/(t % k=a/\t / k<q) then (kO c (t / k) (t % k):Int) else 0
theorem nX (c:CntV)(n k a q:Nat):(mtab c n k a q).length=n*k:=by simp[mtab]
theorem qHN (c:CntV)(n k:Nat)(hk:0<k):mtab c n k k 0=List.replicate (n*k) 0:=by
 refine List.ext_getElem (by simp[mtab]) fun t h1 h2=>?_;have:=Nat.mod_lt t hk;simp only[mtab,List.getElem_map,List.getElem_range,List.getElem_replicate];rw[if_neg (by omega)]
theorem qHP (c:CntV)(n k a:Nat):mtab c n k (a+1) n=mtab c n k a 0:=by
 refine List.ext_getElem (by simp[mtab]) fun t h1 h2=>?_;rw[nX]at h1;have h0:t / k<n:=Nat.div_lt_of_lt_mul (by rw[Nat.mul_comm];exact h1);simp only[mtab,List.getElem_map,List.getElem_range]
 generalize t / k=Q at h0⊢
 generalize t % k=m
 by_cases h:a<m
 ·rw[if_pos (by omega),if_pos (by omega)]
 rw[if_neg (by omega),if_neg (by omega)]
theorem qHO (c:CntV)(n k:Nat)(hk:0<k):mtab c n k k n=mtab c n k k 0:=by
 refine List.ext_getElem (by simp[mtab]) fun t h1 h2=>?_;have:=Nat.mod_lt t hk;simp only[mtab,List.getElem_map,List.getElem_range];rw[if_neg (by omega),if_neg (by omega)]
theorem qNT {c:CntV}{n k a q:Nat}(ha:a<k)(hq:q<n):(mtab c n k a q).set (q*k+a) (kO c q a:Int)=mtab c n k a (q+1):=by
 refine List.ext_getElem (by simp[mtab]) fun t h1 h2=>?_;rw[List.getElem_set];simp only[mtab,List.getElem_map,List.getElem_range];have hk:0<k:=by omega
 split
 ·rename_i e
  subst e;have e1:(q*k+a) % k=a:=by rw[Nat.mul_comm,Nat.mul_add_mod,Nat.mod_eq_of_lt ha]
  have e2:(q*k+a) / k=q:=by rw[Nat.mul_comm,Nat.mul_add_div hk,Nat.div_eq_of_lt ha,Nat.add_zero]
  rw[e1,e2,if_pos (by omega)]
 rename_i e
 by_cases h:t % k=a/\t / k=q
 ·have:=Nat.div_add_mod t k
  rw[h.1,h.2,Nat.mul_comm]at this;exact absurd this e
 generalize t / k=Q at h⊢
 generalize t % k=m at h⊢
 by_cases h2:a<m\/(m=a/\Q<q)
 ·rw[if_pos h2,if_pos (by omega)]
 rw[if_neg h2,if_neg (by omega)]
theorem qNU {c:CntV}{n k s b:Nat}(hs:s<n)(hb:b<k):(mtab c n k 0 n).getD (s*k+b) 0=(kO c s b:Int):=by
 have hk:0<k:=by omega
 have hl:s*k+b<n*k:=by
  have:(s+1)*k<=n*k:=Nat.mul_le_mul_right k hs;rw[Nat.add_mul,Nat.one_mul]at this;omega
 have e1:(s*k+b) % k=b:=by rw[Nat.mul_comm,Nat.mul_add_mod,Nat.mod_eq_of_lt hb]
 have e2:(s*k+b) / k=s:=by rw[Nat.mul_comm,Nat.mul_add_div hk,Nat.div_eq_of_lt hb,Nat.add_zero]
 rw[zK (by rw[nX];exact hl)];simp only[mtab,List.getElem_map,List.getElem_range];rw[e1,e2,if_pos (by omega)]
theorem qRP {Q:Exit->Act->World->Prop}{v0 v2 v3 v4 v6 v7 v8 v9 j0 j1 j2 j3 j4 j5 j6 j7 j8 j9 i0 i1 i2 i3 l9 k0 k1 k2 k3 k4 k5 k6 k7 k8 k9 i4 i5 i6 i7 i8 i9 g0 g1 g2 g3 g4 g5 g6 g7 f0 f1 f2 f3 f4 f5 f6 f7 f8 f9 e2 e3 e4 e5 e6 e7 e8 e9 d0 d1 d2 d3 d4 d5 d6 d7 d8 d9 c1 c2 c3 c4 c5 c6 c7 c8 c9 b0 b1 b2 b3 b4 b5 b6 b7 b8 a0 a1 a2 a3 a4 a5 a6 a7:Value}{dd:_}{w:World}{P k n aC:Nat}{aA:Option Addr}(c0:w.cell? ⟨P,2,none⟩=some (.slice aA n aC))(hn:n<=2000)(hk:k<=6)(a9:∀(z24 z25 z26 z27 z28 z29 z30 z31 z32 z33 z34:Value) (w':World) (M ng:Nat),w'.heap[M]?=some (.cells #[.int .i64 (k:Int),.slice (some ⟨ng,0,none⟩) (n*k) (n*k),.slice aA n aC] 59 (0,0))->Arr w' ng 3 (ints (List.replicate (n*k) 0))->M≠ng->w.heap.size<=M->w.heap.size<=ng->w.grownBy w' none->Q .normal ⟨(v0::(Value.pointer (some ⟨P,0,none⟩))::v2::v3::v4::(Value.int .i64 (k:Int))::(Value.pointer (some ⟨M,0,none⟩))::v7::v8::v9::j0::j1::j2::j3::j4::j5::j6::j7::j8::j9::i0::i1::i2::i3::z24::z25::z26::z27::z28::z29::z30::z31::z32::z33::z34::i4::i5::i6::i7::i8::i9::g0::g1::g2::g3::g4::g5::g6::g7::f0::f1::f2::f3::f4::f5::f6::f7::f8::f9::e2::e3::e4::e5::e6::e7::e8::e9::d0::d1::d2::d3::d4::d5::d6::d7::d8::d9::c1::c2::c3::c4::c5::c6::c7::c8::c9::b0::b1::b2::b3::b4::b5::b6::b7::b8::a0::a1::a2::a3::a4::a5::a6::a7::[]).toArray,dd⟩ w'):Code.wp Try.prog (reg Try.f13 5) Q ⟨(v0::(Value.pointer (some ⟨P,0,none⟩))::v2::v3::v4::(Value.int .i64 (k:Int))::v6::v7::v8::v9::j0::j1::j2::j3::j4::j5::j6::j7::j8::j9::i0::i1::i2::i3::l9::k0::k1::k2::k3::k4::k5::k6::k7::k8::k9::i4::i5::i6::i7::i8::i9::g0::g1::g2::g3::g4::g5::g6::g7::f0::f1::f2::f3::f4::f5::f6::f7::f8::f9::e2::e3::e4::e5::e6::e7::e8::e9::d0::d1::d2::d3::d4::d5::d6::d7::d8::d9::c1::c2::c3::c4::c5::c6::c7::c8::c9::b0::b1::b2::b3::b4::b5::b6::b7::b8::a0::a1::a2::a3::a4::a5::a6::a7::[]).toArray,dd⟩ w:=by
 have h8:n*k<=12000:=Nat.mul_le_mul hn hk;have e0:(n:Int)*(k:Int)=((n*k:Nat):Int):=by simp
 have e1:IntKind.i64.wrap ((n:Int)*(k:Int))=((n*k:Nat):Int):=by rw[e0];exact wG (by omega)
 obtain⟨N,hN⟩:=Nm (n*k);rw[<-hN]at h8 e1 a9;have h9:=qRH N (by omega);have HE:=Kh a9;have H7:=Kh hN;clear e0 hN a9
 conv=>arg 2;whnf
 obtain⟨w7,h2⟩:=Nm w.drew;have h4:w.grownBy w7 none:=by rw[h2];exact zU w none
 have H3:=Kh h2;have h7:=Kh h4;have C:Hid (w7.cell? ⟨P,2,none⟩=some (.slice aA n aC)):=Kh (zJ c0 h4);clear h2 h4 c0;refine wp_region_noPanic ?_;refine yN (G:=wF 11 (fun W=>W.cell? ⟨P,2,none⟩=some (.slice aA n aC)) (fun _=>True)) (by kernel_rfl) ?_;rw[<-H3.out];refine zO 0 ⟨C.out,fun _=>trivial⟩ ?_;refine zO 1 ⟨C.out,fun _=>trivial⟩ ?_;refine zO 2 ⟨C.out,fun _=>trivial⟩ ?_;refine zO 3 ⟨C.out,fun _=>trivial⟩ ?_;refine zO 4 ⟨C.out,fun _=>trivial⟩ ?_;refine zO 5 ⟨C.out,fun _=>trivial⟩ ?_;refine zO 7 ⟨C.out,fun _=>trivial⟩ ?_;refine zO 8 ⟨C.out,fun _=>trivial⟩ ?_;obtain⟨ng,h3⟩:=Nm w7.heap.size;obtain⟨w8,h0⟩:=Nm (w7.alloc (.cells (madeCells #[.int .i64 0] N) 3));have g8:w7.grownBy w8 none:=by rw[h0];exact Ga w7 _ none
 have a8:Arr w8 ng 3 (ints (List.replicate N 0)):=by
  rw[h0,h3,show ints (List.replicate N 0)=nats (List.replicate N 0) by simp[ints,nats],<-qAK];exact Arr.new w7 3 _
 have z8:w8.heap.size=w7.heap.size+1:=by rw[h0,zX]
 obtain⟨H6,H4,H2,h5,H0⟩:=K5 a8 g8 h0 h3 z8;have C:=Kh (zJ C.out g8);clear h3 h0 g8 a8 z8;refine oneG (i:=6) (by kernel_rfl) rfl (fun K hK=>?_);go_simp;rw[<-H2.out,<-h5.out];refine hK.out _ _ ⟨C.out,fun _=>trivial⟩ ?_;clear hK K h9 e1
 try simp only[Act.put,sPd,sPe,sPf,sPa,sPb,sPc]
 refine zO 9 ⟨C.out,fun _=>trivial⟩ ?_;obtain⟨M,hM⟩:=Nm w8.heap.size;obtain⟨w9,h1⟩:=Nm (w8.alloc (.cells #[.int .i64 (k:Int),.slice (some ⟨ng,0,none⟩) N N,.slice aA n aC] 59));have g9:w8.grownBy w9 none:=by rw[h1];exact Ga w8 _ none
 have b9:=heap_alloc_new w8 (.cells #[.int .i64 (k:Int),.slice (some ⟨ng,0,none⟩) N N,.slice aA n aC] 59);rw[<-h1,<-hM]at b9;obtain⟨H5,h6,H1,HM⟩:=K4 b9 g9 h1 hM;have C:=Kh (zJ C.out g9);clear hM h1 g9 b9;refine oneG (i:=10) (by kernel_rfl) rfl (fun K hK=>?_);go_simp;rw[<-H1.out,<-HM.out];refine hK.out _ _ ⟨C.out,fun _=>trivial⟩ ?_;clear hK K
 try simp only[Act.put,sPd,sPe,sPf,sPa,sPb,sPc]
 refine oneG (i:=11) (by kernel_rfl) rfl (fun K hK=>?_);go_simp;refine hK.out _ _ ⟨C.out,fun _=>trivial⟩ ?_;clear hK K
 try simp only[Act.put,sPd,sPe,sPf,sPa,sPb,sPc]
 refine rE (by kernel_rfl) ?_ _;refine NoPanic.normal ?_;have z1:=h5.out;have z2:=HM.out;have z3:=H0.out;have z4:=h7.out.size;exact HE.out _ _ _ _ _ _ _ _ _ _ _  w9 M ng H5.out (H6.out.kept h6.out (by simp)) (by omega) (by omega) (by omega) (zC (zC h7.out H4.out) h6.out)
end Go.Proofs.Ytobakifdllameaa
namespace Go.Proofs.Ytobakifdllameaa
open Go.RowKit
def qSA (c:CntV)(w:World)(e:Ending)(w':World):Prop :=
 ((∃z:Int,e=.returned (.tuple #[.agg #[.int .i64 0,.int .i64 0,.slice none 0 0,.slice none 0 0],.int .i64 z])/\((z=cntE c/\cntE c≠0)\/(z=3/\CntOk c/\512<minN (dfaC c) c.idx.length))) \/
 ∃f nx,e=.returned (.tuple #[.agg #[.int .i64 (c.idx.length:Int),.int .i64 0,f,nx],.int .i64 0])/\CntOk c/\minN (dfaC c) c.idx.length<=512/\DfaT w' f nx (minD (dfaC c) c.idx.length))/\w.grownBy w' none
def qMK (c:CntV)(z:Int)(m:DfaV):Prop:=(m=qQI/\((z=cntE c/\cntE c≠0)\/(z=3/\CntOk c/\512<minN (dfaC c) c.idx.length)))\/(z=0/\m=minD (dfaC c) c.idx.length/\CntOk c/\minN (dfaC c) c.idx.length<=512)
theorem qSA.out {c:CntV}{w w':World}{e:Ending}(h:qSA c w e w'):∃z m,qRZ w z m e w'/\qMK c z m:=by
 obtain⟨⟨z,rfl,h1⟩|⟨f,nx,rfl,h1,h2,h3⟩,hg⟩:=h
 ·exact⟨z,qQI,⟨_,_,rfl,DfaT.zero _,hg⟩,.inl ⟨rfl,h1⟩⟩
 have hv:=kV (jJ h1);have e1:(minD (dfaC c) c.idx.length).letters=(c.idx.length:Int):=hv.hk;have e2:(minD (dfaC c) c.idx.length).start=0:=rfl;exact⟨0,_,⟨f,nx,by rw[e1,e2],h3,hg⟩,.inr ⟨rfl,rfl,h1,h2⟩⟩
theorem qMK.same {c:CntV}{z z':Int}{m m':DfaV}(h:qMK c z m)(h':qMK c z' m'):z=z'/\m=m':=by
 rcases h with ⟨rfl,h⟩|⟨rfl,rfl,h1,h2⟩<;>rcases h' with ⟨rfl,h'⟩|⟨rfl,rfl,h1',h2'⟩
 ·refine⟨?_,rfl⟩
  rcases h with ⟨rfl,h⟩|⟨rfl,h,h3⟩<;>rcases h' with ⟨rfl,h'⟩|⟨rfl,h',h3'⟩
  ·rfl
  ·exact absurd (kY.2 h') h
  ·exact absurd (kY.2 h) h'
  rfl
 ·rcases h with ⟨rfl,h⟩|⟨rfl,h,h3⟩
  ·exact absurd (kY.2 h1') h
  omega
 ·rcases h' with ⟨rfl,h⟩|⟨rfl,h,h3⟩
  ·exact absurd (kY.2 h1) h
  omega
 exact⟨rfl,rfl⟩
open Go.Maps
section
variable {I:SynI} {w6 w:World} {o k pg:Nat} {hsP:List Value} {Ls js:List Nat} {sI:Option Addr} {cI:Nat} {sP:Option Addr} {cP:Nat} {ag c:Nat} {xs:List Bool}
theorem CoS.begin {w':World}(h:CoS I w6 o k pg hsP Ls js sI cI sP cP (.slice none 0 0) [] w)(hg:w.grownBy w' none)(ho:w'.ownsRow w.heap.size 4 1 (.slice (some ⟨ag,0,none⟩) c c) c (bls xs)):CoS I w6 o k pg hsP Ls js sI cI sP cP (.slice (some ⟨ag,0,none⟩) c c) [⟨w6.heap.size,4,.slice (some ⟨ag,0,none⟩) c c,c,bls xs,1⟩] (w'.setCell ⟨o,2,none⟩ (.slice (some ⟨ag,0,none⟩) c c)):=by
 obtain⟨X,hB,hT⟩:=h;have hA:=hB.add hg (e:=4) (sz:=1) (n:=c) (v:=.slice (some ⟨ag,0,none⟩) c c) (xs:=bls xs) ho (by decide);have hS:=hA.set 2 (.slice (some ⟨ag,0,none⟩) c c);exact⟨X,hS.rebase,hT.kept hS.kept hS.wk⟩
theorem CoS.putM (h:CoS I w6 o k pg hsP Ls js sI cI sP cP (.slice (some ⟨ag,0,none⟩) c c) [⟨w6.heap.size,4,.slice (some ⟨ag,0,none⟩) c c,c,bls xs,1⟩] w){i:Nat}(hi:i<c)(u:Bool):CoS I w6 o k pg hsP Ls js sI cI sP cP (.slice (some ⟨ag,0,none⟩) c c) [⟨w6.heap.size,4,.slice (some ⟨ag,0,none⟩) c c,c,bls (xs.set i u),1⟩] (w.setCell ⟨ag,i,none⟩ (.bool u)):=by
 obtain⟨X,hB,hT⟩:=h;have hP:=hB.put (j:=3) rfl hi (.bool u);rw[show (bls xs).set i (.bool u)=bls (xs.set i u) by simp[bls,List.map_set]]at hP;exact⟨X,hP.rebase,hT.kept hP.kept hP.wk⟩
theorem CoS.arrM (h:CoS I w6 o k pg hsP Ls js sI cI sP cP (.slice (some ⟨ag,0,none⟩) c c) [⟨w6.heap.size,4,.slice (some ⟨ag,0,none⟩) c c,c,bls xs,1⟩] w):Arr w ag 4 (bls xs)/\xs.length=c:=by
 obtain⟨X,hB,hT⟩:=h;have h1:=hB.own (r:=⟨w6.heap.size,4,.slice (some ⟨ag,0,none⟩) c c,c,bls xs,1⟩) (by simp);exact⟨Arr.of_owns h1,by have:=h1.1;simpa [bls] using this⟩
theorem CoS.cntT (h:CoS I w6 o k pg hsP Ls js sI cI sP cP (.slice (some ⟨ag,0,none⟩) c c) [⟨w6.heap.size,4,.slice (some ⟨ag,0,none⟩) c c,c,bls xs,1⟩] w):RowT w.heap.size 3 w (.slice sI Ls.length cI) (nats js)/\RowT w.heap.size 3 w (.slice sP Ls.length cP) (nats (perL Ls js))/\RowT w.heap.size 4 w (.slice (some ⟨ag,0,none⟩) c c) (bls xs):=by
 obtain⟨_,_,_,h2,h3⟩:=h.cells;obtain⟨X,hB,hT⟩:=h;have h1:=hB.own (r:=⟨w6.heap.size,4,.slice (some ⟨ag,0,none⟩) c c,c,bls xs,1⟩) (by simp);exact⟨RowT.of_owns h2,RowT.of_owns h3,RowT.of_owns h1⟩
end
theorem gV (I:SynI)(Ls:List Nat)(k c:Nat):(iE I Ls k c c).length=c:=by simp[iE]
theorem qFH.make {I:SynI}{Ls js:List Nat}{k c:Nat}(hk:k=I.images.length)(h:PowsR I Ls js k)(hc:vQ (vO js) (vO (perL Ls js)) k=some c):qFH I ⟨vO js,vO (perL Ls js),iE I Ls k c c⟩:=by
 subst hk;exact⟨Ls,js,h,rfl,rfl,by rw[hc,gV],by simp only[gV];exact qKY _ _ _ _⟩
theorem qRM {Q:Exit->Act->World->Prop}{v0 v2 v3 v4 v6 v7 v8 v9 n7 n8 n9 m0 m1 m2 m3 m4 m5 m6 m7 m8 m9 l0 l1 l2 l3 l4 l5 l6 l7 l8 l9 k0 k1 k2 k3 k4 k5 k6 k7 k8 k9 j0 j1 j2 j3 j4 j5 j6 j7 j8 j9 i0 i1 i2 i3 i4 i5 i6 i7 i8 i9 g0 g1 g2 g3 g4 g5 g6 g7 g8 g9 f0 f1 f2 f3 f4 f5 f6 f7 f8 e0 e1 e2 e3 e4 e5 e6 e7 e8 e9 d0 d1 d2 d3 d4 d5 c9 b0 b1 b2 b3 b4 b5 b6 b7 b8 b9 a0 a1 a2 a3 a4 a5 a6 a7 d7 d8 d9 c2 c3 c4 c5 c6 c7 a8 a9:Value}{I:SynI}{w6 w:World}{o k pg:Nat}{n6:List Value}{Ls js:List Nat}{sI:Option Addr}{cI:Nat}{sP:Option Addr}{cP:Nat}{ag c:Nat}{xs:List Bool}{P i v ab ao an aC:Nat}{b:Bool}(h:CoS I w6 o k pg n6 Ls js sI cI sP cP (.slice (some ⟨ag,0,none⟩) c c) [⟨w6.heap.size,4,.slice (some ⟨ag,0,none⟩) c c,c,bls xs,1⟩] w)(hi:i<c)(n5:c<=2000)(hv:v<an)(n4:an<=400)(d6:an<=aC/\aC<=maxLen)(c0:w.cell? ⟨P,4,none⟩=some (.slice (some ⟨ab,ao,none⟩) an aC))(c1:w.cell? ⟨ab,ao+v,none⟩=some (.bool b))(c8:∀(z119 z120 z121 z122 z123 z124 z125 z126 z127:Value) (w':World),CoS I w6 o k pg n6 Ls js sI cI sP cP (.slice (some ⟨ag,0,none⟩) c c) [⟨w6.heap.size,4,.slice (some ⟨ag,0,none⟩) c c,c,bls (xs.set i b),1⟩] w'->Q .normal ⟨(v0::(Value.pointer (some ⟨P,0,none⟩))::v2::v3::v4::(Value.pointer (some ⟨o,0,none⟩))::v6::v7::v8::v9::n7::n8::n9::(Value.int .i64 (i:Int))::m0::(Value.int .i64 (v:Int))::m1::m2::m3::m4::m5::m6::m7::m8::m9::l0::l1::l2::l3::l4::l5::l6::l7::l8::l9::k0::k1::k2::k3::k4::k5::k6::k7::k8::k9::j0::j1::j2::j3::j4::j5::j6::j7::j8::j9::i0::i1::i2::i3::i4::i5::i6::i7::i8::i9::g0::g1::g2::g3::g4::g5::g6::g7::g8::g9::f0::f1::f2::f3::f4::f5::f6::f7::f8::e0::e1::e2::e3::e4::e5::e6::e7::e8::e9::d0::d1::d2::d3::d4::d5::c9::b0::b1::b2::b3::b4::b5::b6::b7::b8::b9::a0::a1::a2::a3::a4::a5::a6::a7::z119::z120::z121::z122::z123::z124::z125::z126::z127::a8::a9::[]).toArray,[]⟩ w'):Code.wp Try.prog (reg Try.f16 29) Q ⟨(v0::(Value.pointer (some ⟨P,0,none⟩))::v2::v3::v4::(Value.pointer (some ⟨o,0,none⟩))::v6::v7::v8::v9::n7::n8::n9::(Value.int .i64 (i:Int))::m0::(Value.int .i64 (v:Int))::m1::m2::m3::m4::m5::m6::m7::m8::m9::l0::l1::l2::l3::l4::l5::l6::l7::l8::l9::k0::k1::k2::k3::k4::k5::k6::k7::k8::k9::j0::j1::j2::j3::j4::j5::j6::j7::j8::j9::i0::i1::i2::i3::i4::i5::i6::i7::i8::i9::g0::g1::g2::g3::g4::g5::g6::g7::g8::g9::f0::f1::f2::f3::f4::f5::f6::f7::f8::e0::e1::e2::e3::e4::e5::e6::e7::e8::e9::d0::d1::d2::d3::d4::d5::c9::b0::b1::b2::b3::b4::b5::b6::b7::b8::b9::a0::a1::a2::a3::a4::a5::a6::a7::d7::d8::d9::c2::c3::c4::c5::c6::c7::a8::a9::[]).toArray,[]⟩ w:=by
 obtain⟨h8,_,_,_,_⟩:=h.cells;obtain⟨h4,h5⟩:=h.arrM
 have h0:∀W:World,w.grownBy W none->W.cell? ⟨o,2,none⟩=some (.slice (some ⟨ag,0,none⟩) c c)/\W.cell? ⟨P,4,none⟩=some (.slice (some ⟨ab,ao,none⟩) an aC)/\W.cell? ⟨ab,ao+v,none⟩=some (.bool b):=fun W hg=>by
  have q2:=zG (zB h8 hg) 2;simp only[List.getElem_toArray,List.getElem_cons_zero,List.getElem_cons_succ]at q2;exact⟨q2,zJ c0 hg,zJ c1 hg⟩
 have h1:∀W:World,w.grownBy W none->∃u,W.cell? ⟨ag,i,none⟩=some u:=fun W hg=>⟨_,(h4.kept hg (by simp)).cell i (by rw[yB,h5];exact hi)⟩;have h7:∀W:World,w.grownBy W none->W.frozen? ⟨ag,i,none⟩=false:=fun W hg=>(h4.kept hg (by simp)).frozen i;obtain⟨H,H3,H2⟩:=K3 h h1 h7;have H6:(i:Int)<c:=by omega
 have H5:(v:Int)<an:=by omega
 have H0:=d6.1;have h9:aC<=9223372036854775807:=by have:=d6.2;unfold maxLen at this;omega
 clear h h8 h4 h1 h7 c0 c1 d6 h5;have H4:Hid (∀W:World,w.grownBy W none->W.cell? ⟨o,2,none⟩=some (.slice (some ⟨ag,0,none⟩) c c)/\W.cell? ⟨P,4,none⟩=some (.slice (some ⟨ab,ao,none⟩) an aC)/\W.cell? ⟨ab,ao+v,none⟩=some (.bool b)):=Kh (fun W hg=>h0 W hg);clear h0
 conv=>arg 2;whnf
 obtain⟨w7,h3⟩:=Nm w.drew;have h6:w.grownBy w7 none:=by rw[h3];exact zU w none
 have H1:=Kh h3;have h2:=Kh h6;clear h3 h6;refine wp_region_noPanic ?_;refine yN (G:=wF 9 (fun _=>True) (fun W=>W.cell? ⟨o,2,none⟩=some (.slice (some ⟨ag,0,none⟩) c c)/\W.cell? ⟨P,4,none⟩=some (.slice (some ⟨ab,ao,none⟩) an aC)/\W.cell? ⟨ab,ao+v,none⟩=some (.bool b))) (by kernel_rfl) ?_;rw[<-H1.out];have C:=Kh (H4.out w7 h2.out);refine zO 0 ⟨trivial,fun _=>C.out⟩ ?_;refine xD 1 ⟨trivial,fun _=>C.out⟩ ?_;refine zO 2 ⟨trivial,fun _=>C.out⟩ ?_;refine zO 3 ⟨trivial,fun _=>C.out⟩ ?_;refine xD 4 ⟨trivial,fun _=>C.out⟩ ?_;refine zO 5 ⟨trivial,fun _=>C.out⟩ ?_;refine zO 6 ⟨trivial,fun _=>C.out⟩ ?_;refine xD 7 ⟨trivial,fun _=>C.out⟩ ?_;refine zO 8 ⟨trivial,fun _=>C.out⟩ ?_;obtain⟨u9,q9⟩:=H3.out w7 h2.out;have f9:=H2.out w7 h2.out;refine oneG (i:=9) (by kernel_rfl) rfl (fun K hK=>?_);go_simp;refine hK.out _ _ ⟨trivial,fun h=>by simp at h⟩ ?_;clear hK K q9 f9
 try simp only[Act.put,sPd,sPe,sPf,sPa,sPb,sPc]
 refine rE (by kernel_rfl) ?_ _;refine NoPanic.normal ?_;exact c8 _ _ _ _ _ _ _ _ _  _ ((H.out.grow h2.out).putM hi _)
end Go.Proofs.Ytobakifdllameaa
