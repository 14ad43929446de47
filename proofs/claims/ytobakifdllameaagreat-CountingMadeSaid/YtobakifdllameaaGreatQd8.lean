/- Part 8 of the proof. -/
import Derived.Test.YtobakifdllameaaGreatQd7
import Derived.BigRegion
import Derived.Deep.OwnRows
set_option linter.unusedVariables false
set_option linter.unusedSimpArgs false
set_option maxRecDepth 100000
set_option maxHeartbeats 16000000
namespace Go.Proofs.YtobakifdllameaaGreat
open Go.RowKit
theorem tB {w:World}{p e:Nat}{x0 x1 x2:Value}{m:Nat×Nat}(h:w.heap[p]?=some (.cells #[x0,x1,x2] e m)):w.cell? ⟨p,0,none⟩=some x0/\w.cell? ⟨p,1,none⟩=some x1/\w.cell? ⟨p,2,none⟩=some x2:=by
 have c0:=zH h 0;have c1:=zH h 1;have c2:=zH h 2;exact⟨by simpa using c0,by simpa using c1,by simpa using c2⟩
theorem qQL {w w':World}{p:Addr}{u:Value}(h:w.cell? p=some u)(hg:w.grownBy w' none):w'.cell? p=some u:=(World.cell?_of_block (hg.block p.block (World.block_lt_of_cell? w p h) (by simp))).trans h
theorem qEL {s k a n:Nat}(hs:s<n)(ha:a<k)(hk:k<=6)(hn:n<=4000):IntKind.i64.wrap ((s:Int)*(k:Int))=((s*k:Nat):Int)/\wrap64 ((s:Int)*(k:Int))=((s*k:Nat):Int)/\IntKind.i64.wrap (((s*k:Nat):Int)+(a:Int))=((s*k+a:Nat):Int)/\wrap64 (((s*k:Nat):Int)+(a:Int))=((s*k+a:Nat):Int)/\s*k+a<n*k:=by
 have h1:s*k<=4000*6:=Nat.mul_le_mul (by omega) hk;have e:(s:Int)*(k:Int)=((s*k:Nat):Int):=by simp
 have h2:s*k+k<=n*k:=by rw[<-Nat.succ_mul];exact Nat.mul_le_mul_right k hs
 rw[e]
 generalize s*k=Y at h1 h2⊢
 have e2:(Y:Int)+(a:Int)=((Y+a:Nat):Int):=by omega
 rw[e2];exact⟨xJ (by omega),IntWalk.wrap64_in _ (by omega),xJ (by omega),IntWalk.wrap64_in _ (by omega),by omega⟩
def mrkN (d:DfaV)(n k:Nat):List Nat:=(List.range n).map fun s=>if s<k/\d.final.getD s false=true then 1 else 0
theorem pD (d:DfaV)(n k:Nat):(mrkN d n k).length=n:=by simp[mrkN]
theorem qKO (d:DfaV)(n:Nat):mrkN d n 0=List.replicate n 0:=by
 refine List.ext_getElem (by simp[mrkN]) fun i h1 h2=>by simp[mrkN]
theorem qNU {d:DfaV}{n k:Nat}(hk:k<n)(h:d.final.getD k false=true):(mrkN d n k).set k 1=mrkN d n (k+1):=by
 refine List.ext_getElem (by simp[mrkN]) fun i h1 h2=>?_;rw[List.getElem_set];simp only[mrkN,List.getElem_map,List.getElem_range]
 split
 ·rename_i e;subst e;rw[if_pos ⟨by omega,h⟩]
 rename_i e
 by_cases hi:i<k/\d.final.getD i false=true
 ·rw[if_pos hi,if_pos ⟨by omega,hi.2⟩]
 rw[if_neg hi,if_neg (fun h'=>hi ⟨by omega,h'.2⟩)]
theorem qRP {d:DfaV}{n k:Nat}(h:d.final.getD k false=false):mrkN d n k=mrkN d n (k+1):=by
 refine List.map_congr_left fun i hi=>?_;by_cases hi:i<k/\d.final.getD i false=true
 ·rw[if_pos hi,if_pos ⟨by omega,hi.2⟩]
 rw[if_neg hi,if_neg (fun h'=>by
  by_cases e:i=k
  ·subst e;rw[h]at h';cases h'.2
  exact hi ⟨by omega,h'.2⟩)]
theorem qLD {d:DfaV}{n k:Nat}(hd:VD d n k):numb (qL 2 (List.replicate n 0) (mrkN d n n))=nM d:=by
 have hl:(qL 2 (List.replicate n 0) (mrkN d n n)).length=n:=by rw[rG (by rw[pD];simp)];simp
 refine lU _ _ (by rw[hl,List.length_map,hd.hn]) fun i j hi hj=>?_;rw[hl]at hi hj
 have key:∀i (hi:i<n),(qL 2 (List.replicate n 0) (mrkN d n n))[i]'(by rw[hl];exact hi)=if d.final.getD i false=true then 1 else 0:=fun i hi=>by
  simp[qL,mrkN,hi]
 have key2:∀i (hi:i<n),(d.final.map finB)[i]'(by rw[List.length_map,hd.hn];exact hi)=finB (d.final.getD i false):=fun i hi=>by
  rw[zN (show i<d.final.length by rw[hd.hn];exact hi)];simp
 rw[key i hi,key j hj,key2 i hi,key2 j hj];cases d.final.getD i false<;>cases d.final.getD j false<;>simp[finB]
def midM (d:DfaV)(p q:List Nat)(a j:Nat):List Nat:=(rL d p a).take j++q.drop j
theorem eO {d:DfaV}{p q:List Nat}{a j:Nat}(h:q.length=p.length)(hj:j<=p.length):(midM d p q a j).length=p.length:=by simp[midM,xS,h];omega
theorem qOA {d:DfaV}{p q:List Nat}{a j:Nat}(h:q.length=p.length)(hj:j<p.length):(midM d p q a j).set j (p.getD (nx d j a) 0)=midM d p q a (j+1):=by
 have hl:((rL d p a).take j).length=j:=by rw[List.length_take,xS];omega
 rw[midM,List.set_append_right _ _ (by omega),hl,Nat.sub_self,midM,yB (d:=0) (by rw[xS];omega),List.append_assoc,oT hj];rw[List.drop_eq_getElem_cons (show j<q.length by omega),List.set_cons_zero];rfl
theorem qOB {d:DfaV}{p q:List Nat}{a j:Nat}(h:q.length=p.length)(hj:j=p.length):midM d p q a j=rL d p a:=by
 subst hj;rw[midM,List.drop_of_length_le (by omega),List.append_nil,List.take_of_length_le (by rw[xS];exact Nat.le_refl _)]
theorem qLP {d:DfaV}{p:List Nat}{a:Nat}{c:Nat}(h:∀x∈p,x<c)(h0:0<c):∀x∈rL d p a,x<c:=fun x hx=>by
 simp only[rL,List.mem_map,List.mem_range]at hx
 obtain⟨q,_,rfl⟩:=hx
 exact sV h h0
theorem qCE {p:List Nat}(h:Norm p):∀x∈p,x<cls p:=fun x hx=>by
 obtain⟨i,hi,rfl⟩:=List.getElem_of_mem hx
 have:=sC h hi
 rwa [zN hi]at this
structure MachAt (w:World)(o k n:Nat)(d:DfaV)(nb no nc fb fo fc:Nat)(nxs:List Nat):Prop where
 box:w.heap[o]?=some (.cells #[.int .i64 (k:Int),.slice (some ⟨nb,no,none⟩) (n*k) nc,.slice (some ⟨fb,fo,none⟩) n fc] 123 (0,0))
 nx:∀s a,s<n->a<k->w.cell? ⟨nb,no+(s*k+a),none⟩=some (.int .i64 ((nx d s a:Nat):Int))
 fin:∀s,s<n->w.cell? ⟨fb,fo+s,none⟩=some (.bool (d.final.getD s false))
 nlt:nb<w.heap.size
 flt:fb<w.heap.size
 ncap:n*k<=nc/\nc<=maxLen
 fcap:n<=fc/\fc<=maxLen
theorem MachAt.kept {w w':World}{o k n:Nat}{d:DfaV}{nb no nc fb fo fc:Nat}{a9:List Nat}{row:Option Nat}(h:MachAt w o k n d nb no nc fb fo fc a9)(hg:w.grownBy w' row)(h1:row≠some o)(h2:row≠some nb)(h3:row≠some fb):MachAt w' o k n d nb no nc fb fo fc a9 :=
 ⟨zB h.box hg h1,fun s a hs ha=>(World.cell?_of_block (hg.block _ h.nlt (fun e=>h2 e.symm))).trans (h.nx s a hs ha),fun s hs=>(World.cell?_of_block (hg.block _ h.flt (fun e=>h3 e.symm))).trans (h.fin s hs),Nat.lt_of_lt_of_le h.nlt hg.size,Nat.lt_of_lt_of_le h.flt hg.size,h.ncap,h.fcap⟩
theorem qCN (w:World)(o k n:Nat)(d:DfaV)(nb no nc fb fo fc:Nat)(a9:List Nat)(hd:VD d n k)(hn:n<=4000)(h:MachAt w o k n d nb no nc fb fo fc a9):Calls Tryz.prog 102 #[.pointer (some ⟨o,0,none⟩)] w fun e w'=>∃(p:List Nat) (g:Nat),e=.returned (.tuple #[.slice (some ⟨g,0,none⟩) n n,.int .i64 ((cls p:Nat):Int)])/\Arr w' g 3 (nats p)/\w.heap.size<=g/\w.grownBy w' none/\SeqI d n k p/\(512<cls p\/p=yK d k):=by
 have H:=Kh h;have HD:=Kh hd;have g6:=hd.k6;have j6:=hd.k1;have j5:=hd.n1;have j3:=zR h.box;have j4:=h.nlt;have j7:=h.flt;have g8:=h.fcap.1;have g7:fc<=9223372036854775807:=by have:=h.fcap.2;unfold maxLen at this;omega
 have g1:nc<=9223372036854775807:=by have:=h.ncap.2;unfold maxLen at this;omega
 obtain⟨p0,p1,p2⟩:=tB h.box;obtain⟨nk,d1⟩:=Nm (n*k);rw[<-d1]at p1;have H8:=Kh d1;clear h hd d1;go_enter Tryz.func102,Tryz.ntmps102;go_upto_region 2 with (first|(at_make;refine qG rfl _ _ _ rfl yH rfl .i64 .i64 _ _ n rfl rfl rfl rfl ?b1 ?b2 ?_;(case b1=>omega);(case b2=>(unfold maxLen;omega));intro w1 d8 d2 g4)|fail);have H1:=Kh (H.out.kept d2 (by simp) (by simp) (by simp));obtain⟨p0,p1,p2⟩:=tB H1.out.box;rw[<-H8.out]at p1;obtain⟨C,hC⟩:=Nm w.heap.size;rw[<-hC]at d8⊢;obtain⟨f8,f6,HC⟩:=K3 d8 d2 hC;have f0:w.heap.size<=C:=by omega
 have i1:C<w1.heap.size:=by omega
 clear d8 d2 hC;go_upto_region 3 with (first|(at_make;refine qG rfl _ _ _ rfl yH rfl .i64 .i64 _ _ n rfl rfl rfl rfl ?b3 ?b4 ?_;(case b3=>omega);(case b4=>(unfold maxLen;omega));intro w2 d7 c4 g3)|fail);have H2:=Kh (H1.out.kept c4 (by simp) (by simp) (by simp));obtain⟨p0,p1,p2⟩:=tB H2.out.box;rw[<-H8.out]at p1;obtain⟨M,hM⟩:=Nm w1.heap.size;rw[<-hM]at d7⊢;have H7:C≠M:=by omega
 have i0:w.heap.size<=M:=by omega
 have f7:=Kh d7;have b8:=Kh (f8.out.kept c4 (by simp));have f5:=Kh (zC f6.out c4);clear d7 c4 f8 f6 hM H1;go_wp2_with fail
 go_loopg [6,7,29] n (fun gh a6 a7 i wr=>∃s:Nat,gh+s=n/\i=.int .i64 s/\Arr wr C 3 (nats (List.replicate n 0))/\Arr wr M 3 (nats (mrkN d n s))/\w.grownBy wr none)
 case atStart=>exact⟨0,rfl,rfl,by rw[yN];exact b8.out,by rw[qKO,yN];exact f7.out,f5.out⟩
 clear f7 b8 f5 p0 p1 p2 H2;obtain⟨s,h5,rfl,hc,hm,hg⟩:=hrel;obtain⟨H0,a0,HM,HG⟩:=K4 h5 hc hm hg;have HH:=Kh (H.out.kept hg (by simp) (by simp) (by simp));clear h5;by_cases hs:s<n
 ·have c0:(s:Int)<n:=by omega
  have c1:=HH.out.fin s hs;have H4:=qNU (d:=d) hs;have d0:=qRP (d:=d) (n:=n) (k:=s);obtain⟨b,hb⟩:=Nm (d.final.getD s false);rw[<-hb]at c1 H4 d0;have f1:=hm.frozen s;have c2:=Arr.nat hm s (by rw[pD];exact hs);have g2:=hm.lt;have d9:=Kh H4;have i9:=Kh d0;clear hb hc hm hg H4 d0;cases b with
  | true =>
   go_wp2;go_roundg (n-(s+1))
   case measure=>have:=H0.out;omega
   have a3:=zF wr ⟨M,s,none⟩ (.int .i64 1);refine⟨s+1,by have:=H0.out;omega,by go_num,a0.out.kept a3 (fun e=>H7 (Oj e).symm),?_,yG HG.out a3 (by show _<=M;omega)⟩;rw[<-d9.out (by first|rfl|trivial)];exact HM.out.nat_set s (by rw[pD];exact hs) 1
  | false =>
   go_wp2;go_roundg (n-(s+1))
   case measure=>have:=H0.out;omega
   exact⟨s+1,by have:=H0.out;omega,by go_num,a0.out,by rw[<-i9.out (by first|rfl|trivial)];exact HM.out,HG.out⟩
 have a1:s=n:=by have:=H0.out;omega
 have c0:¬(s:Int)<n:=by omega
 have b5:Hid (Calls Tryz.prog 132 #[.slice (some ⟨C,0,none⟩) n n,.slice (some ⟨M,0,none⟩) n n,.int .i64 1,.int .i64 2] wr fun e w'=>e=.returned (.int .i64 ((cls (nM d):Nat):Int))/\Arr w' C 3 (nats (nM d))/\wr.grownBy w' (some C)):=Kh (by
  have h9:=qBI wr C M n 1 2 (List.replicate n 0) (mrkN d n n) (by simp) (pD _ _ _) (fun x hx=>by have:=(List.mem_replicate.1 hx).2;omega) (fun x hx=>by
   simp only[mrkN,List.mem_map]at hx;obtain⟨y,_,rfl⟩:=hx
   split<;>omega) (by omega) (by omega) (by omega) (by omega) H7 a0.out (by have:=HM.out;rw[a1]at this;exact this)
  rw[qLD HD.out]at h9
  exact h9)
 have f3:Hid (∃q:List Nat,q.length=n/\Arr wr M 3 (nats q)):=Kh ⟨_,pD _ _ _,HM.out⟩;clear a1 hc hm hg HM a0;go_wp2_with fail;refine b5.out.mono ?_;rintro e w4 ⟨rfl,b0,H5⟩;have b7:=Kh b0;have c6:=Kh (yG HG.out H5 (by show _<=C;omega));obtain⟨q,hq,e7⟩:=f3.out;have f2:=Kh (e7.kept H5 (fun e=>H7 (Oj e)));have HQ:=Kh hq;have a5:=SeqI.start HD.out;obtain⟨pp,e8⟩:=Nm (nM d);rw[<-e8]at b7 a5⊢;have h7:=Kh a5;clear b0 H5 hq e7 e8 a5 f3 b5 HG H0 hs c0;go_upto_region 11 with fail
 go_loopg [8,9,10,11,64] n (fun gh v8 v9 a10 a11 i64_ wr=>∃(bf:Nat) (p q:List Nat),gh+bf=n/\v8=.int .i64 ((cls p:Nat):Int)/\v9=.int .i64 (bf:Int)/\SeqI d n k p/\bf<=cls p/\(bf=cls p->p=yK d k)/\q.length=n/\Arr wr C 3 (nats p)/\Arr wr M 3 (nats q)/\w.grownBy wr none)
 case atStart=>exact⟨0,pp,q,rfl,rfl,rfl,h7.out,Nat.zero_le _,fun e=>absurd e.symm (Nat.ne_of_gt (jE (by rw[h7.out.len];omega))),HQ.out,b7.out,f2.out,c6.out⟩
 clear h7 b7 f2 c6 HQ;obtain⟨bf,p,q,h5,rfl,rfl,c8,g5,e6,a2,hC,hM,hg⟩:=hrel;obtain⟨H0,h7,i6,h8,HC,HM⟩:=K6 h5 c8 e6 a2 hC hM;have HG:=Kh hg;have a5:cls p<=n:=by have:=cls_le p;rw[c8.len]at this;exact this
 obtain⟨cp,a4⟩:=Nm (cls p);rw[<-a4]at g5 a5⊢;have H9:=Kh a4;clear h5 c8 e6 a2 hC hM a4;by_cases h1:bf<cp
 case neg =>
  have i5:¬(bf:Int)<cp:=(by omega);have HP:Hid (p=yK d k):=Kh (i6.out (by rw[<-H9.out];omega));clear hg;go_wp2;refine bodyPost_ret (v:=.tuple #[.slice (some ⟨C,0,none⟩) n n,.int .i64 (cp:Int)]) (by simp[results,Tryz.results102,go_sem]) rfl ?_;exact⟨p,C,by rw[H9.out],HC.out,f0,HG.out,h7.out,.inr HP.out⟩
 have i5:(bf:Int)<cp:=(by omega);by_cases h2:cp<=512
 case neg =>
  have i4:¬(cp:Int)<=512:=by omega
  clear hg;go_wp2;refine bodyPost_ret (v:=.tuple #[.slice (some ⟨C,0,none⟩) n n,.int .i64 (cp:Int)]) (by simp[results,Tryz.results102,go_sem]) rfl ?_;exact⟨p,C,by rw[H9.out],HC.out,f0,HG.out,h7.out,.inl (by rw[<-H9.out];omega)⟩
 have i4:(cp:Int)<=512:=by omega
 clear hg;go_wp2;obtain⟨wo,rfl⟩:=Nm (wr:World)
 go_loopg [8,10,11,64] k (fun gh v8 v10 a11 i64_ wr=>∃(a:Nat) (q:List Nat),gh+a=k/\v10=.int .i64 (a:Int)/\v8=.int .i64 ((cls (kT d p a):Nat):Int)/\q.length=n/\Arr wr C 3 (nats (kT d p a))/\Arr wr M 3 (nats q)/\w.grownBy wr none)
 case atStart=>exact⟨0,q,rfl,rfl,by rw[H9.out];rfl,h8.out,HC.out,HM.out,HG.out⟩
 clear HC HM HG h8;obtain⟨a,q,h5,rfl,rfl,a2,hC,hM,hg⟩:=hrel;have d6:a<=k:=by omega
 have b9:=h7.out.to HD.out a d6;have a8:=eB HD.out h7.out a d6;have c5:=Kh (dY HD.out h7.out a d6);obtain⟨pa,c9⟩:=Nm (kT d p a);rw[<-c9]at b9 a8 hC c5⊢;obtain⟨i8,b6,f4,h8,HC,HM⟩:=K6 c9 b9 h5 a2 hC hM;have HG:=Kh hg;have d3:cls pa<=n:=by have:=cls_le pa;rw[b9.len]at this;exact this
 obtain⟨ca,d4⟩:=Nm (cls pa);rw[<-d4]at a8 d3 c5⊢;rw[<-H9.out]at a8 c5;have H3:=Kh d4;have HH:=Kh (H.out.kept hg (by simp) (by simp) (by simp));obtain⟨p0,p1,p2⟩:=tB HH.out.box;rw[<-H8.out]at p1;clear h5 a2 hC hM d4 c9 b9;by_cases h3:a<k
 case neg =>
  have i3:¬(a:Int)<k:=(by omega);have d5:a=k:=by omega
  have i7:Hid (cp=ca->pa=yK d k):=Kh (fun e=>by
   obtain⟨e1,e2⟩:=c5.out e.symm;rw[e1]
   exact h7.out.stable HD.out (fun b hb=>e2 b (by omega)))
  clear hg d5;go_wp2;go_roundg (n-cp)
  case measure=>have:=H0.out;omega
  exact⟨cp,pa,q,by omega,by rw[H3.out],rfl,b6.out,by rw[<-H3.out];exact a8,fun e=>i7.out (by rw[H3.out];exact e),h8.out,HC.out,HM.out,HG.out⟩
 have i3:(a:Int)<k:=(by omega);by_cases h4:ca<=512
 case neg =>
  have i2:¬(ca:Int)<=512:=by omega
  clear hg;go_wp2;go_roundg (n-cp)
  case measure=>have:=H0.out;omega
  exact⟨cp,pa,q,by omega,by rw[H3.out],rfl,b6.out,by rw[<-H3.out];exact a8,fun e=>absurd e (by rw[<-H3.out];omega),h8.out,HC.out,HM.out,HG.out⟩
 have i2:(ca:Int)<=512:=by omega
 have g9:1<=ca:=by rw[H3.out];exact jE (by rw[b6.out.len];omega)
 clear hg;go_wp2;obtain⟨wo2,rfl⟩:=Nm (wr:World);clear p0 p1 p2
 go_loopg [11,64] n (fun gh a11 i wr=>∃s:Nat,gh+s=n/\i=.int .i64 s/\Arr wr C 3 (nats pa)/\Arr wr M 3 (nats (midM d pa q a s))/\w.grownBy wr none)
 case atStart=>exact⟨0,rfl,rfl,HC.out,by rw[show midM d pa q a 0=q by simp[midM]];exact HM.out,HG.out⟩
 clear HC HM HG HH;obtain⟨s,h5,rfl,hC,hM,hg⟩:=hrel;obtain⟨e0,HC,HM,HG⟩:=K4 h5 hC hM hg;have HH:=Kh (H.out.kept hg (by simp) (by simp) (by simp));have h6:pa.length=n:=b6.out.len;have h0:=Kh h6;by_cases hs:s<n
 ·have c0:(s:Int)<n:=by omega
  obtain⟨p0,p1,p2⟩:=tB HH.out.box;rw[<-H8.out]at p1;have cN:=HH.out.nx s a hs h3;have c7:=pB HD.out hs h3;have cC:=Arr.nat hC (nx d s a) (by rw[h6];exact c7);have fM:=hM.frozen s;have cM:=Arr.nat hM s (by rw[eO (by rw[h8.out,h6]) (by omega),h6];exact hs);have g2:=hM.lt;have c3:=qOA (d:=d) (p:=pa) (q:=q) (a:=a) (by rw[h8.out,h6]) (by rw[h6];exact hs);obtain⟨e1,e2,e3,e4,e5⟩:=qEL hs h3 g6 hn;rw[<-H8.out]at e5;obtain⟨X,hX⟩:=Nm (s*k+a);rw[<-hX]at cN e3 e4 e5;obtain⟨Y,hY⟩:=Nm (s*k);rw[<-hY]at e1 e2 e3 e4;obtain⟨t,ht⟩:=Nm (nx d s a);rw[<-ht]at cN cC c7 c3;obtain⟨c,hc⟩:=Nm (pa.getD t 0);rw[<-hc]at cC c3;have j0:=Kh c3;have e5':(X:Int)<nk:=(by exact_mod_cast e5);have f9:(t:Int)<n:=(by exact_mod_cast c7);have g0:nk<=nc:=by rw[H8.out];exact HH.out.ncap.1
  obtain⟨wo3,rfl⟩:=Nm (wr:World);clear hC hM hg hX hY ht hc c3 h5 h6;go_wp2
  go_region
  all_goals (try go_frame)
  all_goals go_wp2
  all_goals
   go_roundg (n-(s+1))
   case measure=>have:=e0.out;clear e1 e2 e3 e4;omega
   have a3:wo3.grownBy (wo3.drew.setCell ⟨M,s,none⟩ (.int .i64 (c:Int))) (some M):=zG (zS wo3 (some M)) (zF wo3.drew ⟨M,s,none⟩ (.int .i64 (c:Int)));refine⟨s+1,by have:=e0.out;clear e1 e2 e3 e4;omega,by go_num,HC.out.kept a3 (fun e=>H7 (Oj e).symm),?_,zC HG.out a3 (fun j e=>by have e:M=j:=Oj e;rw[<-e];exact i0)⟩;rw[<-j0.out];exact(HM.out.of_heap (w':=wo3.drew) rfl).nat_set s (by rw[eO (by rw[h8.out,h0.out]) (by rw[h0.out];exact Nat.le_of_lt hs),h0.out];exact hs) c
 have a1:s=n:=by have:=e0.out;omega
 have c0:¬(s:Int)<n:=(by omega);have j1:Hid (midM d pa q a s=rL d pa a):=Kh (qOB (by rw[h8.out,h6]) (by rw[h6];exact a1));rw[j1.out]at HM
 have b5:Hid (Calls Tryz.prog 132 #[.slice (some ⟨C,0,none⟩) n n,.slice (some ⟨M,0,none⟩) n n,.int .i64 (ca:Int),.int .i64 (ca:Int)] wr fun e w'=>e=.returned (.int .i64 ((cls (kT d p (a+1)):Nat):Int))/\Arr w' C 3 (nats (kT d p (a+1)))/\wr.grownBy w' (some C)):=Kh (by
  have e9:∀x∈pa,x<ca:=(by rw[H3.out];exact qCE b6.out.norm);have a4:ca<=pa.length:=by rw[H3.out];exact cls_le pa
  have H6:=qLP (d:=d) (a:=a) e9 (by omega);have h9:=qBI wr C M n ca ca pa (rL d pa a) h0.out (by rw[xS,h0.out]) e9 H6 (Nat.le_trans (Nat.mul_le_mul h4 h4) (by decide)) (by omega) (by omega) (by omega) H7 HC.out HM.out;rw[qEB (by rw[xS]) H6 (fun x hx=>Nat.lt_of_lt_of_le (H6 x hx) a4)]at h9;rw[show kT d p (a+1)=fE pa (rL d pa a) by rw[i8.out];rfl]
  exact h9)
 clear a1 hC hM hg h6 h5;go_wp2_with fail;refine b5.out.mono ?_;rintro e w4 ⟨rfl,b0,H5⟩;have b7:=Kh b0;have c6:=Kh (yG HG.out H5 (by show _<=C;omega));have j2:=Kh (HM.out.kept H5 (fun e=>H7 (Oj e)));obtain⟨cc,H6⟩:=Nm (cls (kT d p (a+1)));rw[<-H6];have a0:=Kh H6;clear b0 H5 H6 b5;go_wp2;go_roundg (k-(a+1))
 case measure=>have:=f4.out;omega
 exact⟨a+1,rL d pa a,by have:=f4.out;omega,by go_num,by rw[a0.out],by rw[xS,h0.out],b7.out,j2.out,c6.out⟩
theorem RowT.len_le {B e:Nat}{w:World}{v:Value}{xs:List Value}(h:RowT B e w v xs):xs.length<=maxLen:=h.row.len_le
theorem Mat.of_rowT {w:World}{B e:Nat}{v:Value}{hs:List Value}{t:List (List Int)}(h:RowT B e w v hs)(hr:tP B 3 ints w hs t)(hB:B<=w.heap.size):Mat w.heap.size w v t:=by
 have h0:=hr.1;rcases h with ⟨rfl,rfl⟩|⟨b,off,cap,cur,m,rfl,hb,hc1,hc2,hg,hcell⟩
 ·exact .inl ⟨_,_,rfl,List.eq_nil_of_length_eq_zero (by simpa using h0.symm)⟩
 have h3:∀x,∃a c,x<t.length->hs.getD x (.int .i64 0)=.slice a (t.getD x []).length c:=by
  intro x;by_cases hx:x<t.length
  ·have h1:=hr.2 x (by omega) hx
   obtain⟨a,c,e⟩:=h1.shape;refine⟨a,c,fun _=>?_⟩;rw[zN (by omega),e,zJ,zN hx]
  exact⟨none,0,fun h=>absurd h hx⟩
 obtain⟨A,hA⟩:=Classical.axiomOfChoice h3;obtain⟨C,hC⟩:=Classical.axiomOfChoice hA;refine .inr ⟨b,off,cap,A,C,by rw[h0],by omega,hc2,zR hg,zR hg,fun x hx=>?_,fun x hx=>?_⟩
 ·rw[cell_of_row w b (off+x) _ _ _ hg,hcell x (by omega),<-hC x hx,zN (show x<hs.length by omega)]
 have h1:=hr.2 x (by omega) hx;have h2:=hC x hx;rw[zN (show x<hs.length by omega)]at h2;rw[<-h2,zN hx];exact h1.row.mono hB
def DfaT (w:World)(f nx:Value)(d:DfaV):Prop:=∃hs,RowT w.heap.size 4 w f (bls d.final)/\RowT w.heap.size 22 w nx hs/\tP w.heap.size 3 ints w hs d.next
section
variable {w w':World} {f nx:Value} {d:DfaV}
theorem DfaT.kept {row:Option Nat}(h:DfaT w f nx d)(hg:w.grownBy w' row)(h1:∀k,row=some k->xG w 4 k/\xG w 22 k/\xG w 3 k):DfaT w' f nx d:=by
 obtain⟨hs,a,b,c⟩:=h;exact⟨hs,(a.kept hg (fun k hk=>.inr (h1 k hk).1)).mono hg.size,(b.kept hg (fun k hk=>.inr (h1 k hk).2.1)).mono hg.size,(c.kept hg (fun k hk=>.inr (h1 k hk).2.2)).mono hg.size⟩
theorem DfaT.grow (h:DfaT w f nx d)(hg:w.grownBy w' none):DfaT w' f nx d:=h.kept hg (by simp)
theorem DfaT.zero (w:World):DfaT w (.slice none 0 0) (.slice none 0 0) qIH:=⟨[],.inl ⟨rfl,rfl⟩,.inl ⟨rfl,rfl⟩,tP.nil⟩
theorem DfaT.ok (h:DfaT w f nx d):tR w.heap.size w (.agg #[.int .i64 d.letters,.int .i64 d.start,f,nx]) d:=by
 obtain⟨hs,a,b,c⟩:=h;exact⟨_,_,rfl,a.row,Mat.of_rowT b c (Nat.le_refl _)⟩
end
theorem tW.t {w w':World}{v:Value}{m:DfaV}(h:tW w w' v m):∃f nx,v=.agg #[.int .i64 m.letters,.int .i64 m.start,f,nx]/\DfaT w' f nx m:=by
 obtain⟨o,hs,sf,cf,sn,cn,rfl,_,hb⟩:=h;exact⟨_,_,rfl,hs,RowT.of_owns hb.ownF,RowT.of_owns hb.ownN,hb.rows⟩
def qSG (w:World)(E:Int)(m:DfaV)(e:Ending)(w':World):Prop:=∃f nx,e=.returned (.tuple #[.agg #[.int .i64 m.letters,.int .i64 m.start,f,nx],.int .i64 E])/\DfaT w' f nx m/\w.grownBy w' none
def rowV (k g:Nat):Value:=.slice (some ⟨g,0,none⟩) k k
structure QB (w0 w:World)(T F N C B k cnt c0:Nat)(p:List Nat)(fs:List Bool)(t:List (List Int))(gs:List Nat):Prop where
 box:w.heap[T]?=some (.cells #[.int .i64 (k:Int),.int .i64 (c0:Int),.slice (some ⟨F,0,none⟩) cnt cnt,.slice (some ⟨N,0,none⟩) cnt cnt] 29 (0,0))
 fa:Arr w F 4 (bls (fs++List.replicate (cnt-fs.length) false))
 na:Arr w N 22 (gs.map (rowV k)++List.replicate (cnt-gs.length) (.slice none 0 0))
 len:gs.length=t.length
 row:∀i,i<t.length->Arr w (gs.getD i 0) 3 (ints (t.getD i []))
 rl:∀i,i<t.length->(t.getD i []).length=k
 glo:∀g∈gs,B<=g
 nd:gs.Nodup
 cl:Arr w C 3 (nats p)
 lo:w0.heap.size<=T/\w0.heap.size<=F/\w0.heap.size<=N/\w0.heap.size<=C
 cB:C<B/\w0.heap.size<=B/\B<=w.heap.size
 grown:w0.grownBy w none
theorem lH {α:Type}{l m:List α}{i:Nat}{d:α}(h:i<l.length):(l++m).getD i d=l.getD i d:=by
 rw[List.getD_eq_getElem?_getD,List.getElem?_append_left h,<-List.getD_eq_getElem?_getD]
theorem qKI {l:List Nat}(h:l.Nodup){i j:Nat}(hi:i<l.length)(hj:j<l.length)(e:l[i]=l[j]):i=j:=by
 have h1:=h.idxOf_getElem i hi;have h2:=h.idxOf_getElem j hj;rw[e]at h1;omega
section
variable {w0 w w':World} {T F N C B k cnt c0:Nat} {p:List Nat} {fs:List Bool} {t:List (List Int)} {gs:List Nat}
theorem QB.grow (h:QB w0 w T F N C B k cnt c0 p fs t gs)(hg:w.grownBy w' none):QB w0 w' T F N C B k cnt c0 p fs t gs :=
 ⟨zB h.box hg,h.fa.kept hg (by simp),h.na.kept hg (by simp),h.len,fun i hi=>(h.row i hi).kept hg (by simp),h.rl,h.glo,h.nd,h.cl.kept hg (by simp),h.lo,⟨h.cB.1,h.cB.2.1,Nat.le_trans h.cB.2.2 hg.size⟩,zC h.grown hg⟩
theorem QB.box_ne {g e:Nat}{xs:List Value}(h:QB w0 w T F N C B k cnt c0 p fs t gs)(ha:Arr w g e xs)(he:e≠29):g≠T:=ha.type_ne h.box he
theorem bT {g g' e e':Nat}{xs ys:List Value}(h:Arr w g e xs)(h':Arr w g' e' ys)(he:e≠e'):g≠g':=by
 obtain⟨c,r,hc,_⟩:=h';exact h.type_ne hc he
theorem QB.mem (h:QB w0 w T F N C B k cnt c0 p fs t gs){i:Nat}(hi:i<t.length):gs.getD i 0∈gs:=by
 rw[zN (by rw[h.len];exact hi)];exact List.getElem_mem _
theorem QB.setF (h:QB w0 w T F N C B k cnt c0 p fs t gs)(hc:fs.length<cnt)(b:Bool):QB w0 (w.setCell ⟨F,fs.length,none⟩ (.bool b)) T F N C B k cnt c0 p (fs++[b]) t gs:=by
 have hg:=zF w ⟨F,fs.length,none⟩ (.bool b);refine⟨zB h.box hg (fun e=>(h.box_ne h.fa (by decide)) (Oj e)),?_,h.na.kept hg (fun e=>(bT h.na h.fa (by decide)) (Oj e).symm),h.len,fun i hi=>(h.row i hi).kept hg (fun e=>(bT (h.row i hi) h.fa (by decide)) (Oj e).symm),h.rl,h.glo,h.nd,h.cl.kept hg (fun e=>(bT h.cl h.fa (by decide)) (Oj e).symm),h.lo,⟨h.cB.1,h.cB.2.1,Nat.le_trans h.cB.2.2 hg.size⟩,yG h.grown hg (by show _<=F;have:=h.lo;omega)⟩;have h1:=h.fa.bool_set fs.length (by simp;omega) b
 have e:(fs++List.replicate (cnt-fs.length) false).set fs.length b=(fs++[b])++List.replicate (cnt-(fs++[b]).length) false:=by
  rw[List.set_append_right _ _ (Nat.le_refl _),Nat.sub_self];obtain⟨m,hm⟩:∃m,cnt-fs.length=m+1:=⟨cnt-fs.length-1,by omega⟩;rw[hm,List.replicate_succ,List.set_cons_zero,List.append_assoc];congr 1;rw[List.length_append,List.length_singleton,show cnt-(fs.length+1)=m by omega];rfl
 rw[e]at h1;exact h1
theorem QB.setN2 (h:QB w0 w T F N C B k cnt c0 p fs t gs)(hc:gs.length<cnt){g:Nat}(a9:(w.setCell ⟨N,gs.length,none⟩ (rowV k g)).grownBy w' none)(ha:Arr w' g 3 (ints (List.replicate k 0)))(a8:w.heap.size<=g)(hB:B<=w.heap.size):QB w0 w' T F N C B k cnt c0 p fs (t++[List.replicate k 0]) (gs++[g]):=by
 have hg:=zF w ⟨N,gs.length,none⟩ (rowV k g);have h0:∀ {g2 e2:Nat} {xs:List Value},Arr w g2 e2 xs->e2≠22->Arr w' g2 e2 xs:=fun h2 he=>(h2.kept hg (fun e=>(bT h2 h.na he) (Oj e).symm)).kept a9 (by simp);refine⟨zB (zB h.box hg (fun e=>(h.box_ne h.na (by decide)) (Oj e))) a9,h0 h.fa (by decide),?_,by simp[h.len],fun i hi=>?_,fun i hi=>?_,fun x hx=>?_,?_,h0 h.cl (by decide),h.lo,⟨h.cB.1,h.cB.2.1,Nat.le_trans h.cB.2.2 (Nat.le_trans hg.size a9.size)⟩,zC (yG h.grown hg (by show _<=N;have:=h.lo;omega)) a9⟩
 ·have h1:=(h.na.set gs.length (by simp;omega) (rowV k g)).kept a9 (by simp)
  have e:(gs.map (rowV k)++List.replicate (cnt-gs.length) (Value.slice none 0 0)).set gs.length (rowV k g)=(gs++[g]).map (rowV k)++List.replicate (cnt-(gs++[g]).length) (.slice none 0 0):=by
   rw[List.set_append_right _ _ (by simp),List.length_map,Nat.sub_self];obtain⟨m,hm⟩:∃m,cnt-gs.length=m+1:=⟨cnt-gs.length-1,by omega⟩;rw[hm,List.replicate_succ,List.set_cons_zero,List.map_append,List.append_assoc];congr 1;rw[List.length_append,List.length_singleton,show cnt-(gs.length+1)=m by omega];rfl
  rw[e]at h1;exact h1
 ·rw[List.length_append,List.length_singleton]at hi
  by_cases hi2:i<t.length
  ·rw[lH (by rw[h.len];exact hi2),lH hi2]
   exact h0 (h.row i hi2) (by decide)
  have e:i=t.length:=by omega
  subst e;have e1:(gs++[g]).getD t.length 0=g:=by rw[<-h.len,List.getD_eq_getElem?_getD];simp
  have e2:(t++[List.replicate k (0:Int)]).getD t.length []=List.replicate k 0:=by rw[List.getD_eq_getElem?_getD];simp
  rw[e1,e2];exact ha
 ·rw[List.length_append,List.length_singleton]at hi
  by_cases hi2:i<t.length
  ·rw[lH hi2];exact h.rl i hi2
  have e:i=t.length:=by omega
  subst e;have e2:(t++[List.replicate k (0:Int)]).getD t.length []=List.replicate k 0:=by rw[List.getD_eq_getElem?_getD];simp
  rw[e2];simp
 ·rcases List.mem_append.1 hx with hx|hx
  ·exact h.glo x hx
  simp at hx;subst hx;omega
 rw[List.nodup_append];refine⟨h.nd,by simp,fun a ha2 b hb e=>?_⟩;simp at hb;subst hb;subst e;obtain⟨i,hi,e2⟩:=List.getElem_of_mem ha2;have h3:=(h.row i (by rw[<-h.len];exact hi)).lt;rw[zN hi,e2]at h3;omega
theorem QB.setR (h:QB w0 w T F N C B k cnt c0 p fs t gs){i a:Nat}(hi:i<t.length)(ha:a<k)(x:Int):QB w0 (w.setCell ⟨gs.getD i 0,a,none⟩ (.int .i64 x)) T F N C B k cnt c0 p fs (t.set i ((t.getD i []).set a x)) gs:=by
 have hg:=zF w ⟨gs.getD i 0,a,none⟩ (.int .i64 x);have hr:=h.row i hi;have h0:=h.glo _ (h.mem hi);refine⟨zB h.box hg (fun e=>(h.box_ne hr (by decide)) (Oj e)),h.fa.kept hg (fun e=>(bT h.fa hr (by decide)) (Oj e).symm),h.na.kept hg (fun e=>(bT h.na hr (by decide)) (Oj e).symm),by rw[List.length_set];exact h.len,fun j hj=>?_,fun j hj=>?_,h.glo,h.nd,h.cl.kept hg (fun e=>by have e:gs.getD i 0=C:=Oj e;have:=h.cB;omega),h.lo,⟨h.cB.1,h.cB.2.1,Nat.le_trans h.cB.2.2 hg.size⟩,zC h.grown hg (fun j e=>by have e:gs.getD i 0=j:=Oj e;have:=h.cB;omega)⟩
 ·rw[List.length_set]at hj
  by_cases e:i=j
  ·subst e
   have e2:(t.set i ((t.getD i []).set a x)).getD i []=(t.getD i []).set a x:=by rw[List.getD_eq_getElem?_getD];simp[hi]
   rw[e2];exact hr.int_set a (by rw[h.rl i hi];exact ha) x
  have e2:(t.set i ((t.getD i []).set a x)).getD j []=t.getD j []:=by rw[List.getD_eq_getElem?_getD,List.getElem?_set_ne e,<-List.getD_eq_getElem?_getD]
  rw[e2];refine(h.row j hj).kept hg (fun e3=>e ?_);have e3:gs.getD i 0=gs.getD j 0:=Oj e3;rw[zN (by rw[h.len];exact hi),zN (by rw[h.len];exact hj)]at e3;exact qKI h.nd _ _ e3
 rw[List.length_set]at hj;by_cases e:i=j
 ·subst e
  have e2:(t.set i ((t.getD i []).set a x)).getD i []=(t.getD i []).set a x:=by rw[List.getD_eq_getElem?_getD];simp[hi]
  rw[e2,List.length_set];exact h.rl i hi
 have e2:(t.set i ((t.getD i []).set a x)).getD j []=t.getD j []:=by rw[List.getD_eq_getElem?_getD,List.getElem?_set_ne e,<-List.getD_eq_getElem?_getD]
 rw[e2];exact h.rl j hj
theorem QB.setL {r:List Int}{g a:Nat}(h:QB w0 w T F N C B k cnt c0 p fs (t++[r]) (gs++[g]))(ha:a<k)(x:Int):QB w0 (w.setCell ⟨g,a,none⟩ (.int .i64 x)) T F N C B k cnt c0 p fs (t++[r.set a x]) (gs++[g]):=by
 have hl:=h.len;rw[List.length_append,List.length_append,List.length_singleton,List.length_singleton]at hl;have h1:=h.setR (i:=t.length) (by simp) ha x;have e1:(gs++[g]).getD t.length 0=g:=by rw[show t.length=gs.length by omega,List.getD_eq_getElem?_getD];simp
 have e2:(t++[r]).getD t.length []=r:=by rw[List.getD_eq_getElem?_getD];simp
 rw[e1,e2,List.set_append_right _ _ (Nat.le_refl _),Nat.sub_self,List.set_cons_zero]at h1;exact h1
theorem QB.last {r:List Int}{g:Nat}(h:QB w0 w T F N C B k cnt c0 p fs (t++[r]) (gs++[g]))(hc:gs.length<cnt):Arr w g 3 (ints r)/\w.cell? ⟨N,gs.length,none⟩=some (rowV k g)/\r.length=k:=by
 have hl:=h.len;rw[List.length_append,List.length_append,List.length_singleton,List.length_singleton]at hl;have e1:(gs++[g]).getD t.length 0=g:=by rw[show t.length=gs.length by omega,List.getD_eq_getElem?_getD];simp
 have e2:(t++[r]).getD t.length []=r:=by rw[List.getD_eq_getElem?_getD];simp
 have h1:=h.row t.length (by simp);have h2:=h.rl t.length (by simp);rw[e1,e2]at h1;rw[e2]at h2;refine⟨h1,?_,h2⟩;rw[h.na.cell gs.length (by simp<;>omega),List.getElem_append_left (by simp)];simp
theorem QB.ok (h:QB w0 w T F N C B k cnt c0 p fs t gs)(hf:fs.length=cnt)(ht:t.length=cnt)(a9:cnt<=maxLen)(a8:k<=maxLen):tR w.heap.size w (.agg #[.int .i64 (k:Int),.int .i64 (c0:Int),.slice (some ⟨F,0,none⟩) cnt cnt,.slice (some ⟨N,0,none⟩) cnt cnt]) ⟨k,c0,fs,t⟩:=by
 have h4:=h.fa;have h0:=h.na;rw[hf,Nat.sub_self,List.replicate_zero,List.append_nil]at h4;rw[h.len,ht,Nat.sub_self,List.replicate_zero,List.append_nil]at h0;have h7:(bls fs).length=cnt:=by rw[zX,hf]
 have h5:(gs.map (rowV k)).length=cnt:=by rw[List.length_map,h.len,ht]
 refine⟨_,_,rfl,?_,?_⟩
 ·have:=h4.rowT' (cap:=cnt) (by omega) a9
  rw[h7]at this;exact this.row
 have h1:=h0.rowT' (cap:=cnt) (by omega) a9;rw[h5]at h1;refine Mat.of_rowT h1 ⟨by rw[List.length_map,h.len],fun i h2 h3=>?_⟩ (Nat.le_refl _);have hr:=(h.row i h3).rowT' (cap:=k) (by rw[zJ,h.rl i h3];exact Nat.le_refl _) a8;rw[zJ,h.rl i h3]at hr;rw[List.getElem_map];have h6:i<gs.length:=by rw[h.len];exact h3
 rw[zN h6,zN h3]at hr;exact hr
end
theorem DfaT.shapes {w:World}{f nx:Value}{d:DfaV}(h:DfaT w f nx d):∃sa n1 c1 sb n2 c2,f=.slice sa n1 c1/\nx=.slice sb n2 c2:=by
 obtain⟨hs,a,b,_⟩:=h;obtain⟨sa,c1,rfl⟩:=a.shape;obtain⟨sb,c2,rfl⟩:=b.shape;exact⟨sa,_,c1,sb,_,c2,rfl,rfl⟩
def MmOk (w:World)(d:DfaV)(k:Nat)(e:Ending)(w':World):Prop:=∃v b,e=.returned (.tuple #[v,.bool b])/\w.grownBy w' none/\((b=true/\minN d k<=512/\∃f nx,v=.agg #[.int .i64 (k:Int),.int .i64 0,f,nx]/\DfaT w' f nx (minD d k))\/(b=false/\512<minN d k/\v=.agg #[.int .i64 0,.int .i64 0,.slice none 0 0,.slice none 0 0]))
theorem qNW (n:Nat)(h:n<=4096):∀w:World,(Instr.makeSlice 27 (.int .i64 (n:Int)) (.int .i64 (n:Int))).run Tryz.prog w=.ok (.slice (some ⟨w.heap.size,0,none⟩) n n) (w.alloc (.cells (madeCells #[.slice none 0 0] n) 22)) :=
 fun w=>run_make_row' 27 22 (.slice none 0 0) 24 Tryz.underlying27 (by kernel_rfl) rfl .i64 .i64 n (by omega) (by omega) w
theorem qHK (n:Nat):(madeCells #[.slice none 0 0] n).toList=List.replicate n (.slice none 0 0):=by
 have:=pE (z:=.slice none 0 0) rfl n;rw[Nat.mul_one]at this;exact this
theorem qNX (n:Nat)(h:n<=4096):∀w:World,(Instr.makeSlice 22 (.int .i64 (n:Int)) (.int .i64 (n:Int))).run Tryz.prog w=.ok (.slice (some ⟨w.heap.size,0,none⟩) n n) (w.alloc (.cells (madeCells #[.int .i64 0] n) 3)) :=
 fun w=>run_make_row' 22 3 (.int .i64 0) 8 Tryz.underlying22 (by kernel_rfl) rfl .i64 .i64 n (by omega) (by omega) w
theorem qHL (n:Nat):(madeCells #[.int .i64 0] n).toList=ints (List.replicate n 0):=by
 have:=pE (z:=.int .i64 0) rfl n;rw[Nat.mul_one]at this;rw[rY];exact this
def mrow (d:DfaV)(p:List Nat)(s k a:Nat):List Int:=(uD p (d.next.getD s [])).take a++List.replicate (k-a) 0
theorem qKM (d:DfaV)(p:List Nat)(s k:Nat):mrow d p s k 0=List.replicate k 0:=by simp[mrow]
theorem qKN {d:DfaV}{n k:Nat}(hd:VD d n k){p:List Nat}{s:Nat}(hs:s<n):mrow d p s k k=uD p (d.next.getD s []):=by
 rw[mrow,Nat.sub_self,List.replicate_zero,List.append_nil,List.take_of_length_le (by rw[rH hd hs];exact Nat.le_refl _)]
theorem qNT {d:DfaV}{n k:Nat}(hd:VD d n k){p:List Nat}{s a:Nat}(hs:s<n)(ha:a<k):(mrow d p s k a).set a ((p.getD (nx d s a) 0:Nat):Int)=mrow d p s k (a+1):=by
 have hl:((uD p (d.next.getD s [])).take a).length=a:=by rw[List.length_take,rH hd hs];omega
 obtain⟨m,hm⟩:∃m,k-a=m+1:=⟨k-a-1,by omega⟩;rw[mrow,List.set_append_right _ _ (by omega),hl,Nat.sub_self,hm,List.replicate_succ,List.set_cons_zero,mrow,yB (d:=0) (by rw[rH hd hs];exact ha),qCQ hd hs ha,List.append_assoc,show k-(a+1)=m by omega];rfl
theorem gD {w X:World}(h:w.grownBy X none):w.grownBy X.drew none:=zC h (zS X none)
theorem gA {w X:World}(h:w.grownBy X none)(o:Obj):w.grownBy (X.alloc o) none:=nX h o
theorem gS {w X:World}(h:w.grownBy X none){b i:Nat}(u:Value)(hb:w.heap.size<=b):w.grownBy (X.setCell ⟨b,i,none⟩ u) none:=yG h (zF X ⟨b,i,none⟩ u) (by show _<=b;omega)
theorem qTH (w:World)(o1 o2 o3:Obj):(((w.alloc o1).alloc o2).alloc o3).drew.heap[w.heap.size]?=some o1/\(((w.alloc o1).alloc o2).alloc o3).drew.heap[w.heap.size+1]?=some o2/\(((w.alloc o1).alloc o2).alloc o3).drew.heap[w.heap.size+1+1]?=some o3:=by
 have g3:=Ga ((w.alloc o1).alloc o2) o3 none;show (((w.alloc o1).alloc o2).alloc o3).heap[w.heap.size]?=some o1/\(((w.alloc o1).alloc o2).alloc o3).heap[w.heap.size+1]?=some o2/\(((w.alloc o1).alloc o2).alloc o3).heap[w.heap.size+1+1]?=some o3;refine⟨zB (bM w o1 o2) g3,zB (bF w o1 o2) g3,?_⟩;have:=heap_alloc_new ((w.alloc o1).alloc o2) o3
 rwa [zW,zW]at this
theorem qCH (w:World)(o k n:Nat)(d:DfaV)(nb no nc fb fo fc:Nat)(a6:List Nat)(hd:VD d n k)(hn:n<=4000)(a5:st0 d=0)(hr:∀q,q<n->∃w,tS k w/\run d (st0 d) w=q)(h:MachAt w o k n d nb no nc fb fo fc a6):Calls Tryz.prog 76 #[.pointer (some ⟨o,0,none⟩)] w (MmOk w d k):=by
 have j7:=qNZ hd hr;have m4:=hd.k6;have p4:=hd.k1;have o6:=hd.n1;have o4:=zR h.box;have m7:=h.fcap.1;have m6:fc<=9223372036854775807:=by have:=h.fcap.2;unfold maxLen at this;omega
 have m2:nc<=9223372036854775807:=by have:=h.ncap.2;unfold maxLen at this;omega
 have d3:=Ga w (.cells #[.int .i64 0,.int .i64 0,.slice none 0 0,.slice none 0 0] 29) none;have c6:=heap_alloc_new w (.cells #[.int .i64 0,.int .i64 0,.slice none 0 0,.slice none 0 0] 29);obtain⟨wA,g1⟩:=Nm (w.alloc (.cells #[.int .i64 0,.int .i64 0,.slice none 0 0,.slice none 0 0] 29));obtain⟨Q,hQ⟩:=Nm w.heap.size;rw[<-g1]at d3 c6;rw[<-hQ]at c6;have H:=Kh (h.kept d3 (by simp) (by simp) (by simp));obtain⟨HD,k8,n4,g6,l2,o3⟩:=K6 hd j7 g1 hQ d3 c6;have n6:=Kh a5;have l4:=Kh (qCN wA o k n d nb no nc fb fo fc a6 hd hn H.out);have p7:Q<wA.heap.size:=zR c6;clear h hd d3 c6 g1 hQ j7 hr a5;go_enter Tryz.func76,Tryz.ntmps76;go_upto_region 1 with fail;rw[<-n4.out,<-g6.out];go_wp2_with fail;refine l4.out.mono ?_;rintro e w1 ⟨p,C,rfl,hC,p9,c3,e7,i1⟩;have b1:=Kh (zC l2.out c3);have a0:=Kh (zB o3.out c3);have H1:=Kh (H.out.kept c3 (by simp) (by simp) (by simp));have n2:w.heap.size<=C:=by have:=l2.out.size;omega
 obtain⟨HC,k4,k3⟩:=K3 hC e7 i1;have c9:=Kh (e7.cls_le HD.out);have p8:Q<w1.heap.size:=by have:=c3.size;omega
 obtain⟨cnt,H7⟩:=Nm (cls p);rw[<-H7]at c9 k3⊢;have h0:=Kh H7;clear hC c3 e7 i1 H7 l4;by_cases h5:cnt<=512
 case neg =>
  have n3:(512:Int)<cnt:=by omega
  have g8:Hid (512<minN d k):=Kh (by rw[k8.out];have:=c9.out;omega);obtain⟨q0,q1,q2,q3⟩:=zL a0.out;have f0:=zA a0.out 0;have f1:=zA a0.out 1;have f2:=zA a0.out 2;have f3:=zA a0.out 3;go_wp2;obtain⟨c5,a2⟩:=uF a0.out (.int .i64 0) (.int .i64 0) (.slice none 0 0) (.slice none 0 0);obtain⟨wz,b3⟩:=Nm ((((w1.setCell ⟨Q,0,none⟩ (.int .i64 0)).setCell ⟨Q,1,none⟩ (.int .i64 0)).setCell ⟨Q,2,none⟩ (.slice none 0 0)).setCell ⟨Q,3,none⟩ (.slice none 0 0));rw[<-b3]at c5 a2⊢;clear b3;obtain⟨r0,r1,r2,r3⟩:=zL c5;clear q0 q1 q2 q3 f0 f1 f2 f3;refine bodyPost_ret (v:=.tuple #[.agg #[.int .i64 0,.int .i64 0,.slice none 0 0,.slice none 0 0],.bool false]) (by simp[results,Tryz.results76,go_sem,r0,r1,r2,r3]) rfl ?_;exact⟨_,false,rfl,yG b1.out a2 (by show _<=Q;have:=g6.out;omega),.inr ⟨rfl,g8.out,rfl⟩⟩
 have n3:¬(512:Int)<cnt:=by omega
 have k7:Hid (p=yK d k):=Kh (by
  rcases k3.out with h|h
  ·omega
  exact h)
 have g8:Hid (minN d k<=512):=Kh (by rw[k8.out,<-k7.out,<-h0.out];exact h5);have e9:p.length=n:=k4.out.len;have p6:1<=cnt:=by rw[h0.out];exact jE (by omega)
 have cC0:=Arr.nat HC.out 0 (by omega);obtain⟨c0,g0⟩:=Nm (p.getD 0 0);rw[<-g0]at cC0;have o2:=Kh g0;have p3:=qEE cnt (by omega);have o9:=qNW cnt (by omega);have o8:=qNX k (by omega);have m3:(0:Int)<n:=by omega
 have o7:0<n:=by omega
 obtain⟨wo,rfl⟩:=Nm (w1:World);obtain⟨p0,p1,p2⟩:=tB H1.out.box;have g4:=HC.out.lt;have l9:=zR H1.out.box;clear g0;have l5:Hid (∀W:World,wo.grownBy W none->W.cell? ⟨o,0,none⟩=some (.int .i64 (k:Int))/\W.cell? ⟨C,0,none⟩=some (.int .i64 (c0:Int))):=Kh (fun W hW=>⟨qQL p0 hW,qQL cC0 hW⟩);go_upto_region 4 with fail;go_cut [6] (fun s6 wx=>∃T F N:Nat,s6=.pointer (some ⟨T,0,none⟩)/\wx.heap[T]?=some (.cells #[.int .i64 (k:Int),.int .i64 (c0:Int),.slice (some ⟨F,0,none⟩) cnt cnt,.slice (some ⟨N,0,none⟩) cnt cnt] 29 (0,0))/\Arr wx F 4 (bls (List.replicate cnt false))/\Arr wx N 22 (List.replicate cnt (.slice none 0 0))/\wo.heap.size<=T/\wo.heap.size<=F/\wo.heap.size<=N/\wo.grownBy wx none)
 case first =>
  go_region_held3 (fun w'=>w'.cell? ⟨o,0,none⟩=some (.int .i64 (k:Int))/\w'.cell? ⟨C,0,none⟩=some (.int .i64 (c0:Int)))
   (first|(refine l5.out _ ?_;repeat(first|exact zU _ _|refine gD ?_|refine gA ?_ _|refine gS ?_ _ (by simp;omega)))|fail) (fail)
  all_goals
   go_wp2_with fail
   go_meet
   obtain⟨h1,h2,h3⟩:=qTH wo _ _ _;refine⟨_,_,_,rfl,by first|exact h1|exact h2|exact h3,⟨_,[],by first|exact h1|exact h2|exact h3,by rw[List.append_nil];exact qCR cnt⟩,⟨_,[],by first|exact h1|exact h2|exact h3,by rw[List.append_nil];exact qHK cnt⟩,by omega,by omega,by omega,gD (gA (gA (gA (zU _ _) _) _) _)⟩
 obtain⟨T,F,N,rfl,j2,hF,hN,j4,j8,j6,a3⟩:=hcut;obtain⟨B,hB⟩:=Nm wc.heap.size;have d6:=a3.size;have c7:Hid (QB w wc T F N C B k cnt c0 p [] [] []):=Kh ⟨j2,by simpa using hF,by simpa using hN,rfl,fun i hi=>absurd hi (by simp),fun i hi=>absurd hi (by simp),fun g hg=>absurd hg (by simp),by simp,HC.out.kept a3 (by simp),⟨Nat.le_trans b1.out.size j4,Nat.le_trans b1.out.size j8,Nat.le_trans b1.out.size j6,n2⟩,⟨by rw[hB];exact Nat.lt_of_lt_of_le g4 d6,by rw[hB];exact Nat.le_trans b1.out.size d6,by rw[hB];exact Nat.le_refl _⟩,zC b1.out a3⟩;have h8:=Kh (H1.out.kept a3 (by simp) (by simp) (by simp));have k2:=Kh (zB a0.out a3);have j5:Q≠F/\Q≠N/\Q<B:=by omega
 have g5:=Kh j5;clear j5;have i5:o<B/\nb<B/\fb<B:=⟨by rw[hB];exact zR h8.out.box,by rw[hB];exact h8.out.nlt,by rw[hB];exact h8.out.flt⟩;have a1:o≠T/\o≠F/\o≠N/\nb≠F/\nb≠N/\fb≠F/\fb≠N:=by have:=H1.out.nlt;have:=H1.out.flt;omega
 have a4:=Kh a1;have n7:=Kh i5;clear a1 i5;clear j2 hF hN j4 j8 j6 a3 d6 cC0 l5 p0 p1 p2;go_wp2
 go_loopg [7,8,9,32,67] n (fun gh a7 a8 a9 i a67 wr=>∃(s:Nat) (gs:List Nat),gh+s=n/\i=.int .i64 s/\QB w wr T F N C B k cnt c0 p (mJ d p s) (oS d p s) gs/\MachAt wr o k n d nb no nc fb fo fc a6/\wr.heap[Q]?=some (.cells #[.int .i64 0,.int .i64 0,.slice none 0 0,.slice none 0 0] 29 (0,0)))
 case atStart=>exact⟨0,[],rfl,rfl,c7.out,h8.out,k2.out⟩
 clear c7 h8 k2;obtain⟨s,gs,b9,rfl,hq,b7,b2⟩:=hrel;have HZ:=Kh b2;clear b2;have c8:=Kh b9;have HQ:=Kh hq;clear b9;have hg:=hq.grown;have HM:=Kh b7;have H5:=k4.out.norm;by_cases hs:s<n
 ·have l7:(s:Int)<n:=by omega
  have b5:s<p.length:=(by omega);obtain⟨d2,H0,hold⟩:=lV H5 b5;have H4:=vM H5 s (by omega);have d4:(mJ d p s).length=cls (p.take s):=by rw[mJ,List.length_map,H4]
  have b4:(oS d p s).length=cls (p.take s):=by rw[oS,List.length_map,H4]
  have c4:p.getD s 0<cnt:=(by rw[h0.out];exact sC H5 b5);have j1:=Arr.nat hq.cl s b5;have b8:gs.length=cls (p.take s):=by rw[hq.len,b4]
  obtain⟨c,hc⟩:=Nm (p.getD s 0);rw[<-hc]at d2 c4 j1 H0 hold;obtain⟨m,hm⟩:=Nm (cls (p.take s));rw[<-hm]at d2 d4 b4 b8 H0 hold;have m8:(c:Int)<cnt:=(by exact_mod_cast c4);have i7:m<=cnt:=by rw[hm,h0.out];exact(rI p s).length_le
  have h4:(gs.map (rowV k)++List.replicate (cnt-gs.length) (Value.slice none 0 0)).length=cnt:=by rw[List.length_append,List.length_map,List.length_replicate,b8];omega
  have cN:=hq.na.cell c (by omega);obtain⟨t0,t1,t2,t3⟩:=zL hq.box;have q6:=Kh hc;have q5:=Kh hm;by_cases hcm:c=m
  case neg =>
   have i9:c<gs.length:=by omega
   have cN2:wr.cell? ⟨N,c,none⟩=some (.slice (some ⟨gs.getD c 0,0,none⟩) k k):=by
    rw[cN,List.getElem_append_left (by simpa using i9)];simp[rowV,List.getD,List.getElem?_eq_getElem i9]
   obtain⟨gg,c1⟩:=Nm (gs.getD c 0);rw[<-c1]at cN2;have a1:p.getD s 0≠cls (p.take s):=(by rw[<-hc,<-hm];exact hcm);have e1:=qCL (d:=d) a1;have e2:=qCJ (d:=d) a1;have E1:=Kh e1;have E2:=Kh e2;clear hcm a1 e1 e2 c1 cN d4 b4 b8 H0 hold hc hm d2 h4 i7 hq hg H5 H4 b5;go_wp2;go_roundg (n-(s+1))
   case measure=>have:=c8.out;omega
   exact⟨s+1,gs,by have:=c8.out;omega,by go_num,by rw[E1.out,E2.out];exact HQ.out,HM.out,HZ.out⟩
  obtain rfl:c=m:=hcm;have e1:=qCM (d:=d) (p:=p) (i:=s) (by rw[<-hc,<-hm]);have e2:=qCK (d:=d) (p:=p) (i:=s) (by rw[<-hc,<-hm])
  have cN2:wr.cell? ⟨N,c,none⟩=some (.slice none 0 0):=by
   rw[cN,List.getElem_append_right (by simp;omega)];simp
  have cFb:=hq.fa.bool c (by simp;omega);have fF:=hq.fa.frozen c;have g3:=hq.fa.lt;have cf:=b7.fin s hs;obtain⟨p0,p1,p2⟩:=tB b7.box;obtain⟨b,hb⟩:=Nm (d.final.getD s false);rw[<-hb]at cf e1;have E1:=Kh e1;have E2:=Kh e2;obtain⟨nk,f5⟩:=Nm (n*k);rw[<-f5]at p1;obtain⟨d5,l3,q4,b0⟩:=K4 f5 d4 b4 b8;obtain⟨wo2,rfl⟩:=Nm (wr:World);clear e1 e2 cN d4 b4 b8 H0 hold hc hm d2 h4 i7 hq hg H5 H4 b5 hb b7 f5;go_upto_region 9 with fail
  go_region
  all_goals (try go_frame)
  have h9:=(HQ.out.setF (by rw[l3.out];exact c4) b).grow (zS _ none);rw[l3.out,<-E1.out]at h9;have H6:wo2.grownBy (wo2.setCell ⟨F,c,none⟩ (.bool b)).drew (some F):=zG (zF wo2 ⟨F,c,none⟩ (.bool b)) (zS _ _);have b6:=HM.out.kept H6 (fun e=>a4.out.2.1 (Oj e).symm) (fun e=>a4.out.2.2.2.1 (Oj e).symm) (fun e=>a4.out.2.2.2.2.2.1 (Oj e).symm);have d7:=zB HZ.out H6 (fun e=>g5.out.1 (Oj e).symm);obtain⟨w3,i0⟩:=Nm ((wo2.setCell ⟨F,c,none⟩ (.bool b)).drew);rw[<-i0]at h9 b6 d7⊢;obtain⟨k0,g7,l1⟩:=K3 d7 h9 b6
  have cN3:w3.cell? ⟨N,c,none⟩=some (.slice none 0 0):=by
   rw[h9.na.cell c (by simp;have:=b0.out;omega),List.getElem_append_right (by simp;have:=b0.out;omega)];simp
  have fN3:=h9.na.frozen c;have g2:=h9.na.lt;obtain⟨p0,p1,p2⟩:=tB b6.box;rw[<-d5.out]at p1;obtain⟨t0,t1,t2,t3⟩:=zL h9.box;have n0:=zR h9.box;have m0:=zR b6.box;clear i0 h9 b6 d7 HZ H6 cN2 cFb fF g3 cf HQ HM j1;go_upto_region 10 with fail
  go_region
  all_goals (try go_frame)
  have c2:=Ga (w3.setCell ⟨N,c,none⟩ (.slice (some ⟨w3.heap.size,0,none⟩) k k)) (.cells (madeCells #[.int .i64 0] k) 3) none;have h6:=zC c2 (zS _ none);have H8:=Arr.new (w3.setCell ⟨N,c,none⟩ (.slice (some ⟨w3.heap.size,0,none⟩) k k)) 3 (madeCells #[.int .i64 0] k);rw[qHL,show (w3.setCell ⟨N,c,none⟩ (.slice (some ⟨w3.heap.size,0,none⟩) k k)).heap.size=w3.heap.size by simp[World.setCell]]at H8;have H2:w3.grownBy ((w3.setCell ⟨N,c,none⟩ (.slice (some ⟨w3.heap.size,0,none⟩) k k)).alloc (.cells (madeCells #[.int .i64 0] k) 3)).drew (some N):=zG (zF w3 ⟨N,c,none⟩ _) (xY h6);obtain⟨w4,d8⟩:=Nm (((w3.setCell ⟨N,c,none⟩ (.slice (some ⟨w3.heap.size,0,none⟩) k k)).alloc (.cells (madeCells #[.int .i64 0] k) 3)).drew);have h7:Arr w4 w3.heap.size 3 (ints (List.replicate k 0)):=(by rw[d8];exact H8.of_heap rfl);rw[<-d8]at H2 h6⊢;obtain⟨g,hg⟩:=Nm w3.heap.size;rw[<-hg]at h7 h6;have e8:=g7.out.setN2 (w':=w4) (g:=g) (by rw[b0.out];exact c4) (by rw[b0.out];exact h6) h7 (by omega) g7.out.cB.2.2;have f6:=l1.out.kept H2 (fun e=>a4.out.2.2.1 (Oj e).symm) (fun e=>a4.out.2.2.2.2.1 (Oj e).symm) (fun e=>a4.out.2.2.2.2.2.2 (Oj e).symm);rw[<-qKM d p s k]at e8;have k5:=Kh e8;have l0:=Kh f6;have j9:=Kh (zB k0.out H2 (fun e=>g5.out.2.1 (Oj e).symm));obtain⟨p0,p1,p2⟩:=tB f6.box;clear k0 d8 c2 h6 H8 h7 H2 e8 f6 g7 l1 cN3 fN3 g2 t0 t1 t2 t3 n0 m0 hg;go_wp2;clear p0 p1 p2;obtain⟨wo3,rfl⟩:=Nm (w4:World)
  go_loopg [9,67] k (fun gh a9 i wr=>∃a:Nat,gh+a=k/\i=.int .i64 a/\QB w wr T F N C B k cnt c0 p (mJ d p (s+1)) (oS d p s++[mrow d p s k a]) (gs++[g])/\MachAt wr o k n d nb no nc fb fo fc a6/\wr.heap[Q]?=some (.cells #[.int .i64 0,.int .i64 0,.slice none 0 0,.slice none 0 0] 29 (0,0)))
  case atStart=>exact⟨0,rfl,rfl,k5.out,l0.out,j9.out⟩
  clear k5 l0 j9;obtain⟨a,b9,rfl,hq,hm,b2⟩:=hrel;have HZ:=Kh b2;clear b2;obtain⟨H9,HQ,HM⟩:=K3 b9 hq hm;clear b9;by_cases ha:a<k
  ·have m9:(a:Int)<k:=by exact_mod_cast ha
   obtain⟨d0,j0,i3⟩:=hq.last (by rw[b0.out];exact c4);rw[b0.out]at j0;unfold rowV at j0;obtain⟨p0,p1,p2⟩:=tB hm.box;rw[<-d5.out]at p1;obtain⟨t0,t1,t2,t3⟩:=zL hq.box;have cX:=hm.nx s a hs ha;have e0:=pB HD.out hs ha;have cC:=Arr.nat hq.cl (nx d s a) (by rw[e9];exact e0);have fg:=d0.frozen a;have cg:=d0.int a (by rw[i3];exact ha);have m5:=d0.lt;have d1:=qNT HD.out (p:=p) hs ha;obtain⟨e1,e2,e3,e4,e5⟩:=qEL hs ha m4 hn;rw[<-d5.out]at e5;obtain⟨X,hX⟩:=Nm (s*k+a);rw[<-hX]at cX e3 e4 e5;obtain⟨Y,hY⟩:=Nm (s*k);rw[<-hY]at e1 e2 e3 e4;obtain⟨t,ht⟩:=Nm (nx d s a);rw[<-ht]at cX cC e0 d1;obtain⟨v,hv⟩:=Nm (p.getD t 0);rw[<-hv]at cC d1;have n8:=Kh d1;have e5':(X:Int)<nk:=(by exact_mod_cast e5);have l6:(t:Int)<n:=(by exact_mod_cast e0);have m1:nk<=nc:=by rw[d5.out];exact HM.out.ncap.1
   obtain⟨wo4,rfl⟩:=Nm (wr:World);clear d0 i3 hq hm hX hY ht hv d1;go_wp2
   go_region
   all_goals (try go_frame)
   all_goals go_wp2
   all_goals
    go_roundg (k-(a+1))
    case measure=>have:=H9.out;clear e1 e2 e3 e4;omega
    have c1:wo4.grownBy (wo4.setCell ⟨g,a,none⟩ (.int .i64 (v:Int))).drew (some g):=zG (zF wo4 ⟨g,a,none⟩ _) (zS _ _);have p5:=HQ.out.glo g (by simp);have o5:=n7.out;clear e1 e2 e3 e4;exact⟨a+1,by have:=H9.out;omega,by go_num,by rw[<-n8.out];exact(HQ.out.setL ha v).grow (zS _ none),HM.out.kept c1 (fun e=>by have:=Oj e;omega) (fun e=>by have:=Oj e;omega) (fun e=>by have:=Oj e;omega),zB HZ.out c1 (fun e=>by have:=Oj e;have:=g5.out;omega)⟩
  have j3:a=k:=by have:=H9.out;omega
  have m9:¬(a:Int)<k:=(by omega);have HE:Hid (oS d p s++[mrow d p s k a]=oS d p (s+1)):=Kh (by rw[j3,qKN HD.out hs,E2.out]);rw[HE.out]at HQ;clear j3 hq hm;go_wp2;go_roundg (n-(s+1))
  case measure=>have:=c8.out;omega
  exact⟨s+1,gs++[g],by have:=c8.out;omega,by go_num,HQ.out,HM.out,HZ.out⟩
 have i2:s=n:=by have:=c8.out;omega
 have l7:¬(s:Int)<n:=(by omega);have H4:=vM H5 s (by omega);have f8:cls (p.take s)=cnt:=by rw[h0.out,List.take_of_length_le (by omega)]
 have f4:=hq.ok (by rw[mJ,List.length_map,H4,f8]) (by rw[oS,List.length_map,H4,f8]) (by unfold maxLen;omega) (by unfold maxLen;omega)
 have i4:(⟨(k:Int),(c0:Int),mJ d p s,oS d p s⟩:DfaV)=uL d p:=by
  rw[uL,n6.out,<-o2.out,HD.out.hk,reps,e9,<-i2];rfl
 rw[i4]at f4;have d9:=aR HD.out e9 H5;rw[<-h0.out]at d9;have g9:=Kh (qFR wr.heap.size wr _ (uL d p) cnt k (Nat.le_refl _) f4 d9 h5);have i6:minD (uL d p) k=minD d k:=by rw[k7.out];exact minQ HD.out
 rw[i6]at g9;obtain⟨t0,t1,t2,t3⟩:=zL hq.box;have k9:Hid ((minD d k).letters=k/\(minD d k).start=0):=Kh ⟨(gO HD.out).hk,rfl⟩;have o0:=Kh (hg);clear i2 H4 f8 f4 i4 d9 i6 hg hq b7 H5;go_wp2_with fail;refine g9.out.mono ?_;rintro e w9 ⟨v9,rfl,i8,f7⟩;obtain⟨f9,n9,rfl,e6⟩:=i8.t;obtain⟨fa9,fl9,fc9,na9,nl9,nc9,rfl,rfl⟩:=e6.shapes;rw[k9.out.1,k9.out.2];have H3:=Kh (zB HZ.out f7);have n5:=Kh e6;have o1:=Kh (zC o0.out f7);obtain⟨q0,q1,q2,q3⟩:=zL H3.out;have f0:=zA H3.out 0;have f1:=zA H3.out 1;have f2:=zA H3.out 2;have f3:=zA H3.out 3;clear i8 f7 e6 g9 t0 t1 t2 t3;go_wp2;obtain⟨c5,a2⟩:=uF H3.out (.int .i64 (k:Int)) (.int .i64 0) (.slice fa9 fl9 fc9) (.slice na9 nl9 nc9);obtain⟨wz,b3⟩:=Nm ((((w9.setCell ⟨Q,0,none⟩ (.int .i64 (k:Int))).setCell ⟨Q,1,none⟩ (.int .i64 0)).setCell ⟨Q,2,none⟩ (.slice fa9 fl9 fc9)).setCell ⟨Q,3,none⟩ (.slice na9 nl9 nc9));rw[<-b3]at c5 a2⊢;clear b3;obtain⟨r0,r1,r2,r3⟩:=zL c5;clear q0 q1 q2 q3 f0 f1 f2 f3;refine bodyPost_ret (v:=.tuple #[.agg #[.int .i64 (k:Int),.int .i64 0,.slice fa9 fl9 fc9,.slice na9 nl9 nc9],.bool true]) (by simp[results,Tryz.results76,go_sem,r0,r1,r2,r3]) rfl ?_
 have l8:∀j,some Q=some j->xG w9 4 j/\xG w9 22 j/\xG w9 3 j:=fun j e=>by
  obtain rfl:Q=j:=Oj e;exact⟨⟨_,_,_,H3.out,by decide⟩,⟨_,_,_,H3.out,by decide⟩,⟨_,_,_,H3.out,by decide⟩⟩
 exact⟨_,true,rfl,yG o1.out a2 (by show _<=Q;have:=g6.out;omega),.inl ⟨rfl,g8.out,_,_,rfl,n5.out.kept a2 l8⟩⟩
def TMat (B:Nat)(w:World)(v:Value)(ts:List (List Nat)):Prop:=∃hs,Row B w v hs/\tP B 3 nats w hs ts
theorem TMat.kept {B:Nat}{w w':World}{v:Value}{ts:List (List Nat)}{row:Option Nat}(h:TMat B w v ts)(hg:w.grownBy w' row)(hr:∀k,row=some k->B<=k):TMat B w' v ts:=by
 obtain⟨hs,h1,h2⟩:=h;exact⟨hs,h1.kept hg hr,h2.kept hg (fun k e=>.inl (hr k e))⟩
theorem TMat.mono {B B':Nat}{w:World}{v:Value}{ts:List (List Nat)}(h:TMat B w v ts)(hB:B<=B'):TMat B' w v ts:=by
 obtain⟨hs,h1,h2⟩:=h;exact⟨hs,h1.mono hB,h2.mono hB⟩
theorem TMat.head {B:Nat}{w:World}{v:Value}{ts:List (List Nat)}(h:TMat B w v ts)(h0:0<ts.length):∃b off cap,v=.slice (some ⟨b,off,none⟩) ts.length cap/\ts.length<=cap/\cap<=maxLen/\b<B/\b<w.heap.size/\∀i,i<ts.length->∃a c,w.cell? ⟨b,off+i,none⟩=some (.slice a (ts.getD i []).length c)/\RowT B 3 w (.slice a (ts.getD i []).length c) (nats (ts.getD i [])):=by
 obtain⟨hs,h1,h2⟩:=h;have hl:=h2.1;obtain⟨b,off,cap,rfl,hb,hc,hm,h4⟩:=h1.some_ (by omega);refine⟨b,off,cap,by rw[hl],by omega,hm,hb,h4.1,fun i hi=>?_⟩;have h3:=h2.2 i (by omega) hi;obtain⟨a,c,e⟩:=h3.shape;rw[zT]at e;refine⟨a,c,?_,?_⟩
 ·rw[h4.2 i (by omega),e,zN hi]
 rw[zN hi,<-e];exact h3
theorem TMat.shape {B:Nat}{w:World}{v:Value}{ts:List (List Nat)}(h:TMat B w v ts):∃a c,v=.slice a ts.length c:=by
 obtain⟨hs,h1,h2⟩:=h;obtain⟨a,c,rfl⟩:=h1.shape;exact⟨a,c,by rw[h2.1]⟩
def OwnT (base:Nat)(w:World)(v:Value)(n:Nat)(ts:List (List Nat)):Prop:=∃hs,w.ownsRow base 22 1 v n hs/\tP w.heap.size 3 nats w hs ts/\ts.length=n
theorem OwnT.grow {base n:Nat}{w w':World}{v:Value}{ts:List (List Nat)}(h:OwnT base w v n ts)(hg:w.grownBy w' none):OwnT base w' v n ts:=by
 obtain⟨hs,h1,h2,h3⟩:=h;exact⟨hs,wK h1 hg (by simp),(h2.kept hg (by simp)).mono hg.size,h3⟩
theorem OwnT.tmat {base n:Nat}{w:World}{v:Value}{ts:List (List Nat)}(h:OwnT base w v n ts):TMat w.heap.size w v ts:=by
 obtain⟨hs,h1,h2,h3⟩:=h;exact⟨hs,Row.of_owns h1,h2⟩
theorem OwnT.base {base base' n:Nat}{w:World}{v:Value}{ts:List (List Nat)}(h:OwnT base w v n ts)(hb:base'<=base):OwnT base' w v n ts:=by
 obtain⟨hs,h1,h2,h3⟩:=h;exact⟨hs,wV h1 hb,h2,h3⟩
theorem OwnT.nil (base:Nat)(w:World):OwnT base w (.slice none 0 0) 0 []:=⟨[],World.ownsRow_nil _ _ _ _,tP.nil,rfl⟩
theorem OwnT.push {base n:Nat}{w w':World}{v v':Value}{ts:List (List Nat)}{hs:List Value}{u:Value}{l:List Nat}(h1:w.ownsRow base 22 1 v n hs)(h2:tP w.heap.size 3 nats w hs ts)(h3:ts.length=n)(hu:RowT w.heap.size 3 w u (nats l))(ho:w'.ownsRow base 22 1 v' (n+1) (hs++[u]))(hg:w.grownBy w' v.ownBlock):OwnT base w' v' (n+1) (ts++[l]):=by
 refine⟨_,ho,?_,by simp[h3]⟩;exact((h2.snoc hu).kept hg (fun k e=>.inr (vV h1 (by decide) k e))).mono hg.size
def pG (m:DfaV)(n k:Nat):List (List Nat):=(List.range k).map fun a=>(List.range n).map fun q=>nx m q a
theorem uE (m:DfaV)(n k:Nat):(pG m n k).length=k:=by simp[pG]
def colD (m:DfaV)(n a:Nat):List Nat:=(List.range n).map fun q=>nx m q a
theorem mA (m:DfaV)(n a:Nat):(colD m n a).length=n:=by simp[colD]
theorem qDF {m:DfaV}{n a q:Nat}(hq:q<n):(colD m n a).take (q+1)=(colD m n a).take q++[nx m q a]:=by
 rw[yB (d:=0) (by rw[mA];exact hq),zN (by rw[mA];exact hq)];simp[colD]
theorem bL {m:DfaV}{n k a:Nat}(ha:a<k):(pG m n k).take (a+1)=(pG m n k).take a++[colD m n a]:=by
 rw[yB (d:=[]) (by rw[uE];exact ha),zN (by rw[uE];exact ha)];simp[pG,colD]
def dG (w:World)(ts:List (List Nat))(e:Ending)(w':World):Prop:=∃(sa:Option Addr) (sc:Nat),e=.returned (.slice sa ts.length sc)/\OwnT w.heap.size w' (.slice sa ts.length sc) ts.length ts/\w.grownBy w' none
theorem qKB (B:Nat)(w:World)(v:Value)(d:DfaV)(n k:Nat)(hB:B<=w.heap.size)(h:tR B w v d)(hd:VD d n k):Calls Tryz.prog 34 #[v] w (dG w (pG d n k)):=by
 obtain⟨fb,fo,fc,b,off,cap,RB,RO,RC,rfl,H3⟩:=h.at hd;have c8:=hd.n1;have a3:=hd.nbig;have c9:=hd.k6;have d4:=hd.k1;have d5:=H3.cap.1;have h8:=H3.cap.2;have b4:cap<=9223372036854775807:=by unfold maxLen at h8;omega
 obtain⟨wA,H0⟩:=Nm (w.alloc (.cells #[.int .i64 (k:Int),.int .i64 (st0 d:Int),.slice (some ⟨fb,fo,none⟩) n fc,.slice (some ⟨b,off,none⟩) n cap] 29));have h4:wA.heap[w.heap.size]?=some (.cells #[.int .i64 (k:Int),.int .i64 (st0 d:Int),.slice (some ⟨fb,fo,none⟩) n fc,.slice (some ⟨b,off,none⟩) n cap] 29 (0,0)):=by rw[H0];exact heap_alloc_new w _
 have H5:w.grownBy wA none:=by rw[H0];exact Ga w _ none
 have b2:wA.heap.size=w.heap.size+1:=by rw[H0,zW]
 obtain⟨P,hP⟩:=Nm w.heap.size;have a8:=Kh hP;rw[<-hP]at h4 hB b2;obtain⟨b1,c0,b7⟩:=K3 h4 H5 H0;have c4:=Kh (H3.kept H5 (by simp));have HD:=Kh hd;unfold dAgg;clear h4 H5 H0 H3 hd h h8;go_enter Tryz.func34,Tryz.ntmps34;go_upto_region 2 with fail;rw[<-b7.out,<-a8.out];clear hP;go_wp2
 go_loopg [3,4] k (fun gh v3 i wr=>∃(a:Nat) (sa:Option Addr) (sc:Nat),gh+a=k/\i=.int .i64 a/\v3=.slice sa a sc/\OwnT (P+1) wr (.slice sa a sc) a ((pG d n k).take a)/\wA.grownBy wr none)
 case atStart=>exact⟨0,none,0,rfl,rfl,rfl,by simpa using OwnT.nil _ _,zU _ _⟩
 obtain⟨a,sa,sc,hg,rfl,rfl,h2,h1⟩:=hrel;obtain⟨HG,h5,H2⟩:=K3 hg h2 h1;obtain⟨d0,d1,d2,d3⟩:=zL (zB b1.out h1);clear hg h2;by_cases ha:a<k
 ·have d6:(a:Int)<k:=by omega
  obtain⟨wo,rfl⟩:=Nm (wr:World);clear h1;go_wp2
  go_loopg [5,6,16] n (fun gh ov a6 i wr=>∃(q:Nat) (sr:Option Addr) (cr:Nat),gh+q=n/\i=.int .i64 q/\ov=.slice sr q cr/\wr.ownsRow wo.heap.size 3 1 (.slice sr q cr) q (nats ((colD d n a).take q))/\wo.grownBy wr none)
  case atStart=>exact⟨0,none,0,rfl,rfl,rfl,by simpa [nats] using World.ownsRow_nil _ _ _ _,zU _ _⟩
  obtain⟨q,sr,cr,hg,rfl,rfl,h2,h1⟩:=hrel;obtain⟨a9,h3,H1⟩:=K3 hg h2 h1;clear hg h2 d0 d1 d2 d3;obtain⟨d0,d1,d2,d3⟩:=zL (zB b1.out (zG H2.out h1));by_cases hq:q<n
  ·have c7:(q:Int)<n:=by omega
   have hA:=c4.out.kept (zG H2.out h1) (by simp);have ch:=hA.hd q hq;have ce:=hA.el q a hq ha;have c6:=(hA.rcap q hq).1;have b0:Hid ((colD d n a).take (q+1)=(colD d n a).take q++[nx d q a]):=Kh (qDF hq);obtain⟨s,hs⟩:=Nm (nx d q a);rw[<-hs]at ce b0;have b5:=h1.size;clear hA hs h1;go_wp2_with (first|(at_builtin;refine app1 rfl _ _ _ rfl yH wo.heap.size _ q (nats ((colD d n a).take q)) rfl h3.out _ rfl rfl ?c1 ?c2 ?c3 ?_)|fail)
   case c1=>unfold maxLen;omega
   case c2=>omega
   case c3=>exact b5
   intro sa' sc' w6 h0 h6 H4;have H6:=Kh h0;have H8:=Kh h6;clear h0 h6;go_wp2;go_roundg (n-(q+1))
   case measure=>have:=a9.out;omega
   refine⟨q+1,sa',sc',by omega,by go_num,rfl,?_,zC H1.out H8.out (fun q e=>(h3.out.lt q e).1)⟩;rw[b0.out,qF];exact H6.out
  have H9:q=n:=by have:=a9.out;omega
  have a5:(colD d n a).take q=colD d n a:=by have h9:=mA d n a;rw[H9];exact List.take_of_length_le (by omega)
  rw[a5]at h3;have b3:=h5.out.grow h1;obtain⟨hs,a2,a1,a0⟩:=b3;have h7:=RowT.of_owns h3.out;obtain⟨HR,H7,b9,b8⟩:=K4 h7 a2 a1 a0;have c5:=h1.size;have b6:P+1<=wr.heap.size:=by have:=H2.out.size;omega
  clear H9 a5 h1 h7 a2 a1 a0;go_wp2_with (first|(at_builtin;refine app1 rfl _ _ _ rfl wG (P+1) _ a hs rfl H7.out _ rfl rfl ?c1 ?c2 ?c3 ?_)|fail)
  case c1=>unfold maxLen;omega
  case c2=>omega
  case c3=>exact b6
  intro sa' sc' w6 h0 h6 H4
  have H6:Hid (OwnT (P+1) w6 (.slice sa' (a+1) sc') (a+1) ((pG d n k).take (a+1))):=Kh (by
   rw[bL ha]
   exact OwnT.push H7.out b9.out b8.out HR.out h0 h6)
  have H8:Hid (wA.grownBy w6 none):=Kh (zC (zG H2.out H1.out) h6 (fun x e=>by have:=(H7.out.lt x e).1;omega));clear h0 h6;go_wp2;go_roundg (k-(a+1))
  case measure=>have:=HG.out;omega
  exact⟨a+1,sa',sc',by omega,by go_num,rfl,H6.out,H8.out⟩
 have a7:a=k:=by have:=HG.out;omega
 have a4:=uE d n k;have HE:Hid ((pG d n k).take a=pG d n k/\(pG d n k).length=a):=Kh ⟨List.take_of_length_le (by omega),by rw[a4,a7]⟩;clear a7 h1 a4;go_wp2;go_ret;rw[HE.out.1]at h5;refine⟨sa,sc,by rw[HE.out.2];rfl,?_,zG c0.out H2.out⟩;rw[HE.out.2];exact h5.out.base (by have:=a8.out;omega)
def wT (f g:List Nat):List Nat:=f.map fun x=>g.getD x 0
theorem sY (f g:List Nat):(wT f g).length=f.length:=by simp[wT]
theorem qDE {f g:List Nat}{i:Nat}(h:i<f.length):(wT f g).getD i 0=g.getD (f.getD i 0) 0:=by rw[wT,xZ (x:=0) h]
def IsT (n:Nat)(f:List Nat):Prop:=f.length=n/\∀x∈f,x<n
theorem IsT.get {n:Nat}{f:List Nat}(h:IsT n f){i:Nat}(hi:i<n):f.getD i 0<n:=by
 rw[zN (by rw[h.1];exact hi)];exact h.2 _ (List.getElem_mem _)
theorem iG {n:Nat}{f g:List Nat}(hf:IsT n f)(hg:IsT n g):IsT n (wT f g):=by
 refine⟨by rw[sY,hf.1],fun x hx=>?_⟩;obtain⟨y,hy,rfl⟩:=List.mem_map.1 hx;exact hg.get (hf.2 y hy)
theorem qDA (w:World)(n:Nat)(hn:n<=100000):Calls Tryz.prog 124 #[.int .i64 (n:Int)] w (qFF w (List.range n)):=by
 go_enter Tryz.func124,Tryz.ntmps124;go_wp2_with (first|(at_make;refine qG rfl _ _ _ rfl yH rfl .i64 .i64 _ _ n rfl rfl rfl rfl ?b1 ?b2 ?_;(case b1=>omega);(case b2=>(unfold maxLen;omega));intro w2 h0 h4 h9)|fail);have h8:=Kh h0;have h6:=Kh h4;clear h0 h4
 go_loopg [4,9] n (fun gh a4 i wr=>∃k:Nat,gh+k=n/\i=.int .i64 k/\Arr wr w.heap.size 3 (nats (wX (List.range n) k))/\w.grownBy wr none)
 case atStart=>exact⟨0,rfl,rfl,by rw[uV,List.length_range,yN];exact h8.out,h6.out⟩
 clear h8 h6;obtain⟨k,hg,rfl,h0,h3⟩:=hrel;obtain⟨HG,HA,h5⟩:=K3 hg h0 h3;clear hg h3;by_cases hk:k<n
 ·have H0:(k:Int)<n:=by omega
  have cgk:=h0.nat k (by rw[yV (by simp;omega)];simpa using hk);have fgk:=h0.frozen k;have h1:=tL (l:=List.range n) (k:=k) (by simpa using hk);rw[show (List.range n).getD k 0=k from by rw[zN (by simpa using hk)];simp]at h1;have HS:=Kh h1;clear h1 h0;go_wp2;go_roundg (n-(k+1))
  case measure=>have:=HG.out;omega
  refine⟨k+1,by omega,by go_num,?_,zC h5.out (zF wr ⟨w.heap.size,k,none⟩ _) (fun q e=>by have h7:w.heap.size=q:=Oj e;omega)⟩;rw[<-HS.out];exact HA.out.nat_set k (by rw[yV (by simp;omega)];simpa using hk) k
 have h2:k=n:=by have:=HG.out;omega
 have HE:Hid (wX (List.range n) k=List.range n):=Kh (by have:=tM (List.range n);rw[List.length_range]at this;rw[h2];exact this);clear h2 h0;go_wp2;go_ret;refine⟨w.heap.size,by rw[List.length_range];rfl,Nat.le_refl _,?_,h5.out⟩;rw[<-HE.out];exact HA.out
theorem qES (B C:Nat)(w:World)(va vb:Value)(f g:List Nat)(n:Nat)(hB:B<=w.heap.size)(hC:C<=w.heap.size)(ha:Row B w va (nats f))(hb:Row C w vb (nats g))(hf:IsT n f)(hg:IsT n g)(hn:n<=100000):Calls Tryz.prog 125 #[va,vb] w (qFF w (wT f g)):=by
 obtain⟨va',vc,rfl⟩:=ha.shape;obtain⟨vb',vd,rfl⟩:=hb.shape;have H7:=hb.len_le;rw[zT,hf.1]at ha⊢;rw[zT,hg.1]at hb⊢;obtain⟨HA,HB,HF,H1⟩:=K4 ha hb hf hg;clear ha hb hf hg H7;go_enter Tryz.func125,Tryz.ntmps125;go_wp2_with (first|(at_make;refine qG rfl _ _ _ rfl yH rfl .i64 .i64 _ _ n rfl rfl rfl rfl ?b1 ?b2 ?_;(case b1=>omega);(case b2=>(unfold maxLen;omega));intro w2 h0 H0 H6)|fail);have H5:=Kh h0;have H3:=Kh H0;clear h0 H0;have h3:(wT f g).length=n:=by rw[sY,HF.out.1]
 go_loopg [6,7,13] n (fun gh a6 a7 i wr=>∃k:Nat,gh+k=n/\i=.int .i64 k/\Arr wr w.heap.size 3 (nats (wX (wT f g) k))/\w.grownBy wr none)
 case atStart=>exact⟨0,rfl,rfl,by rw[uV,h3,yN];exact H5.out,H3.out⟩
 clear H5 H3;obtain⟨k,hg,rfl,h0,h2⟩:=hrel;obtain⟨HG,H4,H2⟩:=K3 hg h0 h2;clear hg;by_cases hk:k<n
 ·have H9:(k:Int)<n:=by omega
  obtain⟨ib,io,ic,e,_,a3,a2,h8⟩:=(HA.out.kept h2 (by simp)).some_ (by rw[zT,HF.out.1];omega);simp only[Value.slice.injEq]at e;obtain⟨rfl,-,rfl⟩:=e;obtain⟨jb,jo,jc,e,_,a1,a0,h6⟩:=(HB.out.kept h2 (by simp)).some_ (by rw[zT,H1.out.1];omega);simp only[Value.slice.injEq]at e;obtain⟨rfl,-,rfl⟩:=e;have ca:=h8.nat k (by rw[HF.out.1];exact hk);have hx:=HF.out.get hk;have cb:=h6.nat (f.getD k 0) (by rw[H1.out.1];exact hx);have cgk:=h0.nat k (by rw[yV (by omega)];omega);have fgk:=h0.frozen k;have h1:=tL (l:=wT f g) (k:=k) (by omega);rw[qDE (by rw[HF.out.1];exact hk)]at h1;obtain⟨x,h5⟩:=Nm (f.getD k 0);rw[<-h5]at ca cb hx h1;obtain⟨y,h4⟩:=Nm (g.getD x 0);rw[<-h4]at cb h1;have H8:(x:Int)<n:=(by omega);have HS:=Kh h1;clear h1 h0 h2 h8 h6 h5 h4;go_wp2;go_roundg (n-(k+1))
  case measure=>have:=HG.out;omega
  refine⟨k+1,by omega,by go_num,?_,zC H2.out (zF wr ⟨w.heap.size,k,none⟩ _) (fun q e=>by have h7:w.heap.size=q:=Oj e;omega)⟩;rw[<-HS.out];exact H4.out.nat_set k (by rw[yV (by omega)];omega) y
 have h9:k=n:=by have:=HG.out;omega
 have HE:Hid (wX (wT f g) k=wT f g):=Kh (by rw[h9,<-h3];exact tM _);clear h9 h0 h2;go_wp2;go_ret;refine⟨w.heap.size,by rw[h3];rfl,Nat.le_refl _,?_,H2.out⟩;rw[<-HE.out];exact H4.out
def mX (ts:List (List Nat))(f:List Nat):Int:=if f∈ts then (ts.idxOf f:Int) else -1
theorem qOO {ts:List (List Nat)}{f:List Nat}{i:Nat}(hi:i<ts.length)(h:ts.getD i []=f)(a9:∀j,j<i->ts.getD j []≠f):mX ts f=i:=by
 have hm:f∈ts:=by rw[<-h,zN hi];exact List.getElem_mem _
 rw[mX,if_pos hm];have h1:=List.idxOf_lt_length_of_mem hm;have h2:=List.getElem_idxOf h1;have h3:¬ts.idxOf f<i:=fun hlt=>a9 _ hlt (by rw[zN h1];exact h2)
 have h4:¬i<ts.idxOf f:=fun hlt=>by
  have h5:=List.not_of_lt_findIdx (xs:=ts) (p:=(· == f)) (show i<ts.findIdx (· == f) from hlt);rw[zN hi]at h;simp[h]at h5
 omega
theorem qHM {ts:List (List Nat)}{f:List Nat}(a9:∀j,j<ts.length->ts.getD j []≠f):mX ts f = -1:=by
 rw[mX,if_neg];intro hm;obtain⟨i,hi,e⟩:=List.getElem_of_mem hm;exact a9 i hi (by rw[zN hi];exact e)
theorem eS (B C:Nat)(w:World)(va vb:Value)(ts:List (List Nat))(f:List Nat)(a9:TMat B w va ts)(hb:Row C w vb (nats f)):Calls Tryz.prog 63 #[va,vb] w fun e w'=>e=.returned (.int .i64 (mX ts f))/\∃m,w'=w.drewN m:=by
 obtain⟨ta,tc,rfl⟩:=a9.shape;have HT:=Kh a9;have HB:=Kh hb
 have H0:ts.length<=9223372036854775807:=by
  obtain⟨hs,h1,h2⟩:=a9;have:=h1.len_le;rw[h2.1]at this;unfold maxLen at this;omega
 clear a9 hb;go_enter Tryz.func63,Tryz.ntmps63;go_wp2
 go_loopg [5,8] ts.length (fun gh a5 i wr=>∃k:Nat,gh+k=ts.length/\i=.int .i64 k/\Hid (∀j,j<k->ts.getD j []≠f)/\∃m,wr=w.drewN m)
 case atStart=>exact⟨0,rfl,rfl,Kh (fun j hj=>by omega),0,rfl⟩
 obtain⟨k,hg,rfl,h6,m,rfl⟩:=hrel;have HG:=Kh hg;clear hg;by_cases hk:k<ts.length
 ·have H2:(k:Int)<ts.length:=by omega
  have h3:=HT.out.kept (zQ w m none) (by simp);obtain⟨b,off,cap,e,H3,h8,_,_,h5⟩:=h3.head (by omega);simp only[Value.slice.injEq]at e;obtain⟨rfl,-,rfl⟩:=e;obtain⟨a,c,ch,h4⟩:=h5 k hk;have H1:tc<=9223372036854775807:=by unfold maxLen at h8;omega
  have h0:=lR B C (w.drewN m) (.slice a (ts.getD k []).length c) vb ((ts.getD k []).map fun(x:Nat)=>(x:Int)) (f.map fun(x:Nat)=>(x:Int))
   (by rw[<-sK];exact h4.row) (by rw[<-sK];exact HB.out.kept (zQ w m none) (by simp))
  rw[qGD]at h0;obtain⟨t,ht⟩:=Nm (ts.getD k []);rw[<-ht]at ch h0;have h0:=Kh h0;have h7:=Kh ht;clear ht h3 h5 h4;by_cases he:t=f
  ·rw[decide_eq_true he]at h0
   have HF:Hid (mX ts f=k):=Kh (qOO hk (h7.out.symm.trans he) h6.out);clear he;go_wp2_with fail;refine h0.out.mono ?_;rintro e w2 ⟨rfl,m2,rfl⟩;go_wp2;go_ret;exact⟨yX HF.out.symm,m+m2,rfl⟩
  rw[decide_eq_false he]at h0
  have h9:Hid (∀j,j<k+1->ts.getD j []≠f):=Kh (fun j hj=>by
   rcases Nat.lt_succ_iff_lt_or_eq.1 hj with hj|rfl
   ·exact h6.out j hj
   rw[<-h7.out];exact he)
  clear he;go_wp2_with fail;refine h0.out.mono ?_;rintro e w2 ⟨rfl,m2,rfl⟩;go_wp2;go_roundg (ts.length-(k+1))
  case measure=>have:=HG.out;omega
  exact⟨k+1,by omega,by go_num,h9,m+m2,rfl⟩
 have HF:Hid (mX ts f = -1):=Kh (qHM (fun j hj=>h6.out j (by have:=HG.out;omega)));go_wp2;go_ret;exact⟨yX HF.out.symm,m,rfl⟩
theorem qLO (B:Nat)(w:World)(v:Value)(ts:List (List Nat))(hB:B<=w.heap.size)(h:TMat B w v ts)(hl:ts.length<=4096)(hr:∀t∈ts,t.length<=4096):Calls Tryz.prog 123 #[v] w (dG w ts):=by
 obtain⟨ta,tc,rfl⟩:=h.shape;have HT:=Kh h;have HR:=Kh hr;clear h hr;go_enter Tryz.func123,Tryz.ntmps123;go_wp2
 go_loopg [3,5,8] ts.length (fun gh v3 a5 i wr=>∃(k:Nat) (sa:Option Addr) (sc:Nat),gh+k=ts.length/\i=.int .i64 k/\v3=.slice sa k sc/\OwnT w.heap.size wr (.slice sa k sc) k (ts.take k)/\w.grownBy wr none)
 case atStart=>exact⟨0,none,0,rfl,rfl,rfl,by simpa using OwnT.nil _ _,zU _ _⟩
 obtain⟨k,sa,sc,hg,rfl,rfl,h3,h6⟩:=hrel;obtain⟨HG,h4,H9⟩:=K3 hg h3 h6;clear hg;by_cases hk:k<ts.length
 ·have b2:(k:Int)<ts.length:=by omega
  have h5:=HT.out.kept h6 (by simp);obtain⟨b,off,cap,e,b3,a2,_,_,h7⟩:=h5.head (by omega);simp only[Value.slice.injEq]at e;obtain⟨rfl,-,rfl⟩:=e;obtain⟨a,c,ch,h2⟩:=h7 k hk;have b1:tc<=9223372036854775807:=by unfold maxLen at a2;omega
  have H2:Hid (ts.take (k+1)=ts.take k++[ts.getD k []]):=Kh (yB hk);have a1:(ts.getD k []).length<=4096:=HR.out _ (by rw[zN hk];exact List.getElem_mem _);obtain⟨t,ht⟩:=Nm (ts.getD k []);rw[<-ht]at ch h2 H2 a1;have h9:=Kh h2;have a9:=h6.size;clear ht h5 h7 h2 h6 h3;go_wp2_with (first|(at_builtin;refine appR rfl _ _ _ rfl yH wr.heap.size (.slice (some ⟨wr.heap.size,0,none⟩) 0 0) 0 [] rfl (qBZ (heap_alloc_new wr _) (Nat.le_refl _)) _ (nats t) rfl ⟨_,h9.out.row.kept (Ga wr _ none) (by simp)⟩ (qNQ _) t.length (by simp[nats]) (by unfold maxLen;omega) (by omega) (by rw[zW];omega) ?_;intro sr cr w6 h1 H7;(have a4:=Kh h1);(have H1:Hid (wr.grownBy w6 none):=Kh (zC (Ga wr (.cells #[] 3) none) H7 (fun x e=>by have:wr.heap.size=x:=Oj e;omega)));clear h1 H7;obtain⟨hs,H5,H4,H3⟩:=h4.out.grow H1.out;(have H0:=Kh H5);(have a7:=Kh H4);(have a6:=Kh H3);(have b0:=H1.out.size);clear H5 H4 H3)|(at_builtin;refine app1 rfl _ _ _ rfl wG w.heap.size _ k hs rfl H0.out _ rfl rfl ?c1 ?c2 ?c3 ?_)|fail)
  case c1=>unfold maxLen;omega
  case c2=>omega
  case c3=>omega
  intro sa' sc' w8 h0 h8 a0
  have a3:Hid (OwnT w.heap.size w8 (.slice sa' (k+1) sc') (k+1) (ts.take (k+1))):=Kh (by
   rw[H2.out]
   exact OwnT.push H0.out a7.out a6.out (RowT.of_owns a4.out) h0 h8)
  have a8:Hid (w.grownBy w8 none):=Kh (zC (zG H9.out H1.out) h8 (fun x e=>(H0.out.lt x e).1));clear h0 h8;go_wp2;go_roundg (ts.length-(k+1))
  case measure=>have:=HG.out;omega
  exact⟨k+1,sa',sc',by omega,by go_num,rfl,a3.out,a8.out⟩
 have H6:k=ts.length:=by have:=HG.out;omega
 have HE:Hid (ts.take k=ts):=Kh (List.take_of_length_le (by omega));have H8:=Kh H6;rw[HE.out]at h4;clear H6 h6 h3;go_wp2;go_ret;exact⟨sa,sc,by rw[<-H8.out];rfl,by rw[<-H8.out];exact h4.out,H9.out⟩
theorem qGK (B:Nat)(w:World)(v:Value)(f:List Nat)(n:Nat)(h:Row B w v (nats f))(hf:IsT n f)(h1:1<=n)(a9:n<=32):Calls Tryz.prog 156 #[v] w fun e w'=>e=.returned (.bool true)/\w=w':=by
 obtain⟨b,off,cap,rfl,_,h4,h3,h2⟩:=h.some_ (by rw[zT,hf.1];omega);have h7:cap<=9223372036854775807:=by unfold maxLen at h3;omega
 rw[zT,hf.1]at h4⊢;have h5:=Kh h2;have HF:=Kh hf;clear h hf h2 h3;go_enter Tryz.func156,Tryz.ntmps156;go_wp2
 go_loopg [15] n (fun gh i wr=>∃k:Nat,gh+k=n/\i=.int .i64 k/\w=wr)
 case atStart=>exact⟨0,rfl,rfl,rfl⟩
 obtain⟨k,hg,rfl,rfl⟩:=hrel;have HG:=Kh hg;clear hg;by_cases hk:k<n
 ·have ck:=h5.out.nat k (by rw[HF.out.1];exact hk)
  have hx:=HF.out.get hk;obtain⟨x,h0⟩:=Nm (f.getD k 0);rw[<-h0]at ck hx;have h6:(x:Int)<n:=(by omega);clear h0;go_wp2;go_roundg (n-(k+1))
  case measure=>have:=HG.out;omega
  exact⟨k+1,by omega,by go_num,rfl⟩
 go_wp2;go_ret;exact⟨rfl,rfl⟩
theorem qEI (B:Nat)(w:World)(v:Value)(ts:List (List Nat))(n:Nat)(h:TMat B w v ts)(a9:∀t∈ts,IsT n t)(h1:1<=n)(a6:n<=32)(a7:1<=ts.length)(a8:ts.length<=6):Calls Tryz.prog 122 #[v] w fun e w'=>e=.returned (.bool true)/\w=w':=by
 obtain⟨b,off,cap,rfl,h9,h8,_,_,h0⟩:=h.head (by omega);have H3:cap<=9223372036854775807:=by unfold maxLen at h8;omega
 have H0:=h0 0 (by omega);obtain⟨a0,c0,ch0,h2⟩:=H0;have h7:(ts.getD 0 []).length=n:=(a9 _ (by rw[zN (by omega)];exact List.getElem_mem _)).1;rw[h7]at ch0;rw[Nat.add_zero]at ch0;have h4:=Kh h0;have H1:=Kh a9;obtain⟨L,hL⟩:=Nm ts.length;rw[<-hL]at h9 a7 a8 h4⊢;have H2:=Kh hL;clear h a9 h0 h8 h2 h7 hL;go_enter Tryz.func122,Tryz.ntmps122;go_wp2
 go_loopg [15] L (fun gh i wr=>∃k:Nat,gh+k=L/\i=.int .i64 k/\w=wr)
 case atStart=>exact⟨0,rfl,rfl,rfl⟩
 obtain⟨k,hg,rfl,rfl⟩:=hrel;have HG:=Kh hg;clear hg;by_cases hk:k<L
 ·obtain⟨a,c,ch,h3⟩:=h4.out k hk
  have h5:IsT n (ts.getD k []):=H1.out _ (by rw[zN (by have:=H2.out;omega)];exact List.getElem_mem _);have h6:=h5.1;have HV:=Kh (qGK B w _ _ n h3.row h5 h1 a6);rw[h6]at ch HV;have e1:((n:Int) != (n:Int))=false:=by simp
  clear h3 h5 h6;go_wp2_with fail;refine HV.out.mono ?_;rintro e w1 ⟨rfl,rfl⟩;go_wp2;go_roundg (L-(k+1))
  case measure=>have:=HG.out;omega
  exact⟨k+1,by omega,by go_num,rfl⟩
 go_wp2;go_ret;exact⟨rfl,rfl⟩
theorem iU (w:World)(a:Nat)(ha:a<26):Calls Tryz.prog 92 #[.int .i64 (a:Int)] w fun e w'=>e=.returned (.string (strOfNums [97+(a:Int)]))/\w.grownBy w' none:=by
 have h1:IntKind.u8.wrap (97+(a:Int))=97+(a:Int):=IntWalk.u8_in _ (by omega);obtain⟨X,hX⟩:=Nm (strOfNums [97+(a:Int)]);have h0:∀(W:World) (g:Nat),W.cell? ⟨g,0,none⟩=some (.int .u8 (97+(a:Int)))->(convert 72 9 (.slice (some ⟨g,0,none⟩) 1 1)).run Tryz.prog W=.ok (.string X) W:=fun W g h=>by rw[hX];exact eD 72 5 Tryz.underlying72 Tryz.underlying5 9 Tryz.underlying9 h
 rw[<-hX];clear hX;go_enter Tryz.func92,Tryz.ntmps92;go_wp2;go_ret;exact⟨rfl,Ga _ _ none⟩
end Go.Proofs.YtobakifdllameaaGreat
namespace Go.Proofs.YtobakifdllameaaGreat
def lets (w:List Nat):List Int:=w.map fun(a:Nat)=>97+(a:Int)
end Go.Proofs.YtobakifdllameaaGreat
