/- Part 13 of the proof. -/
import Derived.Test.YtjfdomfendbhfaaQf12
import Derived.BigRegion
import Derived.Deep.OwnRows
set_option linter.unusedVariables false
set_option linter.unusedSimpArgs false
set_option maxRecDepth 100000
set_option maxHeartbeats 16000000
namespace Go.Proofs.Ytjfdomfendbhfaa
open Go.RowKit
theorem qGZ {s k a n:Nat}(hs:s<n)(ha:a<k)(hk:k<=6)(hn:n<=4000):IntKind.i64.wrap ((s:Int) * (k:Int))=((s * k:Nat):Int)/\wrap64 ((s:Int) * (k:Int))=((s * k:Nat):Int)/\IntKind.i64.wrap (((s * k:Nat):Int)+(a:Int))=((s * k+a:Nat):Int)/\wrap64 (((s * k:Nat):Int)+(a:Int))=((s * k+a:Nat):Int)/\s * k+a<n * k:=by
 have h1:s * k<=4000 * 6:=Nat.mul_le_mul (by omega) hk;have e:(s:Int) * (k:Int)=((s * k:Nat):Int):=by simp
 have h2:s * k+k<=n * k:=by rw[<- Nat.succ_mul];exact Nat.mul_le_mul_right k hs
 rw[e]
 generalize s * k=Y at h1 h2 ⊢
 have e2:(Y:Int)+(a:Int)=((Y+a:Nat):Int):=by omega
 rw[e2];exact⟨wG (by omega),IntWalk.wrap64_in _ (by omega),wG (by omega),IntWalk.wrap64_in _ (by omega),by omega⟩
def mrkN (d:DfaV)(n k:Nat):List Nat:=(List.range n).map fun s=>if s<k/\d.final.getD s false=true then 1 else 0
theorem qD (d:DfaV)(n k:Nat):(mrkN d n k).length=n:=by simp[mrkN]
theorem mrkN_zero (d:DfaV)(n:Nat):mrkN d n 0=List.replicate n 0:=by
 refine List.ext_getElem (by simp[mrkN]) fun i h1 h2=>by simp[mrkN]
theorem mrkN_yes {d:DfaV}{n k:Nat}(hk:k<n)(h:d.final.getD k false=true):(mrkN d n k).set k 1=mrkN d n (k+1):=by
 refine List.ext_getElem (by simp[mrkN]) fun i h1 h2=>?_;rw[List.getElem_set];simp only[mrkN,List.getElem_map,List.getElem_range]
 split
 ·rename_i e;subst e;rw[if_pos ⟨by omega,h⟩]
 ·rename_i e
  by_cases hi:i<k/\d.final.getD i false=true
  ·rw[if_pos hi,if_pos ⟨by omega,hi.2⟩]
  ·rw[if_neg hi,if_neg (fun h'=>hi ⟨by omega,h'.2⟩)]
theorem mrkN_no {d:DfaV}{n k:Nat}(h:d.final.getD k false=false):mrkN d n k=mrkN d n (k+1):=by
 refine List.map_congr_left fun i hi=>?_;by_cases hi:i<k/\d.final.getD i false=true
 ·rw[if_pos hi,if_pos ⟨by omega,hi.2⟩]
 ·rw[if_neg hi,if_neg (fun h'=>by
   by_cases e:i=k
   ·subst e;rw[h]at h';cases h'.2
   ·exact hi ⟨by omega,h'.2⟩)]
theorem fin_part0 {d:DfaV}{n k:Nat}(hd:VD d n k):numb (rO 2 (List.replicate n 0) (mrkN d n n))=oE d:=by
 have hl:(rO 2 (List.replicate n 0) (mrkN d n n)).length=n:=by rw[tV (by rw[qD];simp)];simp
 refine mR _ _ (by rw[hl,List.length_map,hd.hn]) fun i j hi hj=>?_;rw[hl]at hi hj
 have key:∀ i (hi:i<n),(rO 2 (List.replicate n 0) (mrkN d n n))[i]'(by rw[hl];exact hi)=if d.final.getD i false=true then 1 else 0:=fun i hi=>by
  simp[rO,mrkN,hi]
 have key2:∀ i (hi:i<n),(d.final.map finB)[i]'(by rw[List.length_map,hd.hn];exact hi)=finB (d.final.getD i false):=fun i hi=>by
  rw[zG (show i<d.final.length by rw[hd.hn];exact hi)];simp
 rw[key i hi,key j hj,key2 i hi,key2 j hj];cases d.final.getD i false<;>cases d.final.getD j false<;>simp[finB]
def midM (d:DfaV)(p q:List Nat)(a j:Nat):List Nat:=(sG d p a).take j++q.drop j
theorem eO {d:DfaV}{p q:List Nat}{a j:Nat}(h:q.length=p.length)(hj:j<=p.length):(midM d p q a j).length=p.length:=by simp[midM,xC,h];omega
theorem midM_set {d:DfaV}{p q:List Nat}{a j:Nat}(h:q.length=p.length)(hj:j<p.length):(midM d p q a j).set j (p.getD (nx d j a) 0)=midM d p q a (j+1):=by
 have hl:((sG d p a).take j).length=j:=by rw[List.length_take,xC];omega
 rw[midM,List.set_append_right _ _ (by omega),hl,Nat.sub_self,midM,zR (d:=0) (by rw[xC];omega),List.append_assoc,pY hj];rw[List.drop_eq_getElem_cons (show j<q.length by omega),List.set_cons_zero];rfl
theorem midM_end {d:DfaV}{p q:List Nat}{a j:Nat}(h:q.length=p.length)(hj:j=p.length):midM d p q a j=sG d p a:=by
 subst hj;rw[midM,List.drop_of_length_le (by omega),List.append_nil,List.take_of_length_le (by rw[xC];exact Nat.le_refl _)]
theorem colTo_ltc {d:DfaV}{p:List Nat}{a:Nat}{c:Nat}(h:∀ x∈p,x<c)(h0:0<c):∀ x∈sG d p a,x<c:=fun x hx=>by
 simp only[sG,List.mem_map,List.mem_range]at hx
 obtain⟨q,_,rfl⟩:=hx
 exact tL h h0
theorem norm_lt_cls' {p:List Nat}(h:Norm p):∀ x∈p,x<cls p:=fun x hx=>by
 obtain⟨i,hi,rfl⟩:=List.getElem_of_mem hx
 have:=tB h hi
 rwa [zG hi]at this
structure MachAt (w:World)(o k n:Nat)(d:DfaV)(nb no nc fb fo fc:Nat)(nxs:List Nat):Prop where
 box:w.heap[o]?=some (.cells #[.int .i64 (k:Int),.slice (some ⟨nb,no,none⟩) (n * k) nc,.slice (some ⟨fb,fo,none⟩) n fc] 113 (0,0))
 nx:∀ s a,s<n->a<k->w.cell? ⟨nb,no+(s * k+a),none⟩=some (.int .i64 ((nx d s a:Nat):Int))
 fin:∀ s,s<n->w.cell? ⟨fb,fo+s,none⟩=some (.bool (d.final.getD s false))
 nlt:nb<w.heap.size
 flt:fb<w.heap.size
 ncap:n * k<=nc/\nc<=maxLen
 fcap:n<=fc/\fc<=maxLen
theorem MachAt.kept {w w':World}{o k n:Nat}{d:DfaV}{nb no nc fb fo fc:Nat}{nxs:List Nat}{row:Option Nat}(h:MachAt w o k n d nb no nc fb fo fc nxs)(hg:w.grownBy w' row)(h1:row≠some o)(h2:row≠some nb)(h3:row≠some fb):MachAt w' o k n d nb no nc fb fo fc nxs :=
 ⟨zA h.box hg h1,fun s a hs ha=>(World.cell?_of_block (hg.block _ h.nlt (fun e=>h2 e.symm))).trans (h.nx s a hs ha),fun s hs=>(World.cell?_of_block (hg.block _ h.flt (fun e=>h3 e.symm))).trans (h.fin s hs),Nat.lt_of_lt_of_le h.nlt hg.size,Nat.lt_of_lt_of_le h.flt hg.size,h.ncap,h.fcap⟩
theorem mclasses_any (w:World)(o k n:Nat)(d:DfaV)(nb no nc fb fo fc:Nat)(nxs:List Nat)(hd:VD d n k)(hn:n<=4000)(h:MachAt w o k n d nb no nc fb fo fc nxs):
  Calls Try.prog 89 #[.pointer (some ⟨o,0,none⟩)] w fun e w'=>∃ (p:List Nat) (g:Nat),e=.returned (.tuple #[.slice (some ⟨g,0,none⟩) n n,.int .i64 ((cls p:Nat):Int)])/\Arr w' g 3 (nats p)/\w.heap.size<=g/\w.grownBy w' none/\SeqI d n k p/\(512<cls p\/p=zU d k):=by
 have H:=Kh h;have HD:=Kh hd;have g5:=hd.k6;have j5:=hd.k1;have j4:=hd.n1;have j2:=zI h.box;have j3:=h.nlt;have j6:=h.flt;have g7:=h.fcap.1;have g6:fc<=9223372036854775807:=by have:=h.fcap.2;unfold maxLen at this;omega
 have g0:nc<=9223372036854775807:=by have:=h.ncap.2;unfold maxLen at this;omega
 obtain⟨p0,p1,p2⟩:=zH h.box;obtain⟨nk,d0⟩:∃ x,x=n * k:=⟨_,rfl⟩;rw[<- d0]at p1;have H8:=Kh d0;clear h hd d0;go_enter Try.func89,Try.ntmps89;go_upto_region 2 with (first|(at_make;refine nD rfl _ _ _ rfl yP rfl .i64 .i64 _ _ n rfl rfl rfl rfl ?b1 ?b2 ?_;(case b1=>omega);(case b2=>(unfold maxLen;omega));intro w1 d7 d1 g3)|fail)
 have H1:=Kh (H.out.kept d1 (by simp) (by simp) (by simp));obtain⟨p0,p1,p2⟩:=zH H1.out.box;rw[<- H8.out]at p1;obtain⟨C,hC⟩:∃ b,b=w.heap.size:=⟨_,rfl⟩;rw[<- hC]at d7 ⊢;have f7:=Kh d7;have f5:=Kh d1;have HC:=Kh hC;have e9:w.heap.size<=C:=by omega
 have i0:C<w1.heap.size:=by omega
 clear d7 d1 hC;go_upto_region 3 with (first|(at_make;refine nD rfl _ _ _ rfl yP rfl .i64 .i64 _ _ n rfl rfl rfl rfl ?b3 ?b4 ?_;(case b3=>omega);(case b4=>(unfold maxLen;omega));intro w2 d6 c3 g2)|fail)
 have H2:=Kh (H1.out.kept c3 (by simp) (by simp) (by simp));obtain⟨p0,p1,p2⟩:=zH H2.out.box;rw[<- H8.out]at p1;obtain⟨M,hM⟩:∃ b,b=w1.heap.size:=⟨_,rfl⟩;rw[<- hM]at d6 ⊢;have H7:C≠M:=by omega
 have g9:w.heap.size<=M:=by omega
 have f6:=Kh d6;have b7:=Kh (f7.out.kept c3 (by simp));have f4:=Kh (zB f5.out c3 (by simp));clear d6 c3 f7 f5 hM H1;go_wp2_with fail
 go_loopg [6,7,29] n (fun gh a6 a7 i wr=>∃ s:Nat,gh+s=n/\i=.int .i64 s/\Arr wr C 3 (nats (List.replicate n 0))/\Arr wr M 3 (nats (mrkN d n s))/\w.grownBy wr none)
 case atStart=>exact⟨0,rfl,rfl,by rw[yV];exact b7.out,by rw[mrkN_zero,yV];exact f6.out,f4.out⟩
 case round =>
  clear f6 b7 f4 p0 p1 p2 H2;obtain⟨s,h5,rfl,hc,hm,hg⟩:=hrel;have H0:=Kh h5;have a0:=Kh hc;have HM:=Kh hm;have HG:=Kh hg;have HH:=Kh (H.out.kept hg (by simp) (by simp) (by simp));clear h5;by_cases hs:s<n
  ·have b9:(s:Int)<n:=by omega
   have c1:=HH.out.fin s hs;have H4:=mrkN_yes (d:=d) hs;have c9:=mrkN_no (d:=d) (n:=n) (k:=s);obtain⟨b,hb⟩:∃ b,b=d.final.getD s false:=⟨_,rfl⟩;rw[<- hb]at c1 H4 c9;have f1:=hm.frozen s;have c2:=Arr.nat hm s (by rw[qD];exact hs);have g1:=hm.lt;have d8:=Kh H4;have i8:=Kh c9;clear hb hc hm hg H4 c9;cases b with
   | true =>
    go_wp2;go_roundg (n - (s+1))
    case measure=>have:=H0.out;omega
    case rel =>
     have a3:=zC wr ⟨M,s,none⟩ (.int .i64 1);refine⟨s+1,by have:=H0.out;omega,by go_num,a0.out.kept a3 (fun e=>H7 (Oj e).symm),?_,zB HG.out a3 (fun j e=>by have e:M=j:=Oj e;omega)⟩;rw[<- d8.out (by first|rfl|trivial)];exact HM.out.nat_set s (by rw[qD];exact hs) 1
   | false =>
    go_wp2;go_roundg (n - (s+1))
    case measure=>have:=H0.out;omega
    case rel=>exact⟨s+1,by have:=H0.out;omega,by go_num,a0.out,by rw[<- i8.out (by first|rfl|trivial)];exact HM.out,HG.out⟩
  ·have a1:s=n:=by have:=H0.out;omega
   have b9:¬ (s:Int)<n:=by omega
   have b0:Hid (Calls Try.prog 114 #[.slice (some ⟨C,0,none⟩) n n,.slice (some ⟨M,0,none⟩) n n,.int .i64 1,.int .i64 2] wr fun e w'=>e=.returned (.int .i64 ((cls (oE d):Nat):Int))/\Arr w' C 3 (nats (oE d))/\wr.grownBy w' (some C)):=Kh (by
    have h9:=qBE wr C M n 1 2 (List.replicate n 0) (mrkN d n n) (by simp) (qD _ _ _) (fun x hx=>by have:=(List.mem_replicate.1 hx).2;omega) (fun x hx=>by
     simp only[mrkN,List.mem_map]at hx;obtain⟨y,_,rfl⟩:=hx
     split<;>omega) (by omega) (by omega) (by omega) (by omega) H7 a0.out (by have:=HM.out;rw[a1]at this;exact this)
    rw[fin_part0 HD.out]at h9
    exact h9)
   have f2:Hid (∃ q:List Nat,q.length=n/\Arr wr M 3 (nats q)):=Kh ⟨_,qD _ _ _,HM.out⟩;clear a1 hc hm hg HM a0;go_wp2_with fail;refine b0.out.mono ?_;rintro e w4 ⟨rfl,a9,H5⟩;have b6:=Kh a9;have c5:=Kh (zB HG.out H5 (fun j e=>by have e:C=j:=Oj e;omega));obtain⟨q,hq,e6⟩:=f2.out;have f0:=Kh (e6.kept H5 (fun e=>H7 (Oj e)));have HQ:=Kh hq;have a5:=SeqI.start HD.out;obtain⟨pp,e7⟩:∃ p,p=oE d:=⟨_,rfl⟩;rw[<- e7]at b6 a5 ⊢;have h7:=Kh a5;clear a9 H5 hq e6 e7 a5 f2 b0 HG H0 hs b9;go_upto_region 11 with fail
   go_loopg [8,9,10,11,64] n (fun gh v8 v9 a10 a11 i64_ wr=>∃ (bf:Nat) (p q:List Nat),gh+bf=n/\v8=.int .i64 ((cls p:Nat):Int)/\v9=.int .i64 (bf:Int)/\SeqI d n k p/\bf<=cls p/\(bf=cls p->p=zU d k)/\q.length=n/\Arr wr C 3 (nats p)/\Arr wr M 3 (nats q)/\w.grownBy wr none)
   case atStart=>exact⟨0,pp,q,rfl,rfl,rfl,h7.out,Nat.zero_le _,fun e=>absurd e.symm (Nat.ne_of_gt (kI (by rw[h7.out.len];omega))),HQ.out,b6.out,f0.out,c5.out⟩
   case round =>
    clear h7 b6 f0 c5 HQ;obtain⟨bf,p,q,h5,rfl,rfl,c7,g4,e0,a2,hC,hM,hg⟩:=hrel;have H0:=Kh h5;have h7:=Kh c7;have i5:=Kh e0;have h8:=Kh a2;have HC:=Kh hC;have HM:=Kh hM;have HG:=Kh hg;have a5:cls p<=n:=by have:=cls_le p;rw[c7.len]at this;exact this
    obtain⟨cp,a4⟩:∃ c,c=cls p:=⟨_,rfl⟩;rw[<- a4]at g4 a5 ⊢;have H9:=Kh a4;clear h5 c7 e0 a2 hC hM a4;by_cases h1:bf<cp
    case neg =>
     have i4:¬ (bf:Int)<cp:=(by omega);have HP:Hid (p=zU d k):=Kh (i5.out (by rw[<- H9.out];omega));clear hg;go_wp2;refine bodyPost_ret (v:=.tuple #[.slice (some ⟨C,0,none⟩) n n,.int .i64 (cp:Int)]) (by simp[results,Try.results89,go_sem]) rfl ?_;exact⟨p,C,by rw[H9.out],HC.out,e9,HG.out,h7.out,.inr HP.out⟩
    have i4:(bf:Int)<cp:=(by omega);by_cases h2:cp<=512
    case neg =>
     have i3:¬ (cp:Int)<=512:=by omega
     clear hg;go_wp2;refine bodyPost_ret (v:=.tuple #[.slice (some ⟨C,0,none⟩) n n,.int .i64 (cp:Int)]) (by simp[results,Try.results89,go_sem]) rfl ?_;exact⟨p,C,by rw[H9.out],HC.out,e9,HG.out,h7.out,.inl (by rw[<- H9.out];omega)⟩
    have i3:(cp:Int)<=512:=by omega
    clear hg;go_wp2;obtain⟨wo,rfl⟩:∃ wo:World,wo=wr:=⟨_,rfl⟩
    go_loopg [8,10,11,64] k (fun gh v8 v10 a11 i64_ wr=>∃ (a:Nat) (q:List Nat),gh+a=k/\v10=.int .i64 (a:Int)/\v8=.int .i64 ((cls (lX d p a):Nat):Int)/\q.length=n/\Arr wr C 3 (nats (lX d p a))/\Arr wr M 3 (nats q)/\w.grownBy wr none)
    case atStart=>exact⟨0,q,rfl,rfl,by rw[H9.out];rfl,h8.out,HC.out,HM.out,HG.out⟩
    case round =>
     clear HC HM HG h8;obtain⟨a,q,h5,rfl,rfl,a2,hC,hM,hg⟩:=hrel;have d5:a<=k:=by omega
     have b8:=h7.out.to HD.out a d5;have a8:=fP HD.out h7.out a d5;have c4:=Kh (cU HD.out h7.out a d5);obtain⟨pa,c8⟩:∃ x,x=lX d p a:=⟨_,rfl⟩;rw[<- c8]at b8 a8 hC c4 ⊢;have i7:=Kh c8;have b5:=Kh b8;have f3:=Kh h5;have h8:=Kh a2;have HC:=Kh hC;have HM:=Kh hM;have HG:=Kh hg;have d2:cls pa<=n:=by have:=cls_le pa;rw[b8.len]at this;exact this
     obtain⟨ca,d3⟩:∃ c,c=cls pa:=⟨_,rfl⟩;rw[<- d3]at a8 d2 c4 ⊢;rw[<- H9.out]at a8 c4;have H3:=Kh d3;have HH:=Kh (H.out.kept hg (by simp) (by simp) (by simp));obtain⟨p0,p1,p2⟩:=zH HH.out.box;rw[<- H8.out]at p1;clear h5 a2 hC hM d3 c8 b8;by_cases h3:a<k
     case neg =>
      have i2:¬ (a:Int)<k:=(by omega);have d4:a=k:=by omega
      have i6:Hid (cp=ca->pa=zU d k):=Kh (fun e=>by
       obtain⟨e1,e2⟩:=c4.out e.symm;rw[e1]
       exact h7.out.stable HD.out (fun b hb=>e2 b (by omega)))
      clear hg d4;go_wp2;go_roundg (n - cp)
      case measure=>have:=H0.out;omega
      case rel=>exact⟨cp,pa,q,by omega,by rw[H3.out],rfl,b5.out,by rw[<- H3.out];exact a8,fun e=>i6.out (by rw[H3.out];exact e),h8.out,HC.out,HM.out,HG.out⟩
     have i2:(a:Int)<k:=(by omega);by_cases h4:ca<=512
     case neg =>
      have i1:¬ (ca:Int)<=512:=by omega
      clear hg;go_wp2;go_roundg (n - cp)
      case measure=>have:=H0.out;omega
      case rel=>exact⟨cp,pa,q,by omega,by rw[H3.out],rfl,b5.out,by rw[<- H3.out];exact a8,fun e=>absurd e (by rw[<- H3.out];omega),h8.out,HC.out,HM.out,HG.out⟩
     have i1:(ca:Int)<=512:=by omega
     have g8:1<=ca:=by rw[H3.out];exact kI (by rw[b5.out.len];omega)
     clear hg;go_wp2;obtain⟨wo2,rfl⟩:∃ wo2:World,wo2=wr:=⟨_,rfl⟩;clear p0 p1 p2
     go_loopg [11,64] n (fun gh a11 i wr=>∃ s:Nat,gh+s=n/\i=.int .i64 s/\Arr wr C 3 (nats pa)/\Arr wr M 3 (nats (midM d pa q a s))/\w.grownBy wr none)
     case atStart=>exact⟨0,rfl,rfl,HC.out,by rw[show midM d pa q a 0=q by simp[midM]];exact HM.out,HG.out⟩
     case round =>
      clear HC HM HG HH;obtain⟨s,h5,rfl,hC,hM,hg⟩:=hrel;have d9:=Kh h5;have HC:=Kh hC;have HM:=Kh hM;have HG:=Kh hg;have HH:=Kh (H.out.kept hg (by simp) (by simp) (by simp));have h6:pa.length=n:=b5.out.len;have h0:=Kh h6;by_cases hs:s<n
      ·have b9:(s:Int)<n:=by omega
       obtain⟨p0,p1,p2⟩:=zH HH.out.box;rw[<- H8.out]at p1;have cN:=HH.out.nx s a hs h3;have c6:=qC HD.out hs h3;have cC:=Arr.nat hC (nx d s a) (by rw[h6];exact c6);have fM:=hM.frozen s;have cM:=Arr.nat hM s (by rw[eO (by rw[h8.out,h6]) (by omega),h6];exact hs);have g1:=hM.lt;have c0:=midM_set (d:=d) (p:=pa) (q:=q) (a:=a) (by rw[h8.out,h6]) (by rw[h6];exact hs);obtain⟨e1,e2,e3,e4,e5⟩:=qGZ hs h3 g5 hn;rw[<- H8.out]at e5;obtain⟨X,hX⟩:∃ X,X=s * k+a:=⟨_,rfl⟩;rw[<- hX]at cN e3 e4 e5;obtain⟨Y,hY⟩:∃ Y,Y=s * k:=⟨_,rfl⟩;rw[<- hY]at e1 e2 e3 e4;obtain⟨t,ht⟩:∃ t,t=nx d s a:=⟨_,rfl⟩;rw[<- ht]at cN cC c6 c0;obtain⟨c,hc⟩:∃ c,c=pa.getD t 0:=⟨_,rfl⟩;rw[<- hc]at cC c0;have i9:=Kh c0;have e5':(X:Int)<nk:=(by exact_mod_cast e5);have f8:(t:Int)<n:=(by exact_mod_cast c6);have f9:nk<=nc:=by rw[H8.out];exact HH.out.ncap.1
       obtain⟨wo3,rfl⟩:∃ wo3:World,wo3=wr:=⟨_,rfl⟩;clear hC hM hg hX hY ht hc c0 h5 h6;go_wp2
       go_region
       all_goals (try go_frame)
       all_goals go_wp2
       all_goals
        go_roundg (n - (s+1))
        case measure=>have:=d9.out;clear e1 e2 e3 e4;omega
        case rel =>
         have a3:wo3.grownBy (wo3.drew.setCell ⟨M,s,none⟩ (.int .i64 (c:Int))) (some M):=zD (zP wo3 (some M)) (zC wo3.drew ⟨M,s,none⟩ (.int .i64 (c:Int)));refine⟨s+1,by have:=d9.out;clear e1 e2 e3 e4;omega,by go_num,HC.out.kept a3 (fun e=>H7 (Oj e).symm),?_,zB HG.out a3 (fun j e=>by have e:M=j:=Oj e;rw[<- e];exact g9)⟩;rw[<- i9.out];exact(HM.out.of_heap (w':=wo3.drew) rfl).nat_set s (by rw[eO (by rw[h8.out,h0.out]) (by rw[h0.out];exact Nat.le_of_lt hs),h0.out];exact hs) c
      ·have a1:s=n:=by have:=d9.out;omega
       have b9:¬ (s:Int)<n:=(by omega);have j0:Hid (midM d pa q a s=sG d pa a):=Kh (midM_end (by rw[h8.out,h6]) (by rw[h6];exact a1));rw[j0.out]at HM
       have b0:Hid (Calls Try.prog 114 #[.slice (some ⟨C,0,none⟩) n n,.slice (some ⟨M,0,none⟩) n n,.int .i64 (ca:Int),.int .i64 (ca:Int)] wr fun e w'=>e=.returned (.int .i64 ((cls (lX d p (a+1)):Nat):Int))/\Arr w' C 3 (nats (lX d p (a+1)))/\wr.grownBy w' (some C)):=Kh (by
        have e8:∀ x∈pa,x<ca:=(by rw[H3.out];exact norm_lt_cls' b5.out.norm);have a4:ca<=pa.length:=by rw[H3.out];exact cls_le pa
        have H6:=colTo_ltc (d:=d) (a:=a) e8 (by omega);have h9:=qBE wr C M n ca ca pa (sG d pa a) h0.out (by rw[xC,h0.out]) e8 H6 (Nat.le_trans (Nat.mul_le_mul h4 h4) (by decide)) (by omega) (by omega) (by omega) H7 HC.out HM.out;rw[pairs_both8 (by rw[xC]) H6 (fun x hx=>Nat.lt_of_lt_of_le (H6 x hx) a4)]at h9;rw[show lX d p (a+1)=gL pa (sG d pa a) by rw[i7.out];rfl]
        exact h9)
       clear a1 hC hM hg h6 h5;go_wp2_with fail;refine b0.out.mono ?_;rintro e w4 ⟨rfl,a9,H5⟩;have b6:=Kh a9;have c5:=Kh (zB HG.out H5 (fun j e=>by have e:C=j:=Oj e;omega));have j1:=Kh (HM.out.kept H5 (fun e=>H7 (Oj e)));obtain⟨cc,H6⟩:∃ c,c=cls (lX d p (a+1)):=⟨_,rfl⟩;rw[<- H6];have a0:=Kh H6;clear a9 H5 H6 b0;go_wp2;go_roundg (k - (a+1))
       case measure=>have:=f3.out;omega
       case rel=>exact⟨a+1,sG d pa a,by have:=f3.out;omega,by go_num,by rw[a0.out],by rw[xC,h0.out],b6.out,j1.out,c5.out⟩
def rowV (k g:Nat):Value:=.slice (some ⟨g,0,none⟩) k k
structure QB (w0 w:World)(T F N C B k cnt c0:Nat)(p:List Nat)(fs:List Bool)(t:List (List Int))(gs:List Nat):Prop where
 box:w.heap[T]?=some (.cells #[.int .i64 (k:Int),.int .i64 (c0:Int),.slice (some ⟨F,0,none⟩) cnt cnt,.slice (some ⟨N,0,none⟩) cnt cnt] 42 (0,0))
 fa:Arr w F 4 (bls (fs++List.replicate (cnt - fs.length) false))
 na:Arr w N 34 (gs.map (rowV k)++List.replicate (cnt - gs.length) (.slice none 0 0))
 len:gs.length=t.length
 row:∀ i,i<t.length->Arr w (gs.getD i 0) 3 (ints (t.getD i []))
 rl:∀ i,i<t.length->(t.getD i []).length=k
 glo:∀ g∈gs,B<=g
 nd:gs.Nodup
 cl:Arr w C 3 (nats p)
 lo:w0.heap.size<=T/\w0.heap.size<=F/\w0.heap.size<=N/\w0.heap.size<=C
 cB:C<B/\w0.heap.size<=B/\B<=w.heap.size
 grown:w0.grownBy w none
theorem yY {α:Type}{l m:List α}{i:Nat}{d:α}(h:i<l.length):(l++m).getD i d=l.getD i d:=by
 rw[List.getD_eq_getElem?_getD,List.getElem?_append_left h,<- List.getD_eq_getElem?_getD]
theorem nodup_inj {l:List Nat}(h:l.Nodup){i j:Nat}(hi:i<l.length)(hj:j<l.length)(e:l[i]=l[j]):i=j:=by
 have h1:=h.idxOf_getElem i hi;have h2:=h.idxOf_getElem j hj;rw[e]at h1;omega
section
variable {w0 w w':World} {T F N C B k cnt c0:Nat} {p:List Nat} {fs:List Bool} {t:List (List Int)} {gs:List Nat}
theorem QB.grow (h:QB w0 w T F N C B k cnt c0 p fs t gs)(hg:w.grownBy w' none):QB w0 w' T F N C B k cnt c0 p fs t gs :=
 ⟨zA h.box hg (by simp),h.fa.kept hg (by simp),h.na.kept hg (by simp),h.len,fun i hi=>(h.row i hi).kept hg (by simp),h.rl,h.glo,h.nd,h.cl.kept hg (by simp),h.lo,⟨h.cB.1,h.cB.2.1,Nat.le_trans h.cB.2.2 hg.size⟩,zB h.grown hg (by simp)⟩
theorem QB.box_ne {g e:Nat}{xs:List Value}(h:QB w0 w T F N C B k cnt c0 p fs t gs)(ha:Arr w g e xs)(he:e≠42):g≠T:=ha.type_ne h.box he
theorem aF {g g' e e':Nat}{xs ys:List Value}(h:Arr w g e xs)(h':Arr w g' e' ys)(he:e≠e'):g≠g':=by
 obtain⟨c,r,hc,_⟩:=h';exact h.type_ne hc he
theorem QB.mem (h:QB w0 w T F N C B k cnt c0 p fs t gs){i:Nat}(hi:i<t.length):gs.getD i 0∈gs:=by
 rw[zG (by rw[h.len];exact hi)];exact List.getElem_mem _
theorem QB.setF (h:QB w0 w T F N C B k cnt c0 p fs t gs)(hc:fs.length<cnt)(b:Bool):QB w0 (w.setCell ⟨F,fs.length,none⟩ (.bool b)) T F N C B k cnt c0 p (fs++[b]) t gs:=by
 have hg:=zC w ⟨F,fs.length,none⟩ (.bool b);refine⟨zA h.box hg (fun e=>(h.box_ne h.fa (by decide)) (Oj e)),?_,h.na.kept hg (fun e=>(aF h.na h.fa (by decide)) (Oj e).symm),h.len,fun i hi=>(h.row i hi).kept hg (fun e=>(aF (h.row i hi) h.fa (by decide)) (Oj e).symm),h.rl,h.glo,h.nd,h.cl.kept hg (fun e=>(aF h.cl h.fa (by decide)) (Oj e).symm),h.lo,⟨h.cB.1,h.cB.2.1,Nat.le_trans h.cB.2.2 hg.size⟩,zB h.grown hg (fun j e=>by have e:F=j:=Oj e;have:=h.lo;omega)⟩;have h1:=h.fa.bool_set fs.length (by simp;omega) b
 have e:(fs++List.replicate (cnt - fs.length) false).set fs.length b=(fs++[b])++List.replicate (cnt - (fs++[b]).length) false:=by
  rw[List.set_append_right _ _ (Nat.le_refl _),Nat.sub_self];obtain⟨m,hm⟩:∃ m,cnt - fs.length=m+1:=⟨cnt - fs.length - 1,by omega⟩;rw[hm,List.replicate_succ,List.set_cons_zero,List.append_assoc];congr 1;rw[List.length_append,List.length_singleton,show cnt - (fs.length+1)=m by omega];rfl
 rw[e]at h1;exact h1
theorem QB.setN2 (h:QB w0 w T F N C B k cnt c0 p fs t gs)(hc:gs.length<cnt){g:Nat}(hg1:(w.setCell ⟨N,gs.length,none⟩ (rowV k g)).grownBy w' none)(ha:Arr w' g 3 (ints (List.replicate k 0)))(hgw:w.heap.size<=g)(hB:B<=w.heap.size):QB w0 w' T F N C B k cnt c0 p fs (t++[List.replicate k 0]) (gs++[g]):=by
 have hg:=zC w ⟨N,gs.length,none⟩ (rowV k g);have h0:∀ {g2 e2:Nat} {xs:List Value},Arr w g2 e2 xs->e2≠34->Arr w' g2 e2 xs:=fun h2 he=>(h2.kept hg (fun e=>(aF h2 h.na he) (Oj e).symm)).kept hg1 (by simp);refine⟨zA (zA h.box hg (fun e=>(h.box_ne h.na (by decide)) (Oj e))) hg1 (by simp),h0 h.fa (by decide),?_,by simp[h.len],fun i hi=>?_,fun i hi=>?_,fun x hx=>?_,?_,h0 h.cl (by decide),h.lo,⟨h.cB.1,h.cB.2.1,Nat.le_trans h.cB.2.2 (Nat.le_trans hg.size hg1.size)⟩,zB (zB h.grown hg (fun j e=>by have e:N=j:=Oj e;have:=h.lo;omega)) hg1 (by simp)⟩
 ·have h1:=(h.na.set gs.length (by simp;omega) (rowV k g)).kept hg1 (by simp)
  have e:(gs.map (rowV k)++List.replicate (cnt - gs.length) (Value.slice none 0 0)).set gs.length (rowV k g)=(gs++[g]).map (rowV k)++List.replicate (cnt - (gs++[g]).length) (.slice none 0 0):=by
   rw[List.set_append_right _ _ (by simp),List.length_map,Nat.sub_self];obtain⟨m,hm⟩:∃ m,cnt - gs.length=m+1:=⟨cnt - gs.length - 1,by omega⟩;rw[hm,List.replicate_succ,List.set_cons_zero,List.map_append,List.append_assoc];congr 1;rw[List.length_append,List.length_singleton,show cnt - (gs.length+1)=m by omega];rfl
  rw[e]at h1;exact h1
 ·rw[List.length_append,List.length_singleton]at hi
  by_cases hi2:i<t.length
  ·rw[yY (by rw[h.len];exact hi2),yY hi2]
   exact h0 (h.row i hi2) (by decide)
  ·have e:i=t.length:=by omega
   subst e;have e1:(gs++[g]).getD t.length 0=g:=by rw[<- h.len,List.getD_eq_getElem?_getD];simp
   have e2:(t++[List.replicate k (0:Int)]).getD t.length []=List.replicate k 0:=by rw[List.getD_eq_getElem?_getD];simp
   rw[e1,e2];exact ha
 ·rw[List.length_append,List.length_singleton]at hi
  by_cases hi2:i<t.length
  ·rw[yY hi2];exact h.rl i hi2
  ·have e:i=t.length:=by omega
   subst e;have e2:(t++[List.replicate k (0:Int)]).getD t.length []=List.replicate k 0:=by rw[List.getD_eq_getElem?_getD];simp
   rw[e2];simp
 ·rcases List.mem_append.1 hx with hx|hx
  ·exact h.glo x hx
  ·simp at hx;subst hx;omega
 ·rw[List.nodup_append]
  refine⟨h.nd,by simp,fun a ha2 b hb e=>?_⟩;simp at hb;subst hb;subst e;obtain⟨i,hi,e2⟩:=List.getElem_of_mem ha2;have h3:=(h.row i (by rw[<- h.len];exact hi)).lt;rw[zG hi,e2]at h3;omega
theorem QB.setR (h:QB w0 w T F N C B k cnt c0 p fs t gs){i a:Nat}(hi:i<t.length)(ha:a<k)(x:Int):QB w0 (w.setCell ⟨gs.getD i 0,a,none⟩ (.int .i64 x)) T F N C B k cnt c0 p fs (t.set i ((t.getD i []).set a x)) gs:=by
 have hg:=zC w ⟨gs.getD i 0,a,none⟩ (.int .i64 x);have hr:=h.row i hi;have h0:=h.glo _ (h.mem hi);refine⟨zA h.box hg (fun e=>(h.box_ne hr (by decide)) (Oj e)),h.fa.kept hg (fun e=>(aF h.fa hr (by decide)) (Oj e).symm),h.na.kept hg (fun e=>(aF h.na hr (by decide)) (Oj e).symm),by rw[List.length_set];exact h.len,fun j hj=>?_,fun j hj=>?_,h.glo,h.nd,h.cl.kept hg (fun e=>by have e:gs.getD i 0=C:=Oj e;have:=h.cB;omega),h.lo,⟨h.cB.1,h.cB.2.1,Nat.le_trans h.cB.2.2 hg.size⟩,zB h.grown hg (fun j e=>by have e:gs.getD i 0=j:=Oj e;have:=h.cB;omega)⟩
 ·rw[List.length_set]at hj
  by_cases e:i=j
  ·subst e
   have e2:(t.set i ((t.getD i []).set a x)).getD i []=(t.getD i []).set a x:=by rw[List.getD_eq_getElem?_getD];simp[hi]
   rw[e2];exact hr.int_set a (by rw[h.rl i hi];exact ha) x
  ·have e2:(t.set i ((t.getD i []).set a x)).getD j []=t.getD j []:=by rw[List.getD_eq_getElem?_getD,List.getElem?_set_ne e,<- List.getD_eq_getElem?_getD]
   rw[e2];refine(h.row j hj).kept hg (fun e3=>e ?_);have e3:gs.getD i 0=gs.getD j 0:=Oj e3;rw[zG (by rw[h.len];exact hi),zG (by rw[h.len];exact hj)]at e3;exact nodup_inj h.nd _ _ e3
 ·rw[List.length_set]at hj
  by_cases e:i=j
  ·subst e
   have e2:(t.set i ((t.getD i []).set a x)).getD i []=(t.getD i []).set a x:=by rw[List.getD_eq_getElem?_getD];simp[hi]
   rw[e2,List.length_set];exact h.rl i hi
  ·have e2:(t.set i ((t.getD i []).set a x)).getD j []=t.getD j []:=by rw[List.getD_eq_getElem?_getD,List.getElem?_set_ne e,<- List.getD_eq_getElem?_getD]
   rw[e2];exact h.rl j hj
theorem QB.setL {r:List Int}{g a:Nat}(h:QB w0 w T F N C B k cnt c0 p fs (t++[r]) (gs++[g]))(ha:a<k)(x:Int):QB w0 (w.setCell ⟨g,a,none⟩ (.int .i64 x)) T F N C B k cnt c0 p fs (t++[r.set a x]) (gs++[g]):=by
 have hl:=h.len;rw[List.length_append,List.length_append,List.length_singleton,List.length_singleton]at hl;have h1:=h.setR (i:=t.length) (by simp) ha x;have e1:(gs++[g]).getD t.length 0=g:=by rw[show t.length=gs.length by omega,List.getD_eq_getElem?_getD];simp
 have e2:(t++[r]).getD t.length []=r:=by rw[List.getD_eq_getElem?_getD];simp
 rw[e1,e2,List.set_append_right _ _ (Nat.le_refl _),Nat.sub_self,List.set_cons_zero]at h1;exact h1
theorem QB.last {r:List Int}{g:Nat}(h:QB w0 w T F N C B k cnt c0 p fs (t++[r]) (gs++[g]))(hc:gs.length<cnt):Arr w g 3 (ints r)/\w.cell? ⟨N,gs.length,none⟩=some (rowV k g)/\r.length=k:=by
 have hl:=h.len;rw[List.length_append,List.length_append,List.length_singleton,List.length_singleton]at hl;have e1:(gs++[g]).getD t.length 0=g:=by rw[show t.length=gs.length by omega,List.getD_eq_getElem?_getD];simp
 have e2:(t++[r]).getD t.length []=r:=by rw[List.getD_eq_getElem?_getD];simp
 have h1:=h.row t.length (by simp);have h2:=h.rl t.length (by simp);rw[e1,e2]at h1;rw[e2]at h2;refine⟨h1,?_,h2⟩;rw[h.na.cell gs.length (by simp<;>omega),List.getElem_append_left (by simp)];simp
theorem QB.ok (h:QB w0 w T F N C B k cnt c0 p fs t gs)(hf:fs.length=cnt)(ht:t.length=cnt)(hcm:cnt<=maxLen)(hkm:k<=maxLen):uT w.heap.size w (.agg #[.int .i64 (k:Int),.int .i64 (c0:Int),.slice (some ⟨F,0,none⟩) cnt cnt,.slice (some ⟨N,0,none⟩) cnt cnt]) ⟨k,c0,fs,t⟩:=by
 have h4:=h.fa;have h0:=h.na;rw[hf,Nat.sub_self,List.replicate_zero,List.append_nil]at h4;rw[h.len,ht,Nat.sub_self,List.replicate_zero,List.append_nil]at h0;have h7:(bls fs).length=cnt:=by rw[xE,hf]
 have h5:(gs.map (rowV k)).length=cnt:=by rw[List.length_map,h.len,ht]
 refine⟨_,_,rfl,?_,?_⟩
 ·have:=h4.rowT' (cap:=cnt) (by omega) hcm
  rw[h7]at this;exact this.row
 ·have h1:=h0.rowT' (cap:=cnt) (by omega) hcm
  rw[h5]at h1;refine Mat.of_rowT h1 ⟨by rw[List.length_map,h.len],fun i h2 h3=>?_⟩ (Nat.le_refl _);have hr:=(h.row i h3).rowT' (cap:=k) (by rw[yE,h.rl i h3];exact Nat.le_refl _) hkm;rw[yE,h.rl i h3]at hr;rw[List.getElem_map];have h6:i<gs.length:=by rw[h.len];exact h3
  rw[zG h6,zG h3]at hr;exact hr
end
theorem DfaT.shapes {w:World}{f nx:Value}{d:DfaV}(h:DfaT w f nx d):∃ sa n1 c1 sb n2 c2,f=.slice sa n1 c1/\nx=.slice sb n2 c2:=by
 obtain⟨hs,a,b,_⟩:=h;obtain⟨sa,c1,rfl⟩:=a.shape;obtain⟨sb,c2,rfl⟩:=b.shape;exact⟨sa,_,c1,sb,_,c2,rfl,rfl⟩
def MmOk (w:World)(d:DfaV)(k:Nat)(e:Ending)(w':World):Prop:=∃ v b,e=.returned (.tuple #[v,.bool b])/\w.grownBy w' none/\((b=true/\minN d k<=512/\∃ f nx,v=.agg #[.int .i64 (k:Int),.int .i64 0,f,nx]/\DfaT w' f nx (minD d k))\/(b=false/\512<minN d k/\v=.agg #[.int .i64 0,.int .i64 0,.slice none 0 0,.slice none 0 0]))
theorem mk_heads (n:Nat)(h:n<=4096):∀ w:World,(Instr.makeSlice 40 (.int .i64 (n:Int)) (.int .i64 (n:Int))).run Try.prog w=.ok (.slice (some ⟨w.heap.size,0,none⟩) n n) (w.alloc (.cells (madeCells #[.slice none 0 0] n) 34)) :=
 fun w=>run_make_row' 40 34 (.slice none 0 0) 24 Try.underlying40 (by kernel_rfl) rfl .i64 .i64 n (by omega) (by omega) w
theorem made_heads (n:Nat):(madeCells #[.slice none 0 0] n).toList=List.replicate n (.slice none 0 0):=by
 have:=pU (z:=.slice none 0 0) rfl n;rw[Nat.mul_one]at this;exact this
theorem mk_cells (n:Nat)(h:n<=4096):∀ w:World,(Instr.makeSlice 34 (.int .i64 (n:Int)) (.int .i64 (n:Int))).run Try.prog w=.ok (.slice (some ⟨w.heap.size,0,none⟩) n n) (w.alloc (.cells (madeCells #[.int .i64 0] n) 3)) :=
 fun w=>run_make_row' 34 3 (.int .i64 0) 8 Try.underlying34 (by kernel_rfl) rfl .i64 .i64 n (by omega) (by omega) w
theorem made_cells (n:Nat):(madeCells #[.int .i64 0] n).toList=ints (List.replicate n 0):=by
 have:=pU (z:=.int .i64 0) rfl n;rw[Nat.mul_one]at this;rw[sU];exact this
def mrow (d:DfaV)(p:List Nat)(s k a:Nat):List Int:=(wT p (d.next.getD s [])).take a++List.replicate (k - a) 0
theorem mrow_zero (d:DfaV)(p:List Nat)(s k:Nat):mrow d p s k 0=List.replicate k 0:=by simp[mrow]
theorem mrow_full {d:DfaV}{n k:Nat}(hd:VD d n k){p:List Nat}{s:Nat}(hs:s<n):mrow d p s k k=wT p (d.next.getD s []):=by
 rw[mrow,Nat.sub_self,List.replicate_zero,List.append_nil,List.take_of_length_le (by rw[tW hd hs];exact Nat.le_refl _)]
theorem mrow_set {d:DfaV}{n k:Nat}(hd:VD d n k){p:List Nat}{s a:Nat}(hs:s<n)(ha:a<k):(mrow d p s k a).set a ((p.getD (nx d s a) 0:Nat):Int)=mrow d p s k (a+1):=by
 have hl:((wT p (d.next.getD s [])).take a).length=a:=by rw[List.length_take,tW hd hs];omega
 obtain⟨m,hm⟩:∃ m,k - a=m+1:=⟨k - a - 1,by omega⟩;rw[mrow,List.set_append_right _ _ (by omega),hl,Nat.sub_self,hm,List.replicate_succ,List.set_cons_zero,mrow,zR (d:=0) (by rw[tW hd hs];exact ha),qCF hd hs ha,List.append_assoc,show k - (a+1)=m by omega];rfl
theorem gD {w X:World}(h:w.grownBy X none):w.grownBy X.drew none:=zB h (zP X none) (by simp)
theorem gA {w X:World}(h:w.grownBy X none)(o:Obj):w.grownBy (X.alloc o) none:=xR h o
theorem gS {w X:World}(h:w.grownBy X none){b i:Nat}(u:Value)(hb:w.heap.size<=b):w.grownBy (X.setCell ⟨b,i,none⟩ u) none:=zB h (zC X ⟨b,i,none⟩ u) (fun j e=>by have e:b=j:=Oj e;omega)
theorem alloc3 (w:World)(o1 o2 o3:Obj):(((w.alloc o1).alloc o2).alloc o3).drew.heap[w.heap.size]?=some o1/\(((w.alloc o1).alloc o2).alloc o3).drew.heap[w.heap.size+1]?=some o2/\(((w.alloc o1).alloc o2).alloc o3).drew.heap[w.heap.size+1+1]?=some o3:=by
 have g3:=Ga ((w.alloc o1).alloc o2) o3 none;show (((w.alloc o1).alloc o2).alloc o3).heap[w.heap.size]?=some o1/\(((w.alloc o1).alloc o2).alloc o3).heap[w.heap.size+1]?=some o2/\(((w.alloc o1).alloc o2).alloc o3).heap[w.heap.size+1+1]?=some o3;refine⟨zA (sO w o1 o2) g3 (by simp),zA (sL w o1 o2) g3 (by simp),?_⟩;have:=heap_alloc_new ((w.alloc o1).alloc o2) o3
 rwa [zO,zO]at this
theorem mminimal_any (w:World)(o k n:Nat)(d:DfaV)(nb no nc fb fo fc:Nat)(nxs:List Nat)(hd:VD d n k)(hn:n<=4000)(hs0:st0 d=0)(hr:∀ q,q<n->∃ w,yI k w/\run d (st0 d) w=q)(h:MachAt w o k n d nb no nc fb fo fc nxs):
  Calls Try.prog 70 #[.pointer (some ⟨o,0,none⟩)] w (MmOk w d k):=by
 have j5:=minN_all hd hr;have m2:=hd.k6;have o9:=hd.k1;have o4:=hd.n1;have o2:=zI h.box;have m5:=h.fcap.1;have m4:fc<=9223372036854775807:=by have:=h.fcap.2;unfold maxLen at this;omega
 have m0:nc<=9223372036854775807:=by have:=h.ncap.2;unfold maxLen at this;omega
 have d1:=Ga w (.cells #[.int .i64 0,.int .i64 0,.slice none 0 0,.slice none 0 0] 42) none;have c4:=heap_alloc_new w (.cells #[.int .i64 0,.int .i64 0,.slice none 0 0,.slice none 0 0] 42);obtain⟨wA,f8⟩:∃ w1,w1=w.alloc (.cells #[.int .i64 0,.int .i64 0,.slice none 0 0,.slice none 0 0] 42):=⟨_,rfl⟩;obtain⟨Q,hQ⟩:∃ P,P=w.heap.size:=⟨_,rfl⟩;rw[<- f8]at d1 c4;rw[<- hQ]at c4;have H:=Kh (h.kept d1 (by simp) (by simp) (by simp));have HD:=Kh hd;have k5:=Kh j5;have n2:=Kh f8;have g4:=Kh hQ;have l0:=Kh d1;have o1:=Kh c4;have n4:=Kh hs0;have l2:=Kh (mclasses_any wA o k n d nb no nc fb fo fc nxs hd hn H.out);have p5:Q<wA.heap.size:=zI c4;clear h hd d1 c4 f8 hQ j5 hr hs0;go_enter Try.func70,Try.ntmps70;go_upto_region 1 with fail;rw[<- n2.out,<- g4.out];go_wp2_with fail;refine l2.out.mono ?_;rintro e w1 ⟨p,C,rfl,hC,p7,c1,e0,g9⟩;have a6:=Kh (zB l0.out c1 (by simp));have a0:=Kh (zA o1.out c1 (by simp));have H1:=Kh (H.out.kept c1 (by simp) (by simp) (by simp));have m9:w.heap.size<=C:=by have:=l0.out.size;omega
 have HC:=Kh hC;have k2:=Kh e0;have k0:=Kh g9;have c7:=Kh (e0.cls_le HD.out);have p6:Q<w1.heap.size:=by have:=c1.size;omega
 obtain⟨cnt,H7⟩:∃ c,c=cls p:=⟨_,rfl⟩;rw[<- H7]at c7 k0 ⊢;have h0:=Kh H7;clear hC c1 e0 g9 H7 l2;by_cases h5:cnt<=512
 case neg =>
  have n0:(512:Int)<cnt:=by omega
  have g6:Hid (512<minN d k):=Kh (by rw[k5.out];have:=c7.out;omega);obtain⟨q0,q1,q2,q3⟩:=zF a0.out;have f0:=zE a0.out 0;have f1:=zE a0.out 1;have f2:=zE a0.out 2;have f3:=zE a0.out 3;go_wp2;obtain⟨c3,a2⟩:=xI a0.out (.int .i64 0) (.int .i64 0) (.slice none 0 0) (.slice none 0 0);obtain⟨wz,b1⟩:∃ wz,wz=(((w1.setCell ⟨Q,0,none⟩ (.int .i64 0)).setCell ⟨Q,1,none⟩ (.int .i64 0)).setCell ⟨Q,2,none⟩ (.slice none 0 0)).setCell ⟨Q,3,none⟩ (.slice none 0 0):=⟨_,rfl⟩;rw[<- b1]at c3 a2 ⊢;clear b1;obtain⟨r0,r1,r2,r3⟩:=zF c3;clear q0 q1 q2 q3 f0 f1 f2 f3;refine bodyPost_ret (v:=.tuple #[.agg #[.int .i64 0,.int .i64 0,.slice none 0 0,.slice none 0 0],.bool false]) (by simp[results,Try.results70,go_sem,r0,r1,r2,r3]) rfl ?_;exact⟨_,false,rfl,zB a6.out a2 (fun j e=>by have e:Q=j:=Oj e;have:=g4.out;omega),.inr ⟨rfl,g6.out,rfl⟩⟩
 have n0:¬ (512:Int)<cnt:=by omega
 have k4:Hid (p=zU d k):=Kh (by
  rcases k0.out with h|h
  ·omega
  ·exact h)
 have g6:Hid (minN d k<=512):=Kh (by rw[k5.out,<- k4.out,<- h0.out];exact h5);have e7:p.length=n:=k2.out.len;have p4:1<=cnt:=by rw[h0.out];exact kI (by omega)
 have cC0:=Arr.nat HC.out 0 (by omega);obtain⟨c0,f7⟩:∃ c,c=p.getD 0 0:=⟨_,rfl⟩;rw[<- f7]at cC0;have o0:=Kh f7;have o8:=qAA cnt (by omega);have o7:=mk_heads cnt (by omega);have o6:=mk_cells k (by omega);have m1:(0:Int)<n:=by omega
 have o5:0<n:=by omega
 obtain⟨wo,rfl⟩:∃ wo:World,wo=w1:=⟨_,rfl⟩;obtain⟨p0,p1,p2⟩:=zH H1.out.box;have g2:=HC.out.lt;have l7:=zI H1.out.box;clear f7;have l3:Hid (∀ W:World,wo.grownBy W none->W.cell? ⟨o,0,none⟩=some (.int .i64 (k:Int))/\W.cell? ⟨C,0,none⟩=some (.int .i64 (c0:Int))):=Kh (fun W hW=>⟨xG p0 hW,xG cC0 hW⟩);go_upto_region 4 with fail;go_cut [6] (fun s6 wx=>∃ T F N:Nat,s6=.pointer (some ⟨T,0,none⟩)/\wx.heap[T]?=some (.cells #[.int .i64 (k:Int),.int .i64 (c0:Int),.slice (some ⟨F,0,none⟩) cnt cnt,.slice (some ⟨N,0,none⟩) cnt cnt] 42 (0,0))/\Arr wx F 4 (bls (List.replicate cnt false))/\Arr wx N 34 (List.replicate cnt (.slice none 0 0))/\wo.heap.size<=T/\wo.heap.size<=F/\wo.heap.size<=N/\wo.grownBy wx none)
 case first =>
  go_region_held3 (fun w'=>w'.cell? ⟨o,0,none⟩=some (.int .i64 (k:Int))/\w'.cell? ⟨C,0,none⟩=some (.int .i64 (c0:Int)))
   (first|(refine l3.out _ ?_;repeat(first|exact zM _ _|refine gD ?_|refine gA ?_ _|refine gS ?_ _ (by simp;omega)))|fail) (fail)
  all_goals
   go_wp2_with fail
   go_meet
   obtain⟨h1,h2,h3⟩:=alloc3 wo _ _ _;refine⟨_,_,_,rfl,by first|exact h1|exact h2|exact h3,⟨_,[],by first|exact h1|exact h2|exact h3,by rw[List.append_nil];exact jG cnt⟩,⟨_,[],by first|exact h1|exact h2|exact h3,by rw[List.append_nil];exact made_heads cnt⟩,by omega,by omega,by omega,gD (gA (gA (gA (zM _ _) _) _) _)⟩
 case rest =>
  obtain⟨T,F,N,rfl,j0,hF,hN,j2,j6,j4,a3⟩:=hcut;obtain⟨B,hB⟩:∃ B,B=wc.heap.size:=⟨_,rfl⟩;have d4:=a3.size;have c5:Hid (QB w wc T F N C B k cnt c0 p [] [] []):=Kh ⟨j0,by simpa using hF,by simpa using hN,rfl,fun i hi=>absurd hi (by simp),fun i hi=>absurd hi (by simp),fun g hg=>absurd hg (by simp),by simp,HC.out.kept a3 (by simp),⟨Nat.le_trans a6.out.size j2,Nat.le_trans a6.out.size j6,Nat.le_trans a6.out.size j4,m9⟩,⟨by rw[hB];exact Nat.lt_of_lt_of_le g2 d4,by rw[hB];exact Nat.le_trans a6.out.size d4,by rw[hB];exact Nat.le_refl _⟩,zB a6.out a3 (by simp)⟩;have h8:=Kh (H1.out.kept a3 (by simp) (by simp) (by simp));have j9:=Kh (zA a0.out a3 (by simp));have j3:Q≠F/\Q≠N/\Q<B:=by omega
  have g3:=Kh j3;clear j3;have i3:o<B/\nb<B/\fb<B:=⟨by rw[hB];exact zI h8.out.box,by rw[hB];exact h8.out.nlt,by rw[hB];exact h8.out.flt⟩;have a1:o≠T/\o≠F/\o≠N/\nb≠F/\nb≠N/\fb≠F/\fb≠N:=by have:=H1.out.nlt;have:=H1.out.flt;omega
  have a4:=Kh a1;have n5:=Kh i3;clear a1 i3;clear j0 hF hN j2 j6 j4 a3 d4 cC0 l3 p0 p1 p2;go_wp2
  go_loopg [7,8,9,32,67] n (fun gh a7 a8 a9 i a67 wr=>∃ (s:Nat) (gs:List Nat),gh+s=n/\i=.int .i64 s/\QB w wr T F N C B k cnt c0 p (nC d p s) (pT d p s) gs/\MachAt wr o k n d nb no nc fb fo fc nxs/\wr.heap[Q]?=some (.cells #[.int .i64 0,.int .i64 0,.slice none 0 0,.slice none 0 0] 42 (0,0)))
  case atStart=>exact⟨0,[],rfl,rfl,c5.out,h8.out,j9.out⟩
  case round =>
   clear c5 h8 j9;obtain⟨s,gs,b7,rfl,hq,b5,b0⟩:=hrel;have HZ:=Kh b0;clear b0;have c6:=Kh b7;have HQ:=Kh hq;clear b7;have hg:=hq.grown;have HM:=Kh b5;have H5:=k2.out.norm;by_cases hs:s<n
   ·have l5:(s:Int)<n:=by omega
    have b3:s<p.length:=(by omega);obtain⟨d0,H0,hold⟩:=mS H5 b3;have H4:=wH H5 s (by omega);have d2:(nC d p s).length=cls (p.take s):=by rw[nC,List.length_map,H4]
    have b2:(pT d p s).length=cls (p.take s):=by rw[pT,List.length_map,H4]
    have c2:p.getD s 0<cnt:=(by rw[h0.out];exact tB H5 b3);have i9:=Arr.nat hq.cl s b3;have b6:gs.length=cls (p.take s):=by rw[hq.len,b2]
    obtain⟨c,hc⟩:∃ c,c=p.getD s 0:=⟨_,rfl⟩;rw[<- hc]at d0 c2 i9 H0 hold;obtain⟨m,hm⟩:∃ m,m=cls (p.take s):=⟨_,rfl⟩;rw[<- hm]at d0 d2 b2 b6 H0 hold;have m6:(c:Int)<cnt:=(by exact_mod_cast c2);have i5:m<=cnt:=by rw[hm,h0.out];exact(tY p s).length_le
    have h4:(gs.map (rowV k)++List.replicate (cnt - gs.length) (Value.slice none 0 0)).length=cnt:=by rw[List.length_append,List.length_map,List.length_replicate,b6];omega
    have cN:=hq.na.cell c (by omega);obtain⟨t0,t1,t2,t3⟩:=zF hq.box;have q4:=Kh hc;have p9:=Kh hm;by_cases hcm:c=m
    case neg =>
     have i7:c<gs.length:=by omega
     have cN2:wr.cell? ⟨N,c,none⟩=some (.slice (some ⟨gs.getD c 0,0,none⟩) k k):=by
      rw[cN,List.getElem_append_left (by simpa using i7)];simp[rowV,List.getD,List.getElem?_eq_getElem i7]
     obtain⟨gg,b8⟩:∃ g,g=gs.getD c 0:=⟨_,rfl⟩;rw[<- b8]at cN2;have a1:p.getD s 0≠cls (p.take s):=(by rw[<- hc,<- hm];exact hcm);have e1:=qCB (d:=d) a1;have e2:=qBZ (d:=d) a1;have E1:=Kh e1;have E2:=Kh e2;clear hcm a1 e1 e2 b8 cN d2 b2 b6 H0 hold hc hm d0 h4 i5 hq hg H5 H4 b3;go_wp2;go_roundg (n - (s+1))
     case measure=>have:=c6.out;omega
     case rel=>exact⟨s+1,gs,by have:=c6.out;omega,by go_num,by rw[E1.out,E2.out];exact HQ.out,HM.out,HZ.out⟩
    obtain rfl:c=m:=hcm;have e1:=qCC (d:=d) (p:=p) (i:=s) (by rw[<- hc,<- hm]);have e2:=qCA (d:=d) (p:=p) (i:=s) (by rw[<- hc,<- hm])
    have cN2:wr.cell? ⟨N,c,none⟩=some (.slice none 0 0):=by
     rw[cN,List.getElem_append_right (by simp;omega)];simp
    have cFb:=hq.fa.bool c (by simp;omega);have fF:=hq.fa.frozen c;have g1:=hq.fa.lt;have cf:=b5.fin s hs;obtain⟨p0,p1,p2⟩:=zH b5.box;obtain⟨b,hb⟩:∃ b,b=d.final.getD s false:=⟨_,rfl⟩;rw[<- hb]at cf e1;have E1:=Kh e1;have E2:=Kh e2;obtain⟨nk,e9⟩:∃ x,x=n * k:=⟨_,rfl⟩;rw[<- e9]at p1;have d3:=Kh e9;have l1:=Kh d2;have p8:=Kh b2;have a5:=Kh b6;obtain⟨wo2,rfl⟩:∃ wo2:World,wo2=wr:=⟨_,rfl⟩;clear e1 e2 cN d2 b2 b6 H0 hold hc hm d0 h4 i5 hq hg H5 H4 b3 hb b5 e9;go_upto_region 9 with fail
    go_region
    all_goals (try go_frame)
    have h9:=(HQ.out.setF (by rw[l1.out];exact c2) b).grow (zP _ none);rw[l1.out,<- E1.out]at h9;have H6:wo2.grownBy (wo2.setCell ⟨F,c,none⟩ (.bool b)).drew (some F):=zD (zC wo2 ⟨F,c,none⟩ (.bool b)) (zP _ _);have b4:=HM.out.kept H6 (fun e=>a4.out.2.1 (Oj e).symm) (fun e=>a4.out.2.2.2.1 (Oj e).symm) (fun e=>a4.out.2.2.2.2.2.1 (Oj e).symm);have d5:=zA HZ.out H6 (fun e=>g3.out.1 (Oj e).symm);obtain⟨w3,g8⟩:∃ w3,w3=(wo2.setCell ⟨F,c,none⟩ (.bool b)).drew:=⟨_,rfl⟩;rw[<- g8]at h9 b4 d5 ⊢;have j8:=Kh d5;have g5:=Kh h9;have k9:=Kh b4
    have cN3:w3.cell? ⟨N,c,none⟩=some (.slice none 0 0):=by
     rw[h9.na.cell c (by simp;have:=a5.out;omega),List.getElem_append_right (by simp;have:=a5.out;omega)];simp
    have fN3:=h9.na.frozen c;have g0:=h9.na.lt;obtain⟨p0,p1,p2⟩:=zH b4.box;rw[<- d3.out]at p1;obtain⟨t0,t1,t2,t3⟩:=zF h9.box;have m8:=zI h9.box;have l8:=zI b4.box;clear g8 h9 b4 d5 HZ H6 cN2 cFb fF g1 cf HQ HM i9;go_upto_region 10 with fail
    go_region
    all_goals (try go_frame)
    have b9:=Ga (w3.setCell ⟨N,c,none⟩ (.slice (some ⟨w3.heap.size,0,none⟩) k k)) (.cells (madeCells #[.int .i64 0] k) 3) none;have h6:=zB b9 (zP _ none) (by simp);have H8:=Arr.new (w3.setCell ⟨N,c,none⟩ (.slice (some ⟨w3.heap.size,0,none⟩) k k)) 3 (madeCells #[.int .i64 0] k);rw[made_cells,show (w3.setCell ⟨N,c,none⟩ (.slice (some ⟨w3.heap.size,0,none⟩) k k)).heap.size=w3.heap.size by simp[World.setCell]]at H8;have H2:w3.grownBy ((w3.setCell ⟨N,c,none⟩ (.slice (some ⟨w3.heap.size,0,none⟩) k k)).alloc (.cells (madeCells #[.int .i64 0] k) 3)).drew (some N):=zD (zC w3 ⟨N,c,none⟩ _) (yQ h6);obtain⟨w4,d6⟩:∃ w4,w4=((w3.setCell ⟨N,c,none⟩ (.slice (some ⟨w3.heap.size,0,none⟩) k k)).alloc (.cells (madeCells #[.int .i64 0] k) 3)).drew:=⟨_,rfl⟩;have h7:Arr w4 w3.heap.size 3 (ints (List.replicate k 0)):=(by rw[d6];exact H8.of_heap rfl);rw[<- d6]at H2 h6 ⊢;obtain⟨g,hg⟩:∃ g,g=w3.heap.size:=⟨_,rfl⟩;rw[<- hg]at h7 h6;have e6:=g5.out.setN2 (w':=w4) (g:=g) (by rw[a5.out];exact c2) (by rw[a5.out];exact h6) h7 (by omega) g5.out.cB.2.2;have f4:=k9.out.kept H2 (fun e=>a4.out.2.2.1 (Oj e).symm) (fun e=>a4.out.2.2.2.2.1 (Oj e).symm) (fun e=>a4.out.2.2.2.2.2.2 (Oj e).symm);rw[<- mrow_zero d p s k]at e6;have k3:=Kh e6;have k8:=Kh f4;have j7:=Kh (zA j8.out H2 (fun e=>g3.out.2.1 (Oj e).symm));obtain⟨p0,p1,p2⟩:=zH f4.box;clear j8 d6 b9 h6 H8 h7 H2 e6 f4 g5 k9 cN3 fN3 g0 t0 t1 t2 t3 m8 l8 hg;go_wp2;clear p0 p1 p2;obtain⟨wo3,rfl⟩:∃ wo3:World,wo3=w4:=⟨_,rfl⟩
    go_loopg [9,67] k (fun gh a9 i wr=>∃ a:Nat,gh+a=k/\i=.int .i64 a/\QB w wr T F N C B k cnt c0 p (nC d p (s+1)) (pT d p s++[mrow d p s k a]) (gs++[g])/\MachAt wr o k n d nb no nc fb fo fc nxs/\wr.heap[Q]?=some (.cells #[.int .i64 0,.int .i64 0,.slice none 0 0,.slice none 0 0] 42 (0,0)))
    case atStart=>exact⟨0,rfl,rfl,k3.out,k8.out,j7.out⟩
    case round =>
     clear k3 k8 j7;obtain⟨a,b7,rfl,hq,hm,b0⟩:=hrel;have HZ:=Kh b0;clear b0;have H9:=Kh b7;have HQ:=Kh hq;have HM:=Kh hm;clear b7;by_cases ha:a<k
     ·have m7:(a:Int)<k:=by exact_mod_cast ha
      obtain⟨c8,i8,i1⟩:=hq.last (by rw[a5.out];exact c2);rw[a5.out]at i8;unfold rowV at i8;obtain⟨p0,p1,p2⟩:=zH hm.box;rw[<- d3.out]at p1;obtain⟨t0,t1,t2,t3⟩:=zF hq.box;have cX:=hm.nx s a hs ha;have d8:=qC HD.out hs ha;have cC:=Arr.nat hq.cl (nx d s a) (by rw[e7];exact d8);have fg:=c8.frozen a;have cg:=c8.int a (by rw[i1];exact ha);have m3:=c8.lt;have c9:=mrow_set HD.out (p:=p) hs ha;obtain⟨e1,e2,e3,e4,e5⟩:=qGZ hs ha m2 hn;rw[<- d3.out]at e5;obtain⟨X,hX⟩:∃ X,X=s * k+a:=⟨_,rfl⟩;rw[<- hX]at cX e3 e4 e5;obtain⟨Y,hY⟩:∃ Y,Y=s * k:=⟨_,rfl⟩;rw[<- hY]at e1 e2 e3 e4;obtain⟨t,ht⟩:∃ t,t=nx d s a:=⟨_,rfl⟩;rw[<- ht]at cX cC d8 c9;obtain⟨v,hv⟩:∃ c,c=p.getD t 0:=⟨_,rfl⟩;rw[<- hv]at cC c9;have n6:=Kh c9;have e5':(X:Int)<nk:=(by exact_mod_cast e5);have l4:(t:Int)<n:=(by exact_mod_cast d8);have l9:nk<=nc:=by rw[d3.out];exact HM.out.ncap.1
      obtain⟨wo4,rfl⟩:∃ wo4:World,wo4=wr:=⟨_,rfl⟩;clear c8 i1 hq hm hX hY ht hv c9;go_wp2
      go_region
      all_goals (try go_frame)
      all_goals go_wp2
      all_goals
       go_roundg (k - (a+1))
       case measure=>have:=H9.out;clear e1 e2 e3 e4;omega
       case rel =>
        have b8:wo4.grownBy (wo4.setCell ⟨g,a,none⟩ (.int .i64 (v:Int))).drew (some g):=zD (zC wo4 ⟨g,a,none⟩ _) (zP _ _);have p3:=HQ.out.glo g (by simp);have o3:=n5.out;clear e1 e2 e3 e4;exact⟨a+1,by have:=H9.out;omega,by go_num,by rw[<- n6.out];exact(HQ.out.setL ha v).grow (zP _ none),HM.out.kept b8 (fun e=>by have:=Oj e;omega) (fun e=>by have:=Oj e;omega) (fun e=>by have:=Oj e;omega),zA HZ.out b8 (fun e=>by have:=Oj e;have:=g3.out;omega)⟩
     ·have j1:a=k:=by have:=H9.out;omega
      have m7:¬ (a:Int)<k:=(by omega);have HE:Hid (pT d p s++[mrow d p s k a]=pT d p (s+1)):=Kh (by rw[j1,mrow_full HD.out hs,E2.out]);rw[HE.out]at HQ;clear j1 hq hm;go_wp2;go_roundg (n - (s+1))
      case measure=>have:=c6.out;omega
      case rel=>exact⟨s+1,gs++[g],by have:=c6.out;omega,by go_num,HQ.out,HM.out,HZ.out⟩
   ·have i0:s=n:=by have:=c6.out;omega
    have l5:¬ (s:Int)<n:=(by omega);have H4:=wH H5 s (by omega);have f6:cls (p.take s)=cnt:=by rw[h0.out,List.take_of_length_le (by omega)]
    have e8:=hq.ok (by rw[nC,List.length_map,H4,f6]) (by rw[pT,List.length_map,H4,f6]) (by unfold maxLen;omega) (by unfold maxLen;omega)
    have i2:(⟨(k:Int),(c0:Int),nC d p s,pT d p s⟩:DfaV)=vE d p:=by
     rw[vE,n4.out,<- o0.out,HD.out.hk,reps,e7,<- i0];rfl
    rw[i2]at e8;have d7:=aS HD.out e7 H5;rw[<- h0.out]at d7;have g7:=Kh (mM wr.heap.size wr _ (vE d p) cnt k (Nat.le_refl _) e8 d7 h5);have i4:minD (vE d p) k=minD d k:=by rw[k4.out];exact minQ HD.out
    rw[i4]at g7;obtain⟨t0,t1,t2,t3⟩:=zF hq.box;have k7:Hid ((minD d k).letters=k/\(minD d k).start=0):=Kh ⟨(pS HD.out).hk,rfl⟩;have n7:=Kh (hg);clear i0 H4 f6 e8 i2 d7 i4 hg hq b5 H5;go_wp2_with fail;refine g7.out.mono ?_;rintro e w9 ⟨v9,rfl,i6,f5⟩;obtain⟨f9,n9,rfl,d9⟩:=i6.t;obtain⟨fa9,fl9,fc9,na9,nl9,nc9,rfl,rfl⟩:=d9.shapes;rw[k7.out.1,k7.out.2];have H3:=Kh (zA HZ.out f5 (by simp));have n3:=Kh d9;have n8:=Kh (zB n7.out f5 (by simp));obtain⟨q0,q1,q2,q3⟩:=zF H3.out;have f0:=zE H3.out 0;have f1:=zE H3.out 1;have f2:=zE H3.out 2;have f3:=zE H3.out 3;clear i6 f5 d9 g7 t0 t1 t2 t3;go_wp2;obtain⟨c3,a2⟩:=xI H3.out (.int .i64 (k:Int)) (.int .i64 0) (.slice fa9 fl9 fc9) (.slice na9 nl9 nc9);obtain⟨wz,b1⟩:∃ wz,wz=(((w9.setCell ⟨Q,0,none⟩ (.int .i64 (k:Int))).setCell ⟨Q,1,none⟩ (.int .i64 0)).setCell ⟨Q,2,none⟩ (.slice fa9 fl9 fc9)).setCell ⟨Q,3,none⟩ (.slice na9 nl9 nc9):=⟨_,rfl⟩;rw[<- b1]at c3 a2 ⊢;clear b1;obtain⟨r0,r1,r2,r3⟩:=zF c3;clear q0 q1 q2 q3 f0 f1 f2 f3;refine bodyPost_ret (v:=.tuple #[.agg #[.int .i64 (k:Int),.int .i64 0,.slice fa9 fl9 fc9,.slice na9 nl9 nc9],.bool true]) (by simp[results,Try.results70,go_sem,r0,r1,r2,r3]) rfl ?_
    have l6:∀ j,some Q=some j->yF w9 4 j/\yF w9 34 j/\yF w9 3 j:=fun j e=>by
     obtain rfl:Q=j:=Oj e;exact⟨⟨_,_,_,H3.out,by decide⟩,⟨_,_,_,H3.out,by decide⟩,⟨_,_,_,H3.out,by decide⟩⟩
    exact⟨_,true,rfl,zB n8.out a2 (fun j e=>by have e:Q=j:=Oj e;have:=g4.out;omega),.inl ⟨rfl,g6.out,_,_,rfl,n3.out.kept a2 l6⟩⟩
def autD (ps:List (List ByteArray))(letters:Int):List DfaV:=ps.map fun p=>xM p letters
def qDI (w:World)(E:Int)(ds:List DfaV)(e:Ending)(w':World):Prop:=∃ sa n sc,e=.returned (.tuple #[.slice sa n sc,.int .i64 E])/\w.grownBy w' none/\((E≠0)\/(E=0/\n=ds.length/\∃ l,l.map (·.1)=ds/\DsUp w.heap.size w' (.slice sa n sc) l))
theorem gF (B:Nat)(w:World)(v:Value)(ps:List (List ByteArray))(letters:Int)(hB:B<=w.heap.size)(h:uJ B w v ps)(hl:ps.length<=4096):
  Calls Try.prog 56 #[v,.int .i64 letters] w (qDI w (vM letters ps) (autD ps letters)):=by
 obtain⟨a,c,rfl⟩:=h.shape;obtain⟨n,hn⟩:∃ n,n=ps.length:=⟨_,rfl⟩;have HN:=Kh hn;have H:=Kh h;rw[<- hn]at hl H ⊢;clear h hn;go_enter Try.func56,Try.ntmps56;go_wp2
 go_loopg [7,8,16] n (fun gh s7 s8 i wr=>∃ k:Nat,gh+k=n/\i=.int .i64 k/\vM letters (ps.drop k)=vM letters ps/\w.grownBy wr none)
 case atStart=>exact⟨0,rfl,rfl,rfl,zM _ _⟩
 case round =>
  obtain⟨k,H6,rfl,b2,hg⟩:=hrel;have h9:=Kh H6;have HG:=Kh hg;have h4:=Kh b2;clear H6 b2;by_cases hk:k<n
  ·have b5:(k:Int)<n:=by omega
   have H5:=H.out.kept hg (by simp);obtain⟨b,off,cap,e,c6,h8,a6,h3⟩:=H5.at_ (by rw[<- HN.out];omega);rw[<- HN.out]at e h8 h3;simp only[Value.slice.injEq,true_and]at e;obtain⟨rfl,rfl⟩:=e;obtain⟨sa,sc,c1,h2,H1⟩:=h3 k hk;obtain⟨q,hq⟩:∃ q,q=ps.getD k []:=⟨_,rfl⟩;rw[<- hq]at c1 h2 H1;have c4:c<=9223372036854775807:=by unfold maxLen at a6;omega
   have HV:Hid (∀ W:World,wr.grownBy W none->Calls Try.prog 36 #[.agg #[.slice sa q.length sc],.int .i64 letters] W fun e w'=>e=.returned (.int .i64 (patW q letters))/\w.grownBy w' none):=Kh (fun W hW=>(kZ B W _ q letters (h2.kept hW (by simp)) H1).mono fun e w' ⟨he,hg'⟩=>⟨he,zB HG.out (zD hW hg') (by simp)⟩);have HQ:=Kh hq;obtain⟨E,hE⟩:∃ E,E=patW q letters:=⟨_,rfl⟩;rw[<- hE]at HV;have HE:=Kh hE;obtain⟨ql,H4⟩:∃ n,n=q.length:=⟨_,rfl⟩;rw[<- H4]at c1 HV;clear H5 h3 h2 H1 hq hg hE H4;go_wp2_with fail;refine(HV.out _ (Ga wr _ none)).mono ?_;rintro e w1 ⟨rfl,h7⟩;have H0:=Kh h7;clear h7 HV;by_cases hE:E=0
   ·have e1:(E != 0)=false:=by simp[hE]
    have b0:=Kh hE;clear hE;go_wp2;go_roundg (n - (k+1))
    case measure=>have:=h9.out;omega
    case rel=>exact⟨k+1,by have:=h9.out;omega,by go_num,(mO (by rw[<- HN.out];exact hk) (by rw[<- HQ.out,<- HE.out];exact b0.out)).trans h4.out,H0.out⟩
   ·have e1:(E != 0)=true:=by rw[bne_iff_ne];exact hE
    have b0:=Kh hE;have c0:Hid (vM letters ps=E):=Kh (by rw[<- h4.out,fY (by rw[<- HN.out];exact hk) (by rw[<- HQ.out,<- HE.out];exact hE),<- HQ.out,<- HE.out]);clear hE;go_wp2;refine bodyPost_ret (v:=.tuple #[.slice none 0 0,.int .i64 E]) (by simp[results,Try.results56,go_sem]) rfl ?_;exact⟨none,0,0,by rw[c0.out],H0.out,.inl (by rw[c0.out];exact b0.out)⟩
  ·have a3:k=n:=by have:=h9.out;omega
   have a8:Hid (vM letters ps=0):=Kh (by rw[<- h4.out];exact jA (by rw[<- HN.out];exact hk));have c5:¬ (k:Int)<n:=by omega
   have c8:Hid (∀ j,j<n->patW (ps.getD j []) letters=0):=Kh (fun j hj=>by
    have:=uL.1 a8.out;rw[zG (by rw[<- HN.out];exact hj)]
    exact this _ (List.getElem_mem _))
   clear a3 h4 h9;obtain⟨wo,rfl⟩:∃ wo:World,wo=wr:=⟨_,rfl⟩;go_wp2_with (first|(at_make;refine make0N rfl _ _ _ rfl gV .i64 .i64 _ (n+1) rfl rfl (by simp) ?m2 ?m3 ?_)|fail)
   case m2=>omega
   case m3=>unfold maxLen;omega
   intro w1 h6 h7;have b9:Hid (DsUp w.heap.size w1 (.slice (some ⟨wo.heap.size,0,none⟩) 0 (n+1)) []):=Kh ⟨xN h6 HG.out.size,fun x hx=>absurd hx (by simp)⟩;have H0:=Kh (zB HG.out h7 (by simp));clear h6 h7 hg HG;go_wp2
   go_loopg [9,11,12,13,33] n (fun gh v9 s11 s12 s13 i wr=>∃ (k:Nat) (sa:Option Addr) (sc:Nat) (l:List (DfaV×Value×Value)),gh+k=n/\i=.int .i64 k/\v9=.slice sa k sc/\l.map (·.1)=autD (ps.take k) letters/\DsUp w.heap.size wr (.slice sa k sc) l/\l.length=k/\w.grownBy wr none)
   case atStart=>exact⟨0,_,_,[],rfl,rfl,rfl,rfl,b9.out,rfl,H0.out⟩
   case round =>
    clear b9 H0;obtain⟨k,sa,sc,l,H6,rfl,rfl,b4,b6,b3,hg⟩:=hrel;have h9:=Kh H6;have HG:=Kh hg;have H9:=Kh b4;have b1:=Kh b6;have H8:=Kh b3;clear H6 b4 b6 b3;by_cases hk:k<n
    ·have b5:(k:Int)<n:=by omega
     have H5:=H.out.kept hg (by simp);obtain⟨b,off,cap,e,c6,h8,a6,h3⟩:=H5.at_ (by rw[<- HN.out];omega);rw[<- HN.out]at e h8 h3;simp only[Value.slice.injEq,true_and]at e;obtain⟨rfl,rfl⟩:=e;obtain⟨ea,ec,c1,h2,H1⟩:=h3 k hk;have a2:=c8.out k hk
     have a7:Hid (autD (ps.take (k+1)) letters=autD (ps.take k) letters++[xM (ps.getD k []) letters]):=Kh (by
      rw[zR (d:=[]) (by rw[<- HN.out];exact hk),autD,List.map_append];rfl)
     obtain⟨q,hq⟩:∃ q,q=ps.getD k []:=⟨_,rfl⟩;rw[<- hq]at c1 h2 H1 a2 a7;have c4:c<=9223372036854775807:=by unfold maxLen at a6;omega
     have HV:Hid (∀ W:World,wr.grownBy W none->Calls Try.prog 83 #[.agg #[.slice ea q.length ec],.int .i64 letters] W (dY W 0 (xM q letters))):=Kh (fun W hW=>by
      have:=pdfa_anyT B W _ q letters (h2.kept hW (by simp)) (by have:=hW.size;have:=HG.out.size;omega) H1;rw[a2]at this
      exact this)
     obtain⟨ql,H4⟩:∃ n,n=q.length:=⟨_,rfl⟩;obtain⟨D,hD⟩:∃ D,D=xM q letters:=⟨_,rfl⟩;rw[<- H4]at c1 HV;rw[<- hD]at HV a7;have d9:=hg.size;clear H5 h3 h2 H1 hq hg H4 a2 hD;go_wp2_with fail;refine(HV.out _ (Ga wr _ none)).mono ?_;rintro e w1 ⟨f1,x1,rfl,a1,h7⟩;obtain⟨fa1,fl1,fc1,na1,nl1,nc1,rfl,rfl⟩:=a1.shapes;have H0:=Kh (zB (Ga wr (.cells #[.slice ea ql ec] 28) none) h7 (by simp));have b8:=Kh a1;obtain⟨dl,a5⟩:∃ x,x=D.letters:=⟨_,rfl⟩;obtain⟨dst,H2⟩:∃ x,x=D.start:=⟨_,rfl⟩;rw[<- a5,<- H2];have d7:=Kh a5;have d6:=Kh H2;clear h7 a1 HV c1 a5 H2;obtain⟨w2,a0⟩:∃ w2,w2=w1.alloc (.cells #[.int .i64 dl,.int .i64 dst,.slice fa1 fl1 fc1,.slice na1 nl1 nc1] 42):=⟨_,rfl⟩;have H7:=Ga w1 (.cells #[.int .i64 dl,.int .i64 dst,.slice fa1 fl1 fc1,.slice na1 nl1 nc1] 42) none;have h8:=heap_alloc_new w1 (.cells #[.int .i64 dl,.int .i64 dst,.slice fa1 fl1 fc1,.slice na1 nl1 nc1] 42);obtain⟨R,hR⟩:∃ R,R=w1.heap.size:=⟨_,rfl⟩;rw[<- a0]at H7 h8;rw[<- hR]at h8;have c9:=Kh (b8.out.grow H7);have a9:=Kh (zB H0.out H7 (by simp));have H3:=Kh (b1.out.grow a9.out);have c7:=Kh a0;have d4:=Kh hR;obtain⟨d0,d1,d2,d3⟩:=zF h8;have e0:=a9.out.size;clear a0 hR H7 h8 b1 H0 b8;go_upto_region 13 with fail;rw[<- c7.out,<- d4.out];go_wp2_with (first|(at_builtin;refine dT rfl _ _ _ rfl gV w.heap.size (.slice sa k sc) k (jN l) rfl ?h0 [.int .i64 dl,.int .i64 dst,.slice fa1 fl1 fc1,.slice na1 nl1 nc1] rfl rfl ?h1 ?c1 ?c2 ?c3 ?_)|fail)
     case h0=>have:=H3.out.own;rw[H8.out]at this;exact this
     case h1=>intro u hu;simp at hu;rcases hu with rfl|rfl|rfl|rfl<;>rfl
     case c1=>unfold maxLen;omega
     case c2=>omega
     case c3=>have:=HG.out.size;omega
     intro sa' sc' w3 h5 a4;have b7:=H3.out.push (v':=.slice sa' (k+1) sc') (x:=(D,.slice fa1 fl1 fc1,.slice na1 nl1 nc1)) c9.out (by rw[H8.out];unfold dval;rw[<- d7.out,<- d6.out];exact h5) a4;have d8:=Kh b7;have d5:Hid (w.grownBy w3 none):=Kh (zB (zB HG.out a9.out (by simp)) a4 (fun x e=>(H3.out.own.lt x e).1));clear h5 a4 b7;go_wp2;go_roundg (n - (k+1))
     case measure=>have:=h9.out;omega
     case rel=>exact⟨k+1,sa',sc',l++[(D,.slice fa1 fl1 fc1,.slice na1 nl1 nc1)],by have:=h9.out;omega,by go_num,rfl,by rw[a7.out,List.map_append,H9.out];rfl,d8.out,by rw[List.length_append,H8.out];rfl,d5.out⟩
    ·have a3:k=n:=by have:=h9.out;omega
     have b5:¬ (k:Int)<n:=(by omega);have HE:Hid (ps.take k=ps):=Kh (List.take_of_length_le (by rw[<- HN.out];omega));rw[HE.out]at H9;clear hg a3;go_wp2;refine bodyPost_ret (v:=.tuple #[.slice sa k sc,.int .i64 0]) (by simp[results,Try.results56,go_sem]) rfl ?_;exact⟨sa,k,sc,by rw[a8.out],HG.out,.inr ⟨a8.out,by rw[<- H9.out,List.length_map,H8.out],l,H9.out,b1.out⟩⟩
end Go.Proofs.Ytjfdomfendbhfaa
