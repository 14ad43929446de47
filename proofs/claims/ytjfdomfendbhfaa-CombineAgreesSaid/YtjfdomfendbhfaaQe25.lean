/- Part 25 of the proof: CCls. -/
import Derived.Test.YtjfdomfendbhfaaQe19
import Derived.Test.YtjfdomfendbhfaaQe24
import Derived.BigRegion
set_option linter.unusedVariables false
set_option linter.unusedSimpArgs false
namespace Go.Proofs.Ytjfdomfendbhfaa
open Go.RowKit
theorem qBF {s k a n:Nat} (hs:s < n) (ha:a < k) (hk:k<=6) (hn:n<=4000):IntKind.i64.wrap ((s:Int) * (k:Int))=((s * k:Nat):Int)/\wrap64 ((s:Int) * (k:Int))=((s * k:Nat):Int)/\IntKind.i64.wrap (((s * k:Nat):Int)+(a:Int))=((s * k+a:Nat):Int)/\wrap64 (((s * k:Nat):Int)+(a:Int))=((s * k+a:Nat):Int)/\s * k+a < n * k:=by
 have h1:s * k<=4000 * 6:=Nat.mul_le_mul (by omega) hk
 have e:(s:Int) * (k:Int)=((s * k:Nat):Int):=by simp
 have h2:s * k+k<=n * k:=by rw[<- Nat.succ_mul];exact Nat.mul_le_mul_right k hs
 rw[e]
 generalize s * k=Y at h1 h2 ⊢
 have e2:(Y:Int)+(a:Int)=((Y+a:Nat):Int):=by omega
 rw[e2]
 exact⟨xX (by omega),IntWalk.wrap64_in _ (by omega),xX (by omega),IntWalk.wrap64_in _ (by omega),by omega⟩
def mrkN (d:DfaV) (n k:Nat):List Nat:=(List.range n).map fun s=>if s < k/\d.final.getD s false=true then 1 else 0
theorem tV (d:DfaV) (n k:Nat):(mrkN d n k).length=n:=by simp[mrkN]
theorem mrkN_zero (d:DfaV) (n:Nat):mrkN d n 0=List.replicate n 0:=by
 refine List.ext_getElem (by simp[mrkN]) fun i h1 h2=>by simp[mrkN]
theorem mrkN_yes {d:DfaV} {n k:Nat} (hk:k < n) (h:d.final.getD k false=true):(mrkN d n k).set k 1=mrkN d n (k+1):=by
 refine List.ext_getElem (by simp[mrkN]) fun i h1 h2=>?_
 rw[List.getElem_set]
 simp only[mrkN,List.getElem_map,List.getElem_range]
 split
 ·rename_i e;subst e;rw[if_pos ⟨by omega,h⟩]
 ·rename_i e
  by_cases hi:i < k/\d.final.getD i false=true
  ·rw[if_pos hi,if_pos ⟨by omega,hi.2⟩]
  ·rw[if_neg hi,if_neg (fun h'=>hi ⟨by omega,h'.2⟩)]
theorem mrkN_no {d:DfaV} {n k:Nat} (h:d.final.getD k false=false):mrkN d n k=mrkN d n (k+1):=by
 refine List.map_congr_left fun i hi=>?_
 by_cases hi:i < k/\d.final.getD i false=true
 ·rw[if_pos hi,if_pos ⟨by omega,hi.2⟩]
 ·rw[if_neg hi,if_neg (fun h'=>by
   by_cases e:i=k
   ·subst e;rw[h]at h';cases h'.2
   ·exact hi ⟨by omega,h'.2⟩)]
theorem fin_part0 {d:DfaV} {n k:Nat} (hd:VD d n k):numb (tI 2 (List.replicate n 0) (mrkN d n n))=qP d:=by
 have hl:(tI 2 (List.replicate n 0) (mrkN d n n)).length=n:=by rw[vW (by rw[tV];simp)];simp
 refine pM _ _ (by rw[hl,List.length_map,hd.hn]) fun i j hi hj=>?_
 rw[hl]at hi hj
 have key:∀ i (hi:i < n),(tI 2 (List.replicate n 0) (mrkN d n n))[i]'(by rw[hl];exact hi)=if d.final.getD i false=true then 1 else 0:=fun i hi=>by
  simp[tI,mrkN,hi]
 have key2:∀ i (hi:i < n),(d.final.map finB)[i]'(by rw[List.length_map,hd.hn];exact hi)=finB (d.final.getD i false):=fun i hi=>by
  rw[zF (show i < d.final.length by rw[hd.hn];exact hi)];simp
 rw[key i hi,key j hj,key2 i hi,key2 j hj]
 cases d.final.getD i false <;> cases d.final.getD j false <;> simp[finB]
def midM (d:DfaV) (p q:List Nat) (a j:Nat):List Nat:=(pV d p a).take j ++ q.drop j
theorem kX {d:DfaV} {p q:List Nat} {a j:Nat} (h:q.length=p.length) (hj:j<=p.length):(midM d p q a j).length=p.length:=by simp[midM,yT,h];omega
theorem midM_set {d:DfaV} {p q:List Nat} {a j:Nat} (h:q.length=p.length) (hj:j < p.length):(midM d p q a j).set j (p.getD (nx d j a) 0)=midM d p q a (j+1):=by
 have hl:((pV d p a).take j).length=j:=by rw[List.length_take,yT];omega
 rw[midM,List.set_append_right _ _ (by omega),hl,Nat.sub_self,midM,zW (d:=0) (by rw[yT];omega),List.append_assoc,pA hj]
 rw[List.drop_eq_getElem_cons (show j < q.length by omega),List.set_cons_zero];rfl
theorem midM_end {d:DfaV} {p q:List Nat} {a j:Nat} (h:q.length=p.length) (hj:j=p.length):midM d p q a j=pV d p a:=by
 subst hj
 rw[midM,List.drop_of_length_le (by omega),List.append_nil,List.take_of_length_le (by rw[yT];exact Nat.le_refl _)]
theorem colTo_ltc {d:DfaV} {p:List Nat} {a:Nat} {c:Nat} (h:∀ x∈p,x < c) (h0:0 < c):∀ x∈pV d p a,x < c:=fun x hx=>by
 simp only[pV,List.mem_map,List.mem_range]at hx
 obtain⟨q,_,rfl⟩:=hx
 exact rG h h0
theorem norm_lt_cls' {p:List Nat} (h:Norm p):∀ x∈p,x < cls p:=fun x hx=>by
 obtain⟨i,hi,rfl⟩:=List.getElem_of_mem hx
 have:=vL h hi
 rwa [zF hi]at this
structure MachAt (w:World) (o k n:Nat) (d:DfaV) (nb no nc fb fo fc:Nat) (nxs:List Nat):Prop where
 box:w.heap[o]?=some (.cells #[.int .i64 (k:Int),.slice (some ⟨nb,no,none⟩) (n * k) nc,.slice (some ⟨fb,fo,none⟩) n fc] 113 (0,0))
 nx:∀ s a,s < n->a < k->w.cell? ⟨nb,no+(s * k+a),none⟩=some (.int .i64 ((nx d s a:Nat):Int))
 fin:∀ s,s < n->w.cell? ⟨fb,fo+s,none⟩=some (.bool (d.final.getD s false))
 nlt:nb < w.heap.size
 flt:fb < w.heap.size
 ncap:n * k<=nc/\nc<=maxLen
 fcap:n<=fc/\fc<=maxLen
theorem MachAt.kept {w w':World} {o k n:Nat} {d:DfaV} {nb no nc fb fo fc:Nat} {nxs:List Nat} {row:Option Nat} (h:MachAt w o k n d nb no nc fb fo fc nxs) (hg:w.grownBy w' row) (h1:row≠some o) (h2:row≠some nb) (h3:row≠some fb):MachAt w' o k n d nb no nc fb fo fc nxs :=
 ⟨zA h.box hg h1,fun s a hs ha=>(World.cell?_of_block (hg.block _ h.nlt (fun e=>h2 e.symm))).trans (h.nx s a hs ha),fun s hs=>(World.cell?_of_block (hg.block _ h.flt (fun e=>h3 e.symm))).trans (h.fin s hs),Nat.lt_of_lt_of_le h.nlt hg.size,Nat.lt_of_lt_of_le h.flt hg.size,h.ncap,h.fcap⟩
set_option maxRecDepth 100000 in
set_option maxHeartbeats 2000000 in
theorem mclasses_any (w:World) (o k n:Nat) (d:DfaV) (nb no nc fb fo fc:Nat) (nxs:List Nat) (hd:VD d n k) (hn:n<=4000) (h:MachAt w o k n d nb no nc fb fo fc nxs) :
  Calls Try.prog 89 #[.pointer (some ⟨o,0,none⟩)] w fun e w'=>∃ (p:List Nat) (g:Nat),e=.returned (.tuple #[.slice (some ⟨g,0,none⟩) n n,.int .i64 ((cls p:Nat):Int)])/\Arr w' g 3 (nats p)/\w.heap.size<=g/\w.grownBy w' none/\SeqI d n k p/\(512 < cls p\/p=zR d k):=by
 have H:=Kh h;have HD:=Kh hd
 have g5:=hd.k6;have j5:=hd.k1;have j4:=hd.n1
 have j2:=zH h.box
 have j3:=h.nlt;have j6:=h.flt
 have g7:=h.fcap.1
 have g6:fc<=9223372036854775807:=by have:=h.fcap.2;unfold maxLen at this;omega
 have g0:nc<=9223372036854775807:=by have:=h.ncap.2;unfold maxLen at this;omega
 obtain⟨p0,p1,p2⟩:=zJ h.box
 obtain⟨nk,d0⟩:∃ x,x=n * k:=⟨_,rfl⟩
 rw[<- d0]at p1
 have H8:=Kh d0
 clear h hd d0
 go_enter Try.func89,Try.ntmps89
 go_upto_region 2 with (first|(at_make;refine kZ rfl _ _ _ rfl xQ rfl .i64 .i64 _ _ n rfl rfl rfl rfl ?b1 ?b2 ?_;(case b1=>omega);(case b2=>(unfold maxLen;omega));intro w1 d7 d1 g3)|fail)
 have H1:=Kh (H.out.kept d1 (by simp) (by simp) (by simp))
 obtain⟨p0,p1,p2⟩:=zJ H1.out.box
 rw[<- H8.out]at p1
 obtain⟨C,hC⟩:∃ b,b=w.heap.size:=⟨_,rfl⟩
 rw[<- hC]at d7 ⊢
 have f7:=Kh d7;have f5:=Kh d1;have HC:=Kh hC
 have e9:w.heap.size<=C:=by omega
 have i0:C < w1.heap.size:=by omega
 clear d7 d1 hC
 go_upto_region 3 with (first|(at_make;refine kZ rfl _ _ _ rfl xQ rfl .i64 .i64 _ _ n rfl rfl rfl rfl ?b3 ?b4 ?_;(case b3=>omega);(case b4=>(unfold maxLen;omega));intro w2 d6 c3 g2)|fail)
 have H2:=Kh (H1.out.kept c3 (by simp) (by simp) (by simp))
 obtain⟨p0,p1,p2⟩:=zJ H2.out.box
 rw[<- H8.out]at p1
 obtain⟨M,hM⟩:∃ b,b=w1.heap.size:=⟨_,rfl⟩
 rw[<- hM]at d6 ⊢
 have H7:C≠M:=by omega
 have g9:w.heap.size<=M:=by omega
 have f6:=Kh d6;have b7:=Kh (f7.out.kept c3 (by simp));have f4:=Kh (zB f5.out c3 (by simp))
 clear d6 c3 f7 f5 hM H1
 go_wp2_with fail
 go_loopg [6,7,29] n (fun gh a6 a7 i wr=>∃ s:Nat,gh+s=n/\i=.int .i64 s/\Arr wr C 3 (nats (List.replicate n 0))/\Arr wr M 3 (nats (mrkN d n s))/\w.grownBy wr none)
 case atStart=>exact⟨0,rfl,rfl,by rw[yR];exact b7.out,by rw[mrkN_zero,yR];exact f6.out,f4.out⟩
 case round =>
  clear f6 b7 f4 p0 p1 p2 H2
  obtain⟨s,h5,rfl,hc,hm,hg⟩:=hrel
  have H0:=Kh h5;have a0:=Kh hc;have HM:=Kh hm;have HG:=Kh hg
  have HH:=Kh (H.out.kept hg (by simp) (by simp) (by simp))
  clear h5
  by_cases hs:s < n
  ·have b9:(s:Int) < n:=by omega
   have c1:=HH.out.fin s hs
   have H4:=mrkN_yes (d:=d) hs
   have c9:=mrkN_no (d:=d) (n:=n) (k:=s)
   obtain⟨b,hb⟩:∃ b,b=d.final.getD s false:=⟨_,rfl⟩
   rw[<- hb]at c1 H4 c9
   have f1:=hm.frozen s
   have c2:=Arr.nat hm s (by rw[tV];exact hs)
   have g1:=hm.lt
   have d8:=Kh H4;have i8:=Kh c9
   clear hb hc hm hg H4 c9
   cases b with
   | true =>
    go_wp2
    go_roundg (n - (s+1))
    case measure=>have:=H0.out;omega
    case rel =>
     have a3:=zC wr ⟨M,s,none⟩ (.int .i64 1)
     refine⟨s+1,by have:=H0.out;omega,by go_num,a0.out.kept a3 (fun e=>H7 (Oj e).symm),?_,zB HG.out a3 (fun j e=>by have e:M=j:=Oj e;omega)⟩
     rw[<- d8.out (by first|rfl|trivial)]
     exact HM.out.nat_set s (by rw[tV];exact hs) 1
   | false =>
    go_wp2
    go_roundg (n - (s+1))
    case measure=>have:=H0.out;omega
    case rel=>exact⟨s+1,by have:=H0.out;omega,by go_num,a0.out,by rw[<- i8.out (by first|rfl|trivial)];exact HM.out,HG.out⟩
  ·have a1:s=n:=by have:=H0.out;omega
   have b9:¬ (s:Int) < n:=by omega
   have b0:Hid (Calls Try.prog 114 #[.slice (some ⟨C,0,none⟩) n n,.slice (some ⟨M,0,none⟩) n n,.int .i64 1,.int .i64 2] wr fun e w'=>e=.returned (.int .i64 ((cls (qP d):Nat):Int))/\Arr w' C 3 (nats (qP d))/\wr.grownBy w' (some C)):=Kh (by
    have h9:=eW wr C M n 1 2 (List.replicate n 0) (mrkN d n n) (by simp) (tV _ _ _) (fun x hx=>by have:=(List.mem_replicate.1 hx).2;omega) (fun x hx=>by
     simp only[mrkN,List.mem_map]at hx
     obtain⟨y,_,rfl⟩:=hx
     split <;> omega) (by omega) (by omega) (by omega) (by omega) H7 a0.out (by have:=HM.out;rw[a1]at this;exact this)
    rw[fin_part0 HD.out]at h9
    exact h9)
   have f2:Hid (∃ q:List Nat,q.length=n/\Arr wr M 3 (nats q)):=Kh ⟨_,tV _ _ _,HM.out⟩
   clear a1 hc hm hg HM a0
   go_wp2_with fail
   refine b0.out.mono ?_
   rintro e w4 ⟨rfl,a9,H5⟩
   have b6:=Kh a9
   have c5:=Kh (zB HG.out H5 (fun j e=>by have e:C=j:=Oj e;omega))
   obtain⟨q,hq,e6⟩:=f2.out
   have f0:=Kh (e6.kept H5 (fun e=>H7 (Oj e)))
   have HQ:=Kh hq
   have a5:=SeqI.start HD.out
   obtain⟨pp,e7⟩:∃ p,p=qP d:=⟨_,rfl⟩
   rw[<- e7]at b6 a5 ⊢
   have h7:=Kh a5
   clear a9 H5 hq e6 e7 a5 f2 b0 HG H0 hs b9
   go_upto_region 11 with fail
   go_loopg [8,9,10,11,64] n (fun gh v8 v9 a10 a11 i64_ wr=>∃ (bf:Nat) (p q:List Nat),gh+bf=n/\v8=.int .i64 ((cls p:Nat):Int)/\v9=.int .i64 (bf:Int)/\SeqI d n k p/\bf<=cls p/\(bf=cls p->p=zR d k)/\q.length=n/\Arr wr C 3 (nats p)/\Arr wr M 3 (nats q)/\w.grownBy wr none)
   case atStart=>exact⟨0,pp,q,rfl,rfl,rfl,h7.out,Nat.zero_le _,fun e=>absurd e.symm (Nat.ne_of_gt (mS (by rw[h7.out.len];omega))),HQ.out,b6.out,f0.out,c5.out⟩
   case round =>
    clear h7 b6 f0 c5 HQ
    obtain⟨bf,p,q,h5,rfl,rfl,c7,g4,e0,a2,hC,hM,hg⟩:=hrel
    have H0:=Kh h5;have h7:=Kh c7;have i5:=Kh e0;have h8:=Kh a2;have HC:=Kh hC;have HM:=Kh hM;have HG:=Kh hg
    have a5:cls p<=n:=by have:=cls_le p;rw[c7.len]at this;exact this
    obtain⟨cp,a4⟩:∃ c,c=cls p:=⟨_,rfl⟩
    rw[<- a4]at g4 a5 ⊢
    have H9:=Kh a4
    clear h5 c7 e0 a2 hC hM a4
    by_cases h1:bf < cp
    case neg =>
     have i4:¬ (bf:Int) < cp:=by omega
     have HP:Hid (p=zR d k):=Kh (i5.out (by rw[<- H9.out];omega))
     clear hg
     go_wp2
     refine bodyPost_ret (v:=.tuple #[.slice (some ⟨C,0,none⟩) n n,.int .i64 (cp:Int)]) (by simp[results,Try.results89,go_sem]) rfl ?_
     exact⟨p,C,by rw[H9.out],HC.out,e9,HG.out,h7.out,.inr HP.out⟩
    have i4:(bf:Int) < cp:=by omega
    by_cases h2:cp<=512
    case neg =>
     have i3:¬ (cp:Int)<=512:=by omega
     clear hg
     go_wp2
     refine bodyPost_ret (v:=.tuple #[.slice (some ⟨C,0,none⟩) n n,.int .i64 (cp:Int)]) (by simp[results,Try.results89,go_sem]) rfl ?_
     exact⟨p,C,by rw[H9.out],HC.out,e9,HG.out,h7.out,.inl (by rw[<- H9.out];omega)⟩
    have i3:(cp:Int)<=512:=by omega
    clear hg
    go_wp2
    obtain⟨wo,rfl⟩:∃ wo:World,wo=wr:=⟨_,rfl⟩
    go_loopg [8,10,11,64] k (fun gh v8 v10 a11 i64_ wr=>∃ (a:Nat) (q:List Nat),gh+a=k/\v10=.int .i64 (a:Int)/\v8=.int .i64 ((cls (oJ d p a):Nat):Int)/\q.length=n/\Arr wr C 3 (nats (oJ d p a))/\Arr wr M 3 (nats q)/\w.grownBy wr none)
    case atStart=>exact⟨0,q,rfl,rfl,by rw[H9.out];rfl,h8.out,HC.out,HM.out,HG.out⟩
    case round =>
     clear HC HM HG h8
     obtain⟨a,q,h5,rfl,rfl,a2,hC,hM,hg⟩:=hrel
     have d5:a<=k:=by omega
     have b8:=h7.out.to HD.out a d5
     have a8:=kQ HD.out h7.out a d5
     have c4:=Kh (iK HD.out h7.out a d5)
     obtain⟨pa,c8⟩:∃ x,x=oJ d p a:=⟨_,rfl⟩
     rw[<- c8]at b8 a8 hC c4 ⊢
     have i7:=Kh c8;have b5:=Kh b8
     have f3:=Kh h5;have h8:=Kh a2;have HC:=Kh hC;have HM:=Kh hM;have HG:=Kh hg
     have d2:cls pa<=n:=by have:=cls_le pa;rw[b8.len]at this;exact this
     obtain⟨ca,d3⟩:∃ c,c=cls pa:=⟨_,rfl⟩
     rw[<- d3]at a8 d2 c4 ⊢
     rw[<- H9.out]at a8 c4
     have H3:=Kh d3
     have HH:=Kh (H.out.kept hg (by simp) (by simp) (by simp))
     obtain⟨p0,p1,p2⟩:=zJ HH.out.box
     rw[<- H8.out]at p1
     clear h5 a2 hC hM d3 c8 b8
     by_cases h3:a < k
     case neg =>
      have i2:¬ (a:Int) < k:=by omega
      have d4:a=k:=by omega
      have i6:Hid (cp=ca->pa=zR d k):=Kh (fun e=>by
       obtain⟨e1,e2⟩:=c4.out e.symm
       rw[e1]
       exact h7.out.stable HD.out (fun b hb=>e2 b (by omega)))
      clear hg d4
      go_wp2
      go_roundg (n - cp)
      case measure=>have:=H0.out;omega
      case rel=>exact⟨cp,pa,q,by omega,by rw[H3.out],rfl,b5.out,by rw[<- H3.out];exact a8,fun e=>i6.out (by rw[H3.out];exact e),h8.out,HC.out,HM.out,HG.out⟩
     have i2:(a:Int) < k:=by omega
     by_cases h4:ca<=512
     case neg =>
      have i1:¬ (ca:Int)<=512:=by omega
      clear hg
      go_wp2
      go_roundg (n - cp)
      case measure=>have:=H0.out;omega
      case rel=>exact⟨cp,pa,q,by omega,by rw[H3.out],rfl,b5.out,by rw[<- H3.out];exact a8,fun e=>absurd e (by rw[<- H3.out];omega),h8.out,HC.out,HM.out,HG.out⟩
     have i1:(ca:Int)<=512:=by omega
     have g8:1<=ca:=by rw[H3.out];exact mS (by rw[b5.out.len];omega)
     clear hg
     go_wp2
     obtain⟨wo2,rfl⟩:∃ wo2:World,wo2=wr:=⟨_,rfl⟩
     clear p0 p1 p2
     go_loopg [11,64] n (fun gh a11 i wr=>∃ s:Nat,gh+s=n/\i=.int .i64 s/\Arr wr C 3 (nats pa)/\Arr wr M 3 (nats (midM d pa q a s))/\w.grownBy wr none)
     case atStart=>exact⟨0,rfl,rfl,HC.out,by rw[show midM d pa q a 0=q by simp[midM]];exact HM.out,HG.out⟩
     case round =>
      clear HC HM HG HH
      obtain⟨s,h5,rfl,hC,hM,hg⟩:=hrel
      have d9:=Kh h5;have HC:=Kh hC;have HM:=Kh hM;have HG:=Kh hg
      have HH:=Kh (H.out.kept hg (by simp) (by simp) (by simp))
      have h6:pa.length=n:=b5.out.len
      have h0:=Kh h6
      by_cases hs:s < n
      ·have b9:(s:Int) < n:=by omega
       obtain⟨p0,p1,p2⟩:=zJ HH.out.box
       rw[<- H8.out]at p1
       have cN:=HH.out.nx s a hs h3
       have c6:=qF HD.out hs h3
       have cC:=Arr.nat hC (nx d s a) (by rw[h6];exact c6)
       have fM:=hM.frozen s
       have cM:=Arr.nat hM s (by rw[kX (by rw[h8.out,h6]) (by omega),h6];exact hs)
       have g1:=hM.lt
       have c0:=midM_set (d:=d) (p:=pa) (q:=q) (a:=a) (by rw[h8.out,h6]) (by rw[h6];exact hs)
       obtain⟨e1,e2,e3,e4,e5⟩:=qBF hs h3 g5 hn
       rw[<- H8.out]at e5
       obtain⟨X,hX⟩:∃ X,X=s * k+a:=⟨_,rfl⟩
       rw[<- hX]at cN e3 e4 e5
       obtain⟨Y,hY⟩:∃ Y,Y=s * k:=⟨_,rfl⟩
       rw[<- hY]at e1 e2 e3 e4
       obtain⟨t,ht⟩:∃ t,t=nx d s a:=⟨_,rfl⟩
       rw[<- ht]at cN cC c6 c0
       obtain⟨c,hc⟩:∃ c,c=pa.getD t 0:=⟨_,rfl⟩
       rw[<- hc]at cC c0
       have i9:=Kh c0
       have e5':(X:Int) < nk:=by exact_mod_cast e5
       have f8:(t:Int) < n:=by exact_mod_cast c6
       have f9:nk<=nc:=by rw[H8.out];exact HH.out.ncap.1
       obtain⟨wo3,rfl⟩:∃ wo3:World,wo3=wr:=⟨_,rfl⟩
       clear hC hM hg hX hY ht hc c0 h5 h6
       go_wp2
       go_region
       all_goals (try go_frame)
       all_goals go_wp2
       all_goals
        go_roundg (n - (s+1))
        case measure=>have:=d9.out;clear e1 e2 e3 e4;omega
        case rel =>
         have a3:wo3.grownBy (wo3.drew.setCell ⟨M,s,none⟩ (.int .i64 (c:Int))) (some M):=zD (zL wo3 (some M)) (zC wo3.drew ⟨M,s,none⟩ (.int .i64 (c:Int)))
         refine⟨s+1,by have:=d9.out;clear e1 e2 e3 e4;omega,by go_num,HC.out.kept a3 (fun e=>H7 (Oj e).symm),?_,zB HG.out a3 (fun j e=>by have e:M=j:=Oj e;rw[<- e];exact g9)⟩
         rw[<- i9.out]
         exact(HM.out.of_heap (w':=wo3.drew) rfl).nat_set s (by rw[kX (by rw[h8.out,h0.out]) (by rw[h0.out];exact Nat.le_of_lt hs),h0.out];exact hs) c
      ·have a1:s=n:=by have:=d9.out;omega
       have b9:¬ (s:Int) < n:=by omega
       have j0:Hid (midM d pa q a s=pV d pa a):=Kh (midM_end (by rw[h8.out,h6]) (by rw[h6];exact a1))
       rw[j0.out]at HM
       have b0:Hid (Calls Try.prog 114 #[.slice (some ⟨C,0,none⟩) n n,.slice (some ⟨M,0,none⟩) n n,.int .i64 (ca:Int),.int .i64 (ca:Int)] wr fun e w'=>e=.returned (.int .i64 ((cls (oJ d p (a+1)):Nat):Int))/\Arr w' C 3 (nats (oJ d p (a+1)))/\wr.grownBy w' (some C)):=Kh (by
        have e8:∀ x∈pa,x < ca:=by rw[H3.out];exact norm_lt_cls' b5.out.norm
        have a4:ca<=pa.length:=by rw[H3.out];exact cls_le pa
        have H6:=colTo_ltc (d:=d) (a:=a) e8 (by omega)
        have h9:=eW wr C M n ca ca pa (pV d pa a) h0.out (by rw[yT,h0.out]) e8 H6 (Nat.le_trans (Nat.mul_le_mul h4 h4) (by decide)) (by omega) (by omega) (by omega) H7 HC.out HM.out
        rw[pairs_both8 (by rw[yT]) H6 (fun x hx=>Nat.lt_of_lt_of_le (H6 x hx) a4)]at h9
        rw[show oJ d p (a+1)=eG pa (pV d pa a) by rw[i7.out];rfl]
        exact h9)
       clear a1 hC hM hg h6 h5
       go_wp2_with fail
       refine b0.out.mono ?_
       rintro e w4 ⟨rfl,a9,H5⟩
       have b6:=Kh a9
       have c5:=Kh (zB HG.out H5 (fun j e=>by have e:C=j:=Oj e;omega))
       have j1:=Kh (HM.out.kept H5 (fun e=>H7 (Oj e)))
       obtain⟨cc,H6⟩:∃ c,c=cls (oJ d p (a+1)):=⟨_,rfl⟩
       rw[<- H6]
       have a0:=Kh H6
       clear a9 H5 H6 b0
       go_wp2
       go_roundg (k - (a+1))
       case measure=>have:=f3.out;omega
       case rel=>exact⟨a+1,pV d pa a,by have:=f3.out;omega,by go_num,by rw[a0.out],by rw[yT,h0.out],b6.out,j1.out,c5.out⟩
end Go.Proofs.Ytjfdomfendbhfaa
