/- Part 27 of the proof: CMin. -/
import Derived.Test.YtjfdomfendbhfaaQe22
import Derived.Test.YtjfdomfendbhfaaQe26
import Derived.Deep.OwnRows
set_option linter.unusedVariables false
set_option linter.unusedSimpArgs false
namespace Go.Proofs.Ytjfdomfendbhfaa
open Go.RowKit
theorem DfaT.shapes {w:World} {f nx:Value} {d:DfaV} (h:DfaT w f nx d):∃ sa n1 c1 sb n2 c2,f=.slice sa n1 c1/\nx=.slice sb n2 c2:=by
 obtain⟨hs,a,b,_⟩:=h
 obtain⟨sa,c1,rfl⟩:=a.shape
 obtain⟨sb,c2,rfl⟩:=b.shape
 exact⟨sa,_,c1,sb,_,c2,rfl,rfl⟩
def MmOk (w:World) (d:DfaV) (k:Nat) (e:Ending) (w':World):Prop:=∃ v b,e=.returned (.tuple #[v,.bool b])/\w.grownBy w' none/\((b=true/\minN d k<=512/\∃ f nx,v=.agg #[.int .i64 (k:Int),.int .i64 0,f,nx]/\DfaT w' f nx (minD d k))\/(b=false/\512 < minN d k/\v=.agg #[.int .i64 0,.int .i64 0,.slice none 0 0,.slice none 0 0]))
theorem mk_heads (n:Nat) (h:n<=4096):∀ w:World,(Instr.makeSlice 40 (.int .i64 (n:Int)) (.int .i64 (n:Int))).run Try.prog w=.ok (.slice (some ⟨w.heap.size,0,none⟩) n n) (w.alloc (.cells (madeCells #[.slice none 0 0] n) 34)) :=
 fun w=>run_make_row' 40 34 (.slice none 0 0) 24 Try.underlying40 (by kernel_rfl) rfl .i64 .i64 n (by omega) (by omega) w
theorem made_heads (n:Nat):(madeCells #[.slice none 0 0] n).toList=List.replicate n (.slice none 0 0):=by
 have:=rE (z:=.slice none 0 0) rfl n
 rw[Nat.mul_one]at this
 exact this
theorem mk_cells (n:Nat) (h:n<=4096):∀ w:World,(Instr.makeSlice 34 (.int .i64 (n:Int)) (.int .i64 (n:Int))).run Try.prog w=.ok (.slice (some ⟨w.heap.size,0,none⟩) n n) (w.alloc (.cells (madeCells #[.int .i64 0] n) 3)) :=
 fun w=>run_make_row' 34 3 (.int .i64 0) 8 Try.underlying34 (by kernel_rfl) rfl .i64 .i64 n (by omega) (by omega) w
theorem made_cells (n:Nat):(madeCells #[.int .i64 0] n).toList=ints (List.replicate n 0):=by
 have:=rE (z:=.int .i64 0) rfl n
 rw[Nat.mul_one]at this
 rw[sX];exact this
def mrow (d:DfaV) (p:List Nat) (s k a:Nat):List Int:=(vG p (d.next.getD s [])).take a ++ List.replicate (k - a) 0
theorem mrow_zero (d:DfaV) (p:List Nat) (s k:Nat):mrow d p s k 0=List.replicate k 0:=by simp[mrow]
theorem mrow_full {d:DfaV} {n k:Nat} (hd:VD d n k) {p:List Nat} {s:Nat} (hs:s < n):mrow d p s k k=vG p (d.next.getD s []):=by
 rw[mrow,Nat.sub_self,List.replicate_zero,List.append_nil,List.take_of_length_le (by rw[rX hd hs];exact Nat.le_refl _)]
theorem mrow_set {d:DfaV} {n k:Nat} (hd:VD d n k) {p:List Nat} {s a:Nat} (hs:s < n) (ha:a < k):(mrow d p s k a).set a ((p.getD (nx d s a) 0:Nat):Int)=mrow d p s k (a+1):=by
 have hl:((vG p (d.next.getD s [])).take a).length=a:=by rw[List.length_take,rX hd hs];omega
 obtain⟨m,hm⟩:∃ m,k - a=m+1:=⟨k - a - 1,by omega⟩
 rw[mrow,List.set_append_right _ _ (by omega),hl,Nat.sub_self,hm,List.replicate_succ,List.set_cons_zero,mrow,zW (d:=0) (by rw[rX hd hs];exact ha),mapRow_at hd hs ha,List.append_assoc,show k - (a+1)=m by omega];rfl
theorem gD {w X:World} (h:w.grownBy X none):w.grownBy X.drew none:=zB h (zL X none) (by simp)
theorem gA {w X:World} (h:w.grownBy X none) (o:Obj):w.grownBy (X.alloc o) none:=xO h o
theorem gS {w X:World} (h:w.grownBy X none) {b i:Nat} (u:Value) (hb:w.heap.size<=b):w.grownBy (X.setCell ⟨b,i,none⟩ u) none:=zB h (zC X ⟨b,i,none⟩ u) (fun j e=>by have e:b=j:=Oj e;omega)
theorem alloc3 (w:World) (o1 o2 o3:Obj):(((w.alloc o1).alloc o2).alloc o3).drew.heap[w.heap.size]?=some o1/\(((w.alloc o1).alloc o2).alloc o3).drew.heap[w.heap.size+1]?=some o2/\(((w.alloc o1).alloc o2).alloc o3).drew.heap[w.heap.size+1+1]?=some o3:=by
 have g3:=Ga ((w.alloc o1).alloc o2) o3 none
 show (((w.alloc o1).alloc o2).alloc o3).heap[w.heap.size]?=some o1/\(((w.alloc o1).alloc o2).alloc o3).heap[w.heap.size+1]?=some o2/\(((w.alloc o1).alloc o2).alloc o3).heap[w.heap.size+1+1]?=some o3
 refine⟨zA (tR w o1 o2) g3 (by simp),zA (tO w o1 o2) g3 (by simp),?_⟩
 have:=heap_alloc_new ((w.alloc o1).alloc o2) o3
 rwa [zM,zM]at this
set_option maxRecDepth 100000 in
set_option maxHeartbeats 2000000 in
theorem mminimal_any (w:World) (o k n:Nat) (d:DfaV) (nb no nc fb fo fc:Nat) (nxs:List Nat) (hd:VD d n k) (hn:n<=4000) (hs0:st0 d=0) (hr:∀ q,q < n->∃ w,zX k w/\run d (st0 d) w=q) (h:MachAt w o k n d nb no nc fb fo fc nxs) :
  Calls Try.prog 70 #[.pointer (some ⟨o,0,none⟩)] w (MmOk w d k):=by
 have j5:=minN_all hd hr
 have m2:=hd.k6;have o9:=hd.k1;have o4:=hd.n1
 have o2:=zH h.box
 have m5:=h.fcap.1
 have m4:fc<=9223372036854775807:=by have:=h.fcap.2;unfold maxLen at this;omega
 have m0:nc<=9223372036854775807:=by have:=h.ncap.2;unfold maxLen at this;omega
 have d1:=Ga w (.cells #[.int .i64 0,.int .i64 0,.slice none 0 0,.slice none 0 0] 42) none
 have c4:=heap_alloc_new w (.cells #[.int .i64 0,.int .i64 0,.slice none 0 0,.slice none 0 0] 42)
 obtain⟨wA,f8⟩:∃ w1,w1=w.alloc (.cells #[.int .i64 0,.int .i64 0,.slice none 0 0,.slice none 0 0] 42):=⟨_,rfl⟩
 obtain⟨Q,hQ⟩:∃ P,P=w.heap.size:=⟨_,rfl⟩
 rw[<- f8]at d1 c4
 rw[<- hQ]at c4
 have H:=Kh (h.kept d1 (by simp) (by simp) (by simp));have HD:=Kh hd;have k5:=Kh j5
 have n2:=Kh f8;have g4:=Kh hQ;have l0:=Kh d1;have o1:=Kh c4;have n4:=Kh hs0
 have l2:=Kh (mclasses_any wA o k n d nb no nc fb fo fc nxs hd hn H.out)
 have p5:Q < wA.heap.size:=zH c4
 clear h hd d1 c4 f8 hQ j5 hr hs0
 go_enter Try.func70,Try.ntmps70
 go_upto_region 1 with fail
 rw[<- n2.out,<- g4.out]
 go_wp2_with fail
 refine l2.out.mono ?_
 rintro e w1 ⟨p,C,rfl,hC,p7,c1,e0,g9⟩
 have a6:=Kh (zB l0.out c1 (by simp))
 have a0:=Kh (zA o1.out c1 (by simp))
 have H1:=Kh (H.out.kept c1 (by simp) (by simp) (by simp))
 have m9:w.heap.size<=C:=by have:=l0.out.size;omega
 have HC:=Kh hC;have k2:=Kh e0;have k0:=Kh g9
 have c7:=Kh (e0.cls_le HD.out)
 have p6:Q < w1.heap.size:=by have:=c1.size;omega
 obtain⟨cnt,H7⟩:∃ c,c=cls p:=⟨_,rfl⟩
 rw[<- H7]at c7 k0 ⊢
 have h0:=Kh H7
 clear hC c1 e0 g9 H7 l2
 by_cases h5:cnt<=512
 case neg =>
  have n0:(512:Int) < cnt:=by omega
  have g6:Hid (512 < minN d k):=Kh (by rw[k5.out];have:=c7.out;omega)
  obtain⟨q0,q1,q2,q3⟩:=zG a0.out
  have f0:=zE a0.out 0
  have f1:=zE a0.out 1
  have f2:=zE a0.out 2
  have f3:=zE a0.out 3
  go_wp2
  obtain⟨c3,a2⟩:=wG a0.out (.int .i64 0) (.int .i64 0) (.slice none 0 0) (.slice none 0 0)
  obtain⟨wz,b1⟩:∃ wz,wz=(((w1.setCell ⟨Q,0,none⟩ (.int .i64 0)).setCell ⟨Q,1,none⟩ (.int .i64 0)).setCell ⟨Q,2,none⟩ (.slice none 0 0)).setCell ⟨Q,3,none⟩ (.slice none 0 0):=⟨_,rfl⟩
  rw[<- b1]at c3 a2 ⊢
  clear b1
  obtain⟨r0,r1,r2,r3⟩:=zG c3
  clear q0 q1 q2 q3 f0 f1 f2 f3
  refine bodyPost_ret (v:=.tuple #[.agg #[.int .i64 0,.int .i64 0,.slice none 0 0,.slice none 0 0],.bool false]) (by simp[results,Try.results70,go_sem,r0,r1,r2,r3]) rfl ?_
  exact⟨_,false,rfl,zB a6.out a2 (fun j e=>by have e:Q=j:=Oj e;have:=g4.out;omega),.inr ⟨rfl,g6.out,rfl⟩⟩
 have n0:¬ (512:Int) < cnt:=by omega
 have k4:Hid (p=zR d k):=Kh (by
  rcases k0.out with h|h
  ·omega
  ·exact h)
 have g6:Hid (minN d k<=512):=Kh (by rw[k5.out,<- k4.out,<- h0.out];exact h5)
 have e7:p.length=n:=k2.out.len
 have p4:1<=cnt:=by rw[h0.out];exact mS (by omega)
 have cC0:=Arr.nat HC.out 0 (by omega)
 obtain⟨c0,f7⟩:∃ c,c=p.getD 0 0:=⟨_,rfl⟩
 rw[<- f7]at cC0
 have o0:=Kh f7
 have o8:=fJ cnt (by omega)
 have o7:=mk_heads cnt (by omega)
 have o6:=mk_cells k (by omega)
 have m1:(0:Int) < n:=by omega
 have o5:0 < n:=by omega
 obtain⟨wo,rfl⟩:∃ wo:World,wo=w1:=⟨_,rfl⟩
 obtain⟨p0,p1,p2⟩:=zJ H1.out.box
 have g2:=HC.out.lt
 have l7:=zH H1.out.box
 clear f7
 have l3:Hid (∀ W:World,wo.grownBy W none->W.cell? ⟨o,0,none⟩=some (.int .i64 (k:Int))/\W.cell? ⟨C,0,none⟩=some (.int .i64 (c0:Int))):=Kh (fun W hW=>⟨xI p0 hW,xI cC0 hW⟩)
 go_upto_region 4 with fail
 go_cut [6] (fun s6 wx=>∃ T F N:Nat,s6=.pointer (some ⟨T,0,none⟩)/\wx.heap[T]?=some (.cells #[.int .i64 (k:Int),.int .i64 (c0:Int),.slice (some ⟨F,0,none⟩) cnt cnt,.slice (some ⟨N,0,none⟩) cnt cnt] 42 (0,0))/\Arr wx F 4 (bls (List.replicate cnt false))/\Arr wx N 34 (List.replicate cnt (.slice none 0 0))/\wo.heap.size<=T/\wo.heap.size<=F/\wo.heap.size<=N/\wo.grownBy wx none)
 case first =>
  go_region_held3 (fun w'=>w'.cell? ⟨o,0,none⟩=some (.int .i64 (k:Int))/\w'.cell? ⟨C,0,none⟩=some (.int .i64 (c0:Int)))
   (first|(refine l3.out _ ?_;repeat(first|exact zN _ _|refine gD ?_|refine gA ?_ _|refine gS ?_ _ (by simp;omega)))|fail) (fail)
  all_goals
   go_wp2_with fail
   go_meet
   obtain⟨h1,h2,h3⟩:=alloc3 wo _ _ _
   refine⟨_,_,_,rfl,by first|exact h1|exact h2|exact h3,⟨_,[],by first|exact h1|exact h2|exact h3,by rw[List.append_nil];exact nQ cnt⟩,⟨_,[],by first|exact h1|exact h2|exact h3,by rw[List.append_nil];exact made_heads cnt⟩,by omega,by omega,by omega,gD (gA (gA (gA (zN _ _) _) _) _)⟩
 case rest =>
  obtain⟨T,F,N,rfl,j0,hF,hN,j2,j6,j4,a3⟩:=hcut
  obtain⟨B,hB⟩:∃ B,B=wc.heap.size:=⟨_,rfl⟩
  have d4:=a3.size
  have c5:Hid (QB w wc T F N C B k cnt c0 p [] [] []):=Kh ⟨j0,by simpa using hF,by simpa using hN,rfl,fun i hi=>absurd hi (by simp),fun i hi=>absurd hi (by simp),fun g hg=>absurd hg (by simp),by simp,HC.out.kept a3 (by simp),⟨Nat.le_trans a6.out.size j2,Nat.le_trans a6.out.size j6,Nat.le_trans a6.out.size j4,m9⟩,⟨by rw[hB];exact Nat.lt_of_lt_of_le g2 d4,by rw[hB];exact Nat.le_trans a6.out.size d4,by rw[hB];exact Nat.le_refl _⟩,zB a6.out a3 (by simp)⟩
  have h8:=Kh (H1.out.kept a3 (by simp) (by simp) (by simp))
  have j9:=Kh (zA a0.out a3 (by simp))
  have j3:Q≠F/\Q≠N/\Q < B:=by omega
  have g3:=Kh j3
  clear j3
  have i3:o < B/\nb < B/\fb < B:=⟨by rw[hB];exact zH h8.out.box,by rw[hB];exact h8.out.nlt,by rw[hB];exact h8.out.flt⟩
  have a1:o≠T/\o≠F/\o≠N/\nb≠F/\nb≠N/\fb≠F/\fb≠N:=by have:=H1.out.nlt;have:=H1.out.flt;omega
  have a4:=Kh a1;have n5:=Kh i3
  clear a1 i3
  clear j0 hF hN j2 j6 j4 a3 d4 cC0 l3 p0 p1 p2
  go_wp2
  go_loopg [7,8,9,32,67] n (fun gh a7 a8 a9 i a67 wr=>∃ (s:Nat) (gs:List Nat),gh+s=n/\i=.int .i64 s/\QB w wr T F N C B k cnt c0 p (lU d p s) (nP d p s) gs/\MachAt wr o k n d nb no nc fb fo fc nxs/\wr.heap[Q]?=some (.cells #[.int .i64 0,.int .i64 0,.slice none 0 0,.slice none 0 0] 42 (0,0)))
  case atStart=>exact⟨0,[],rfl,rfl,c5.out,h8.out,j9.out⟩
  case round =>
   clear c5 h8 j9
   obtain⟨s,gs,b7,rfl,hq,b5,b0⟩:=hrel
   have HZ:=Kh b0
   clear b0
   have c6:=Kh b7;have HQ:=Kh hq
   clear b7
   have hg:=hq.grown
   have HM:=Kh b5
   have H5:=k2.out.norm
   by_cases hs:s < n
   ·have l5:(s:Int) < n:=by omega
    have b3:s < p.length:=by omega
    obtain⟨d0,H0,hold⟩:=nM H5 b3
    have H4:=wF H5 s (by omega)
    have d2:(lU d p s).length=cls (p.take s):=by rw[lU,List.length_map,H4]
    have b2:(nP d p s).length=cls (p.take s):=by rw[nP,List.length_map,H4]
    have c2:p.getD s 0 < cnt:=by rw[h0.out];exact vL H5 b3
    have i9:=Arr.nat hq.cl s b3
    have b6:gs.length=cls (p.take s):=by rw[hq.len,b2]
    obtain⟨c,hc⟩:∃ c,c=p.getD s 0:=⟨_,rfl⟩
    rw[<- hc]at d0 c2 i9 H0 hold
    obtain⟨m,hm⟩:∃ m,m=cls (p.take s):=⟨_,rfl⟩
    rw[<- hm]at d0 d2 b2 b6 H0 hold
    have m6:(c:Int) < cnt:=by exact_mod_cast c2
    have i5:m<=cnt:=by rw[hm,h0.out];exact(vX p s).length_le
    have h4:(gs.map (rowV k) ++ List.replicate (cnt - gs.length) (Value.slice none 0 0)).length=cnt:=by rw[List.length_append,List.length_map,List.length_replicate,b6];omega
    have cN:=hq.na.cell c (by omega)
    obtain⟨t0,t1,t2,t3⟩:=zG hq.box
    have q4:=Kh hc;have p9:=Kh hm
    by_cases hcm:c=m
    case neg =>
     have i7:c < gs.length:=by omega
     have cN2:wr.cell? ⟨N,c,none⟩=some (.slice (some ⟨gs.getD c 0,0,none⟩) k k):=by
      rw[cN,List.getElem_append_left (by simpa using i7)]
      simp[rowV,List.getD,List.getElem?_eq_getElem i7]
     obtain⟨gg,b8⟩:∃ g,g=gs.getD c 0:=⟨_,rfl⟩
     rw[<- b8]at cN2
     have a1:p.getD s 0≠cls (p.take s):=by rw[<- hc,<- hm];exact hcm
     have e1:=minFs_old (d:=d) a1
     have e2:=minTs_old (d:=d) a1
     have E1:=Kh e1;have E2:=Kh e2
     clear hcm a1 e1 e2 b8 cN d2 b2 b6 H0 hold hc hm d0 h4 i5 hq hg H5 H4 b3
     go_wp2
     go_roundg (n - (s+1))
     case measure=>have:=c6.out;omega
     case rel=>exact⟨s+1,gs,by have:=c6.out;omega,by go_num,by rw[E1.out,E2.out];exact HQ.out,HM.out,HZ.out⟩
    obtain rfl:c=m:=hcm
    have e1:=minFs_new (d:=d) (p:=p) (i:=s) (by rw[<- hc,<- hm])
    have e2:=minTs_new (d:=d) (p:=p) (i:=s) (by rw[<- hc,<- hm])
    have cN2:wr.cell? ⟨N,c,none⟩=some (.slice none 0 0):=by
     rw[cN,List.getElem_append_right (by simp;omega)]
     simp
    have cFb:=hq.fa.bool c (by simp;omega)
    have fF:=hq.fa.frozen c
    have g1:=hq.fa.lt
    have cf:=b5.fin s hs
    obtain⟨p0,p1,p2⟩:=zJ b5.box
    obtain⟨b,hb⟩:∃ b,b=d.final.getD s false:=⟨_,rfl⟩
    rw[<- hb]at cf e1
    have E1:=Kh e1;have E2:=Kh e2
    obtain⟨nk,e9⟩:∃ x,x=n * k:=⟨_,rfl⟩
    rw[<- e9]at p1
    have d3:=Kh e9
    have l1:=Kh d2;have p8:=Kh b2;have a5:=Kh b6
    obtain⟨wo2,rfl⟩:∃ wo2:World,wo2=wr:=⟨_,rfl⟩
    clear e1 e2 cN d2 b2 b6 H0 hold hc hm d0 h4 i5 hq hg H5 H4 b3 hb b5 e9
    go_upto_region 9 with fail
    go_region
    all_goals (try go_frame)
    have h9:=(HQ.out.setF (by rw[l1.out];exact c2) b).grow (zL _ none)
    rw[l1.out,<- E1.out]at h9
    have H6:wo2.grownBy (wo2.setCell ⟨F,c,none⟩ (.bool b)).drew (some F):=zD (zC wo2 ⟨F,c,none⟩ (.bool b)) (zL _ _)
    have b4:=HM.out.kept H6 (fun e=>a4.out.2.1 (Oj e).symm) (fun e=>a4.out.2.2.2.1 (Oj e).symm) (fun e=>a4.out.2.2.2.2.2.1 (Oj e).symm)
    have d5:=zA HZ.out H6 (fun e=>g3.out.1 (Oj e).symm)
    obtain⟨w3,g8⟩:∃ w3,w3=(wo2.setCell ⟨F,c,none⟩ (.bool b)).drew:=⟨_,rfl⟩
    rw[<- g8]at h9 b4 d5 ⊢
    have j8:=Kh d5
    have g5:=Kh h9;have k9:=Kh b4
    have cN3:w3.cell? ⟨N,c,none⟩=some (.slice none 0 0):=by
     rw[h9.na.cell c (by simp;have:=a5.out;omega),List.getElem_append_right (by simp;have:=a5.out;omega)]
     simp
    have fN3:=h9.na.frozen c
    have g0:=h9.na.lt
    obtain⟨p0,p1,p2⟩:=zJ b4.box
    rw[<- d3.out]at p1
    obtain⟨t0,t1,t2,t3⟩:=zG h9.box
    have m8:=zH h9.box
    have l8:=zH b4.box
    clear g8 h9 b4 d5 HZ H6 cN2 cFb fF g1 cf HQ HM i9
    go_upto_region 10 with fail
    go_region
    all_goals (try go_frame)
    have b9:=Ga (w3.setCell ⟨N,c,none⟩ (.slice (some ⟨w3.heap.size,0,none⟩) k k)) (.cells (madeCells #[.int .i64 0] k) 3) none
    have h6:=zB b9 (zL _ none) (by simp)
    have H8:=Arr.new (w3.setCell ⟨N,c,none⟩ (.slice (some ⟨w3.heap.size,0,none⟩) k k)) 3 (madeCells #[.int .i64 0] k)
    rw[made_cells,show (w3.setCell ⟨N,c,none⟩ (.slice (some ⟨w3.heap.size,0,none⟩) k k)).heap.size=w3.heap.size by simp[World.setCell]]at H8
    have H2:w3.grownBy ((w3.setCell ⟨N,c,none⟩ (.slice (some ⟨w3.heap.size,0,none⟩) k k)).alloc (.cells (madeCells #[.int .i64 0] k) 3)).drew (some N):=zD (zC w3 ⟨N,c,none⟩ _) (yY h6)
    obtain⟨w4,d6⟩:∃ w4,w4=((w3.setCell ⟨N,c,none⟩ (.slice (some ⟨w3.heap.size,0,none⟩) k k)).alloc (.cells (madeCells #[.int .i64 0] k) 3)).drew:=⟨_,rfl⟩
    have h7:Arr w4 w3.heap.size 3 (ints (List.replicate k 0)):=by rw[d6];exact H8.of_heap rfl
    rw[<- d6]at H2 h6 ⊢
    obtain⟨g,hg⟩:∃ g,g=w3.heap.size:=⟨_,rfl⟩
    rw[<- hg]at h7 h6
    have e6:=g5.out.setN2 (w':=w4) (g:=g) (by rw[a5.out];exact c2) (by rw[a5.out];exact h6) h7 (by omega) g5.out.cB.2.2
    have f4:=k9.out.kept H2 (fun e=>a4.out.2.2.1 (Oj e).symm) (fun e=>a4.out.2.2.2.2.1 (Oj e).symm) (fun e=>a4.out.2.2.2.2.2.2 (Oj e).symm)
    rw[<- mrow_zero d p s k]at e6
    have k3:=Kh e6;have k8:=Kh f4
    have j7:=Kh (zA j8.out H2 (fun e=>g3.out.2.1 (Oj e).symm))
    obtain⟨p0,p1,p2⟩:=zJ f4.box
    clear j8 d6 b9 h6 H8 h7 H2 e6 f4 g5 k9 cN3 fN3 g0 t0 t1 t2 t3 m8 l8 hg
    go_wp2
    clear p0 p1 p2
    obtain⟨wo3,rfl⟩:∃ wo3:World,wo3=w4:=⟨_,rfl⟩
    go_loopg [9,67] k (fun gh a9 i wr=>∃ a:Nat,gh+a=k/\i=.int .i64 a/\QB w wr T F N C B k cnt c0 p (lU d p (s+1)) (nP d p s ++ [mrow d p s k a]) (gs ++ [g])/\MachAt wr o k n d nb no nc fb fo fc nxs/\wr.heap[Q]?=some (.cells #[.int .i64 0,.int .i64 0,.slice none 0 0,.slice none 0 0] 42 (0,0)))
    case atStart=>exact⟨0,rfl,rfl,k3.out,k8.out,j7.out⟩
    case round =>
     clear k3 k8 j7
     obtain⟨a,b7,rfl,hq,hm,b0⟩:=hrel
     have HZ:=Kh b0
     clear b0
     have H9:=Kh b7;have HQ:=Kh hq;have HM:=Kh hm
     clear b7
     by_cases ha:a < k
     ·have m7:(a:Int) < k:=by exact_mod_cast ha
      obtain⟨c8,i8,i1⟩:=hq.last (by rw[a5.out];exact c2)
      rw[a5.out]at i8
      unfold rowV at i8
      obtain⟨p0,p1,p2⟩:=zJ hm.box
      rw[<- d3.out]at p1
      obtain⟨t0,t1,t2,t3⟩:=zG hq.box
      have cX:=hm.nx s a hs ha
      have d8:=qF HD.out hs ha
      have cC:=Arr.nat hq.cl (nx d s a) (by rw[e7];exact d8)
      have fg:=c8.frozen a
      have cg:=c8.int a (by rw[i1];exact ha)
      have m3:=c8.lt
      have c9:=mrow_set HD.out (p:=p) hs ha
      obtain⟨e1,e2,e3,e4,e5⟩:=qBF hs ha m2 hn
      rw[<- d3.out]at e5
      obtain⟨X,hX⟩:∃ X,X=s * k+a:=⟨_,rfl⟩
      rw[<- hX]at cX e3 e4 e5
      obtain⟨Y,hY⟩:∃ Y,Y=s * k:=⟨_,rfl⟩
      rw[<- hY]at e1 e2 e3 e4
      obtain⟨t,ht⟩:∃ t,t=nx d s a:=⟨_,rfl⟩
      rw[<- ht]at cX cC d8 c9
      obtain⟨v,hv⟩:∃ c,c=p.getD t 0:=⟨_,rfl⟩
      rw[<- hv]at cC c9
      have n6:=Kh c9
      have e5':(X:Int) < nk:=by exact_mod_cast e5
      have l4:(t:Int) < n:=by exact_mod_cast d8
      have l9:nk<=nc:=by rw[d3.out];exact HM.out.ncap.1
      obtain⟨wo4,rfl⟩:∃ wo4:World,wo4=wr:=⟨_,rfl⟩
      clear c8 i1 hq hm hX hY ht hv c9
      go_wp2
      go_region
      all_goals (try go_frame)
      all_goals go_wp2
      all_goals
       go_roundg (k - (a+1))
       case measure=>have:=H9.out;clear e1 e2 e3 e4;omega
       case rel =>
        have b8:wo4.grownBy (wo4.setCell ⟨g,a,none⟩ (.int .i64 (v:Int))).drew (some g):=zD (zC wo4 ⟨g,a,none⟩ _) (zL _ _)
        have p3:=HQ.out.glo g (by simp)
        have o3:=n5.out
        clear e1 e2 e3 e4
        exact⟨a+1,by have:=H9.out;omega,by go_num,by rw[<- n6.out];exact(HQ.out.setL ha v).grow (zL _ none),HM.out.kept b8 (fun e=>by have:=Oj e;omega) (fun e=>by have:=Oj e;omega) (fun e=>by have:=Oj e;omega),zA HZ.out b8 (fun e=>by have:=Oj e;have:=g3.out;omega)⟩
     ·have j1:a=k:=by have:=H9.out;omega
      have m7:¬ (a:Int) < k:=by omega
      have HE:Hid (nP d p s ++ [mrow d p s k a]=nP d p (s+1)):=Kh (by rw[j1,mrow_full HD.out hs,E2.out])
      rw[HE.out]at HQ
      clear j1 hq hm
      go_wp2
      go_roundg (n - (s+1))
      case measure=>have:=c6.out;omega
      case rel=>exact⟨s+1,gs ++ [g],by have:=c6.out;omega,by go_num,HQ.out,HM.out,HZ.out⟩
   ·have i0:s=n:=by have:=c6.out;omega
    have l5:¬ (s:Int) < n:=by omega
    have H4:=wF H5 s (by omega)
    have f6:cls (p.take s)=cnt:=by rw[h0.out,List.take_of_length_le (by omega)]
    have e8:=hq.ok (by rw[lU,List.length_map,H4,f6]) (by rw[nP,List.length_map,H4,f6]) (by unfold maxLen;omega) (by unfold maxLen;omega)
    have i2:(⟨(k:Int),(c0:Int),lU d p s,nP d p s⟩:DfaV)=wC d p:=by
     rw[wC,n4.out,<- o0.out,HD.out.hk,reps,e7,<- i0];rfl
    rw[i2]at e8
    have d7:=bC HD.out e7 H5
    rw[<- h0.out]at d7
    have g7:=Kh (pI wr.heap.size wr _ (wC d p) cnt k (Nat.le_refl _) e8 d7 h5)
    have i4:minD (wC d p) k=minD d k:=by rw[k4.out];exact minQ HD.out
    rw[i4]at g7
    obtain⟨t0,t1,t2,t3⟩:=zG hq.box
    have k7:Hid ((minD d k).letters=k/\(minD d k).start=0):=Kh ⟨(pY HD.out).hk,rfl⟩
    have n7:=Kh (hg)
    clear i0 H4 f6 e8 i2 d7 i4 hg hq b5 H5
    go_wp2_with fail
    refine g7.out.mono ?_
    rintro e w9 ⟨v9,rfl,i6,f5⟩
    obtain⟨f9,n9,rfl,d9⟩:=i6.t
    obtain⟨fa9,fl9,fc9,na9,nl9,nc9,rfl,rfl⟩:=d9.shapes
    rw[k7.out.1,k7.out.2]
    have H3:=Kh (zA HZ.out f5 (by simp))
    have n3:=Kh d9;have n8:=Kh (zB n7.out f5 (by simp))
    obtain⟨q0,q1,q2,q3⟩:=zG H3.out
    have f0:=zE H3.out 0
    have f1:=zE H3.out 1
    have f2:=zE H3.out 2
    have f3:=zE H3.out 3
    clear i6 f5 d9 g7 t0 t1 t2 t3
    go_wp2
    obtain⟨c3,a2⟩:=wG H3.out (.int .i64 (k:Int)) (.int .i64 0) (.slice fa9 fl9 fc9) (.slice na9 nl9 nc9)
    obtain⟨wz,b1⟩:∃ wz,wz=(((w9.setCell ⟨Q,0,none⟩ (.int .i64 (k:Int))).setCell ⟨Q,1,none⟩ (.int .i64 0)).setCell ⟨Q,2,none⟩ (.slice fa9 fl9 fc9)).setCell ⟨Q,3,none⟩ (.slice na9 nl9 nc9):=⟨_,rfl⟩
    rw[<- b1]at c3 a2 ⊢
    clear b1
    obtain⟨r0,r1,r2,r3⟩:=zG c3
    clear q0 q1 q2 q3 f0 f1 f2 f3
    refine bodyPost_ret (v:=.tuple #[.agg #[.int .i64 (k:Int),.int .i64 0,.slice fa9 fl9 fc9,.slice na9 nl9 nc9],.bool true]) (by simp[results,Try.results70,go_sem,r0,r1,r2,r3]) rfl ?_
    have l6:∀ j,some Q=some j->zY w9 4 j/\zY w9 34 j/\zY w9 3 j:=fun j e=>by
     obtain rfl:Q=j:=Oj e
     exact⟨⟨_,_,_,H3.out,by decide⟩,⟨_,_,_,H3.out,by decide⟩,⟨_,_,_,H3.out,by decide⟩⟩
    exact⟨_,true,rfl,zB n8.out a2 (fun j e=>by have e:Q=j:=Oj e;have:=g4.out;omega),.inl ⟨rfl,g6.out,_,_,rfl,n3.out.kept a2 l6⟩⟩
end Go.Proofs.Ytjfdomfendbhfaa
