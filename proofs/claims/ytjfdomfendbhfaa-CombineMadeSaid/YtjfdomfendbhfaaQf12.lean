/- Part 12 of the proof. -/
import Derived.Test.YtjfdomfendbhfaaQf10
import Derived.Test.YtjfdomfendbhfaaQf11
import Derived.Deep.OwnRows
import Derived.Deep.DeepCutAuto
import Derived.BigQuiet
set_option linter.unusedVariables false
set_option linter.unusedSimpArgs false
set_option maxRecDepth 100000
set_option maxHeartbeats 16000000
namespace Go.Proofs.Ytjfdomfendbhfaa
open Go.RowKit
def xM (bs:List ByteArray)(letters:Int):DfaV:=if patW bs letters=0 then minD (patD letters.toNat (bs.map zL)) letters.toNat else lD
def nthL (bs:List ByteArray)(i:Nat):List Nat:=zL (bs.getD i ⟨#[]⟩)
def pJ (bs:List ByteArray):List (List Nat):=((bs.map zL).drop 1).dropLast
theorem nthL_get {bs:List ByteArray}{i:Nat}(h:i<bs.length):(bs.map zL).getD i []=nthL bs i:=by
 rw[zG (by simpa using h),nthL,zG h];simp
theorem nQ (bs:List ByteArray):(pJ bs).length=bs.length - 1 - 1:=by simp[pJ]
theorem midsL_get {bs:List ByteArray}{i:Nat}(h:i<bs.length - 1 - 1):(pJ bs).getD i []=nthL bs (1+i):=by
 rw[zG (by rw[nQ];exact h),nthL,zG (show 1+i<bs.length by omega)];simp[pJ,Nat.add_comm]
theorem rows_one {k:Nat}{bs:List ByteArray}(h:bs.length=1):wJ k (bs.map zL)=[List.replicate k 0]++qO k (nthL bs 0) (nthL bs 0).length++[List.replicate k 0]:=by
 match bs,h with
 | [b],_=>rfl
theorem rows_more {k:Nat}{bs:List ByteArray}(h:2<=bs.length):wJ k (bs.map zL)=[List.replicate k 0]++qO k (nthL bs 0) (nthL bs 0).length++midN k (1+(nthL bs 0).length) (pJ bs)++sufN k (1+(nthL bs 0).length+yJ (pJ bs)) (nthL bs (bs.length - 1)):=by
 match bs,h with
 | b::c::rest,_ =>
  have e:((c::rest).map zL).getLastD []=nthL (b::c::rest) ((b::c::rest).length - 1):=by
   rw[List.getLastD_eq_getLast?,List.getLast?_eq_getElem?,nthL];simp only[List.length_map,List.length_cons,List.getElem?_map];rw[show rest.length+1+1 - 1=rest.length+1 by omega,show rest.length+1 - 1=rest.length by omega];have h2:rest.length<(c::rest).length:=(by simp);rw[List.getElem?_eq_getElem h2,zG (show rest.length+1<(b::c::rest).length by simp)];rfl
  show [List.replicate k 0]++qO k (zL b) (zL b).length++midN k (1+(zL b).length) ((c::rest).map zL).dropLast++sufN k (1+(zL b).length+yJ ((c::rest).map zL).dropLast) (((c::rest).map zL).getLastD [])=_;rw[e];rfl
theorem mids_sum {bs:List ByteArray}(i:Nat):yJ ((pJ bs).take i)+(nthL bs 0).length<=sY bs:=by
 rw[tH];have h1:=pK (pJ bs) i
 match bs with
 | []=>simp[pJ,yJ,nthL,zL]at h1 ⊢
 | b::rest =>
  have h2:yJ (pJ (b::rest))<=yJ (rest.map zL):=by
   show yJ (rest.map zL).dropLast<=_;rw[List.dropLast_eq_take];exact pK _ _
  rw[List.map_cons,vU];show _+(zL b).length<=_;omega
theorem BB.mat {W0 W:World}{bb k:Nat}{t:List (List Nat)}{gs:List Nat}{sn:Option Addr}{cn:Nat}(h:BB W0 W bb k t gs sn cn)(hk:k<=maxLen):Mat W.heap.size W (.slice sn t.length cn) (t.map zl):=by
 refine Mat.of_rows (B:=W.heap.size) h.own ⟨by rw[List.length_map,List.length_map,h.len],fun i h1 h2=>?_⟩ (Nat.le_refl _);have hi:i<t.length:=by simpa using h2
 have hg:i<gs.length:=by rw[h.len];exact hi
 obtain⟨ha,hl⟩:=h.row i hi;have:=(RowX.of_arr (X:=fun _=>True) ha (by rw[zT];exact hl) hk trivial).1;rw[zG hg,zG hi]at this;simp only[List.getElem_map];have e:ints (zl t[i])=nats t[i]:=by simp[ints,zl,nats]
 rw[e];exact this
structure NewD (wo W:World)(T F k RL:Nat)(sn:Option Addr)(cn:Nat):Prop where
 box:W.heap[T]?=some (.cells #[.int .i64 (k:Int),.int .i64 1,.slice (some ⟨F,0,none⟩) RL RL,.slice sn RL cn] 42 (0,0))
 arr:Arr W F 4 (bls (List.replicate RL false))
 grown:wo.grownBy W none
 lo:wo.heap.size<=T/\wo.heap.size<=F
theorem qJD (wo:World)(k RL:Nat)(sn:Option Addr)(cn:Nat):NewD wo (((wo.alloc (.cells (madeCells #[.bool false] RL) 4)).alloc (.cells #[.int .i64 (k:Int),.int .i64 1,.slice (some ⟨wo.heap.size,0,none⟩) RL RL,.slice sn RL cn] 42)).drew) (wo.heap.size+1) wo.heap.size k RL sn cn:=by
 have a1:=Arr.new wo 4 (madeCells #[.bool false] RL);rw[jG]at a1;exact⟨sL wo _ _,(a1.kept (Ga _ (.cells #[.int .i64 (k:Int),.int .i64 1,.slice (some ⟨wo.heap.size,0,none⟩) RL RL,.slice sn RL cn] 42) none) (by simp)).of_heap rfl,zB (xR (Ga wo _ none) _) (zP _ none) (by simp),by omega⟩
theorem qJC (wo:World)(k RL:Nat)(sn:Option Addr)(cn:Nat):NewD wo (((wo.alloc (.cells #[.int .i64 (k:Int),.int .i64 1,.slice (some ⟨wo.heap.size+1,0,none⟩) RL RL,.slice sn RL cn] 42)).alloc (.cells (madeCells #[.bool false] RL) 4)).drew) wo.heap.size (wo.heap.size+1) k RL sn cn:=by
 have a1:=Arr.new (wo.alloc (.cells #[.int .i64 (k:Int),.int .i64 1,.slice (some ⟨wo.heap.size+1,0,none⟩) RL RL,.slice sn RL cn] 42)) 4 (madeCells #[.bool false] RL);rw[jG,zO]at a1;exact⟨sO wo _ _,a1.of_heap rfl,zB (xR (Ga wo _ none) _) (zP _ none) (by simp),by omega⟩
theorem jB {W0 W:World}{bb k F RL:Nat}{bs:List ByteArray}{gs:List Nat}{sn:Option Addr}{cn:Nat}(h:BB W0 W bb k (wJ k (bs.map zL)) gs sn cn)(hk:k<=6)(hR:RL=(wJ k (bs.map zL)).length)(h0:0<RL)(ha:Arr W F 4 (bls ((List.replicate RL false).set (RL - 1) true)))(hRm:RL<=maxLen):
  uT W.heap.size W (.agg #[.int .i64 (k:Int),.int .i64 1,.slice (some ⟨F,0,none⟩) RL RL,.slice sn RL cn]) (patD k (bs.map zL)):=by
 have hm:=h.mat (by unfold maxLen;omega);rw[qDN,<- hR]at hm;have hl:(tU k (bs.map zL)).length=RL:=by rw[<- qDN,List.length_map,hR]
 have hf:(List.replicate RL false).set (RL - 1) true=(patD k (bs.map zL)).final:=by
  show _=List.replicate ((tU k (bs.map zL)).length - 1) false++[true];rw[hl];obtain⟨r,rfl⟩:∃ r,RL=r+1:=⟨RL - 1,by omega⟩;rw[List.replicate_succ',List.set_append_right _ _ (by simp)];simp
 refine⟨_,_,rfl,?_,hm⟩;rw[<- hf];have:=(RowX.of_arr (X:=fun _=>True) ha (by rw[xE,List.length_set,List.length_replicate]) hRm trivial).1;exact this.row
theorem lZ {k:Nat}{bs:List ByteArray}(hk1:1<=k)(hk6:k<=6)(h0:0<bs.length)(ht:sY bs<=64):VD (patD k (bs.map zL)) (wJ k (bs.map zL)).length k:=by
 match bs,h0 with
 | b::rest,_ =>
  rw[tH,List.map_cons,vU]at ht;rw[List.map_cons,nN];exact pat_vd hk1 hk6 ht
theorem pdfa_anyT (B:Nat)(w:World)(v:Value)(bs:List ByteArray)(letters:Int)(h:Row B w v (txtV bs))(hB:B<=w.heap.size)(hs:∀ i (hi:i<bs.length),bs[i].size<=maxLen):
  Calls Try.prog 83 #[.agg #[v],.int .i64 letters] w (dY w (patW bs letters) (xM bs letters)):=by
 have H:=Kh h;have HS:=Kh hs;obtain⟨a,cap,rfl⟩:=h.shape;rw[yB]at H ⊢
 obtain⟨e6,c6,f9,j2⟩:((w.alloc (.cells #[.slice a bs.length cap] 28)).alloc (.cells #[.int .i64 0,.int .i64 0,.slice none 0 0,.slice none 0 0] 42)).heap[w.heap.size]?=some (.cells #[.slice a bs.length cap] 28 (0,0))/\((w.alloc (.cells #[.slice a bs.length cap] 28)).alloc (.cells #[.int .i64 0,.int .i64 0,.slice none 0 0,.slice none 0 0] 42)).heap[w.heap.size+1]?=some (.cells #[.int .i64 0,.int .i64 0,.slice none 0 0,.slice none 0 0] 42 (0,0))/\w.grownBy ((w.alloc (.cells #[.slice a bs.length cap] 28)).alloc (.cells #[.int .i64 0,.int .i64 0,.slice none 0 0,.slice none 0 0] 42)) none/\((w.alloc (.cells #[.slice a bs.length cap] 28)).alloc (.cells #[.int .i64 0,.int .i64 0,.slice none 0 0,.slice none 0 0] 42)).heap.size=w.heap.size+2 :=
  ⟨sO w _ _,sL w _ _,xR (Ga w _ none) _,by rw[zO,zO]⟩
 obtain⟨wA,i4⟩:∃ wA,wA=(w.alloc (.cells #[.slice a bs.length cap] 28)).alloc (.cells #[.int .i64 0,.int .i64 0,.slice none 0 0,.slice none 0 0] 42):=⟨_,rfl⟩;rw[<- i4]at e6 c6 f9 j2;obtain⟨P,hP⟩:∃ P,P=w.heap.size:=⟨_,rfl⟩;obtain⟨Q,hQ⟩:∃ Q,Q=w.heap.size+1:=⟨_,rfl⟩;have l4:=Kh hP;have l3:Hid (Q=P+1):=Kh (by omega);have n3:P<Q:=by omega
 have n0:Q<wA.heap.size:=by omega
 have n2:w.heap.size<=P:=by omega
 rw[<- hQ]at c6;rw[<- hP]at e6 hB;have c0:wA.cell? ⟨P,0,none⟩=some (.slice a bs.length cap):=by simpa using zJ e6 0 (by simp)
 have m2:=Kh e6;have m1:=Kh c6;have l7:=Kh f9;have l1:=Kh i4;have k1:=Kh (kZ B wA _ bs letters (H.out.kept f9 (by simp)) hs);rw[show Row B w (.slice a bs.length cap) (txtV bs)=Row B w (.slice a bs.length cap) (txtV bs) from rfl]at H;clear e6 c6 f9 i4 h hs hP hQ j2;go_enter Try.func83,Try.ntmps83;go_upto_region 1 with fail;rw[<- l1.out,<- l4.out,<- l3.out];go_wp2_with fail;refine k1.out.mono ?_;rintro e w1 ⟨rfl,e3⟩;have m3:=e3.size;have d8:=Kh (zB l7.out e3 (by simp));have j1:=Kh (zA m2.out e3 (by simp));have H5:=Kh (zA m1.out e3 (by simp));have q1:=zF H5.out;have f0:=zE H5.out 0;have f1:=zE H5.out 1;have f2:=zE H5.out 2;have f3:=zE H5.out 3;clear e3 k1 c0;by_cases hE:patW bs letters=0
 case neg =>
  have HD:Hid (xM bs letters=lD):=Kh (if_neg hE);obtain⟨E,i6⟩:∃ E,E=patW bs letters:=⟨_,rfl⟩;rw[<- i6]at hE ⊢;have e1:(E != 0)=true:=by rw[bne_iff_ne];exact hE
  obtain⟨q0,q1,q2,q3⟩:=q1;have l9:=Kh i6;clear hE i6;go_wp2;obtain⟨a0,H9⟩:=xI H5.out (.int .i64 0) (.int .i64 0) (.slice none 0 0) (.slice none 0 0);obtain⟨wz,a5⟩:∃ wz,wz=(((w1.setCell ⟨Q,0,none⟩ (.int .i64 0)).setCell ⟨Q,1,none⟩ (.int .i64 0)).setCell ⟨Q,2,none⟩ (.slice none 0 0)).setCell ⟨Q,3,none⟩ (.slice none 0 0):=⟨_,rfl⟩;rw[<- a5]at a0 H9 ⊢;clear a5;obtain⟨r0,r1,r2,r3⟩:=zF a0;clear q0 q1 q2 q3 f0 f1 f2 f3;refine bodyPost_ret (v:=.tuple #[.agg #[.int .i64 0,.int .i64 0,.slice none 0 0,.slice none 0 0],.int .i64 E]) (by simp[results,Try.results83,go_sem,r0,r1,r2,r3]) rfl ?_;exact⟨_,_,by rw[l9.out,HD.out];rfl,by rw[HD.out];exact DfaT.zero _,zB d8.out H9 (fun k e=>by have h7:Q=k:=Oj e;omega)⟩
 rw[hE];clear q1 f0 f1 f2 f3;obtain⟨c4,a6,b1,m4,a8,j3,j6⟩:=qBO (vG.1 hE);obtain⟨k,hk⟩:∃ k:Nat,letters=(k:Int):=⟨letters.toNat,by omega⟩
 have HD:Hid (xM bs letters=minD (patD k (bs.map zL)) k):=Kh (by
  rw[xM,if_pos hE,hk,Int.toNat_natCast])
 subst hk;have c4:1<=k:=by omega
 have a6:k<=6:=by omega
 obtain⟨b,off,_,ea,m9,k9,j9,j4⟩:=H.out.some_ (by rw[yB];exact b1);rw[yB]at ea k9;simp only[Value.slice.injEq]at ea;obtain⟨rfl,_,rfl⟩:=ea;have m8:cap<=9223372036854775807:=by unfold maxLen at j9;omega
 have d5:Hid (∀ W:World,w1.grownBy W none->∀ i,i<bs.length->W.cell? ⟨b,off+i,none⟩=some (.string (bs.getD i ⟨#[]⟩))):=Kh (fun W hg i hi=>vD ((j4.kept d8.out (by simp)).kept hg (by simp)) i hi)
 have e7:Hid (∀ i,i<bs.length->zW (bs.getD i ⟨#[]⟩) (k:Int)=true/\(bs.getD i ⟨#[]⟩).size<=64):=Kh (fun i hi=>by
  rw[zG hi];exact⟨j3 i hi,by have:=total_get hi;omega⟩)
 have l5:Hid (∀ i,i<bs.length->0<i->i+1<bs.length->0<(bs.getD i ⟨#[]⟩).size):=Kh (fun i hi h0 h1=>by rw[zG hi];exact j6 i hi h0 h1);have HE:=Kh hE;clear hE j3 j6 j4 j9;have i7:Hid (∀ W:World,w1.grownBy W none->W.cell? ⟨P,0,none⟩=some (.slice (some ⟨b,off,none⟩) bs.length cap)):=Kh (fun W hg=>by simpa using zJ (zA j1.out hg (by simp)) 0 (by simp));obtain⟨bb,i2⟩:∃ bb,bb=w1.heap.size:=⟨_,rfl⟩;obtain⟨w2,g3⟩:∃ w2,w2=w1.alloc (.cells #[.int .i64 (k:Int),.slice none 0 0] 162):=⟨_,rfl⟩;have i0:=Ga w1 (.cells #[.int .i64 (k:Int),.slice none 0 0] 162) none;have c6:=heap_alloc_new w1 (.cells #[.int .i64 (k:Int),.slice none 0 0] 162);rw[<- g3]at i0 c6;rw[<- i2]at c6;have f5:Hid (BB w1 w2 bb k [] [] none 0):=Kh (BB.start c6 (by omega) i0);have l2:=Kh g3;have k4:=Kh i2;clear i0 c6 g3 i2;have n1:Q<bb:=by have:=k4.out;omega
 go_upto_region 5 with fail;rw[<- l2.out,<- k4.out];go_wp2_with fail;refine(oR w1 w2 bb k [] [] none 0 0 f5.out c4 a6 (by simp)).mono ?_;rintro e w3 ⟨g0,sn3,cn3,rfl,g2⟩;have p3:=i7.out _ g2.grown;have s3:=d5.out _ g2.grown 0 b1;rw[Nat.add_zero]at s3;obtain⟨u0,g4⟩:∃ u,u=bs.getD 0 ⟨#[]⟩:=⟨_,rfl⟩;rw[<- g4]at s3;have k2:=Kh g4;have k5:=Kh g2;clear g4 g2 f5;go_wp2_with fail;have f8:=e7.out 0 b1;rw[<- k2.out]at f8;refine(bprefix_any w1 w3 bb k _ _ sn3 cn3 u0 k5.out (by simp) c4 a6 f8.1 f8.2).mono ?_;rintro e w4 ⟨gs4,sn4,cn4,rfl,e5⟩
 have e4:[]++[List.replicate k 0]++qO k (zL u0) u0.size=[List.replicate k 0]++qO k (nthL bs 0) (nthL bs 0).length:=by
  rw[nthL,<- k2.out,yT];rfl
 rw[e4]at e5;have p4:=i7.out _ e5.grown;have f7:=Kh e5;have l8:=Kh e5.grown;clear e5 e4 p3 s3 f8 k5;by_cases h1:bs.length=1
 ·have l0:((bs.length:Int) - 1 == 0)=true:=by simp[h1]
  have H1:=Kh h1;clear h1;go_wp2_with fail
  refine(oR w1 w4 bb k _ gs4 sn4 cn4 0 f7.out c4 a6 (by
   have h9:=(e7.out 0 b1).2;have e9:([List.replicate k 0]++qO k (nthL bs 0) (nthL bs 0).length).length=1+(bs.getD 0 ⟨#[]⟩).size:=by simp[qO,nthL,yT];omega
   omega)).mono ?_
  rintro e w5 ⟨g5,sn5,cn5,rfl,c5⟩;have er:[List.replicate k 0]++qO k (nthL bs 0) (nthL bs 0).length++[List.replicate k 0]=wJ k (bs.map zL):=(rows_one H1.out).symm;rw[er]at c5;obtain⟨gs5,e2⟩:∃ l,l=gs4++[g5]:=⟨_,rfl⟩;rw[<- e2]at c5;have b0:=Kh c5;clear c5 er f7 e2;obtain⟨c50,c51,c5f⟩:=b0.out.cells;have g7:=nO (k:=k) b1 a8;obtain⟨RL,d2⟩:∃ RL,RL=(wJ k (bs.map zL)).length:=⟨_,rfl⟩;rw[<- d2]at c51 g7;have a9:=Kh d2;have d9:=qAA RL (by omega);have a0:=zI b0.out.box;obtain⟨wo,rfl⟩:∃ wo:World,wo=w5:=⟨_,rfl⟩;clear d2;go_wp2_with fail
  go_region
  ·obtain⟨w7,a1⟩:∃ w7,w7=((wo.alloc (.cells (madeCells #[.bool false] RL) 4)).alloc (.cells #[.int .i64 (k:Int),.int .i64 1,.slice (some ⟨wo.heap.size,0,none⟩) RL RL,.slice sn5 RL cn5] 42)).drew:=⟨_,rfl⟩
   have h8:=qJD wo k RL sn5 cn5;rw[<- a1]at h8 ⊢;obtain⟨T,hT⟩:∃ T,T=wo.heap.size+1:=⟨_,rfl⟩;obtain⟨F,hF⟩:∃ F,F=wo.heap.size:=⟨_,rfl⟩;rw[<- hT]at h8 ⊢;rw[<- hF]at h8 ⊢;have d1:T≠F:=(by omega);clear hT hF;have h4:=Kh h8;have d4:=Kh a1;clear h8 a1 c50 c51 c5f d9;have h2:=Kh (b0.out.grow h4.out.grown);obtain⟨b70,b71,b7f⟩:=h2.out.cells;rw[<- a9.out]at b71;obtain⟨t70,t71,t72,t73⟩:=zF h4.out.box;obtain⟨R1,b6⟩:∃ R1,R1=RL - 1:=⟨_,rfl⟩;have e71:(RL:Int) - 1=(R1:Int):=by omega
   have e72:IntKind.i64.wrap ((RL:Int) - 1)=(R1:Int):=by rw[e71];exact wG (by omega)
   have H3:R1<RL:=(by omega);have b5:(R1:Int)<RL:=(by omega);have cF:=h4.out.arr.bool R1 (by rw[List.length_replicate];exact H3);have fF:=h4.out.arr.frozen R1;have i1:(bls (List.replicate RL false)).length=RL:=by rw[xE,List.length_replicate]
   have d6:=Kh b6;clear b6;go_wp2_with fail
   go_region
   obtain⟨w8,H6⟩:∃ w8,w8=(w7.setCell ⟨F,R1,none⟩ (.bool true)).drew:=⟨_,rfl⟩;have h5:w7.grownBy w8 (some F):=by rw[H6];exact zB (zC w7 ⟨F,R1,none⟩ _) (zP _ none) (by simp)
   have b4:Arr w8 F 4 (bls ((List.replicate RL false).set (RL - 1) true)):=by
    rw[H6,<- d6.out];exact(h4.out.arr.bool_set R1 (by rw[List.length_replicate];exact H3) true).of_heap rfl
   have i5:w7.heap.size<=w8.heap.size:=h5.size;obtain⟨cF8,rF8,h3,_⟩:=h4.out.arr
   have a3:BB w1 w8 bb k (wJ k (bs.map zL)) gs5 sn5 cn5:=by
    refine⟨zA h2.out.box h5 ?_,h2.out.own.kept h5 (.inr (zS h2.out.own h3 (by decide))),h2.out.len,fun i hi=>⟨(h2.out.row i hi).1.kept h5 ?_,(h2.out.row i hi).2⟩,h2.out.nd,h2.out.lo,h2.out.glo,zB h2.out.grown h5 (fun q e=>?_)⟩
    ·intro e
     have e:=Oj e;rw[e,h2.out.box]at h3;simp only[Option.some.injEq,Obj.cells.injEq]at h3;exact absurd h3.2.1 (by decide)
    ·intro e
     have e:=Oj e;obtain⟨cu,rs,a2,_⟩:=(h2.out.row i hi).1;rw[<- e,h3]at a2;simp only[Option.some.injEq,Obj.cells.injEq]at a2;exact absurd a2.2.1 (by decide)
    ·have e:F=q:=Oj e
     have:=h4.out.lo;have:=b0.out.grown.size;omega
   have H0:=jB a3 a6 a9.out (by omega) b4 (by unfold maxLen;omega);have H7:=lZ c4 a6 b1 a8;rw[<- a9.out]at H7;have b9:=Kh (mM w8.heap.size w8 _ (patD k (bs.map zL)) RL k (Nat.le_refl _) H0 H7 (by omega));obtain⟨t80,t81,t82,t83⟩:=zF (zA h4.out.box h5 (fun e=>d1 (Oj e).symm));have H4:Hid (w1.grownBy w8 none):=Kh a3.grown;have a4:Hid ((minD (patD k (bs.map zL)) k).letters=k/\(minD (patD k (bs.map zL)) k).start=0):=Kh ⟨(pS H7).hk,rfl⟩;rw[<- H6];clear H6 h5 b4 h3 a3 H0 H7 t70 t71 t72 t73 b70 b71 b7f cF fF h2 h4 d4;go_wp2_with fail;refine b9.out.mono ?_;rintro e w9 ⟨v9,rfl,b3,b2⟩;have H8:=Kh b3;obtain⟨o9,g6,sf9,cf9,sn9,cn9,rfl,g8,H2⟩:=b3;obtain⟨R,hR⟩:∃ R,R=minD (patD k (bs.map zL)) k:=⟨_,rfl⟩;rw[<- hR]at H2 H8 a4 ⊢;rw[a4.out.1,a4.out.2]at H8 ⊢;obtain⟨FL,b8⟩:∃ FL,FL=R.final.length:=⟨_,rfl⟩;obtain⟨NL,b7⟩:∃ NL,NL=R.next.length:=⟨_,rfl⟩;rw[<- b8,<- b7]at H8 ⊢;have HR:=Kh hR;have c2:=Kh (zB H4.out b2 (by simp));have h6:=zA H5.out c2.out (by simp);have c3:=Kh h6;obtain⟨q0,q1,q2,q3⟩:=zF h6;have f0:=zE h6 0;have f1:=zE h6 1;have f2:=zE h6 2;have f3:=zE h6 3;have d3:Q<w8.heap.size:=(by have:=H4.out.size;omega);clear H2 b8 b7 hR b2 h6 t80 t81 t82 t83 b9;go_wp2;obtain⟨a0,H9⟩:=xI c3.out (.int .i64 (k:Int)) (.int .i64 0) (.slice sf9 FL cf9) (.slice sn9 NL cn9);obtain⟨wz,a5⟩:∃ wz,wz=(((w9.setCell ⟨Q,0,none⟩ (.int .i64 (k:Int))).setCell ⟨Q,1,none⟩ (.int .i64 0)).setCell ⟨Q,2,none⟩ (.slice sf9 FL cf9)).setCell ⟨Q,3,none⟩ (.slice sn9 NL cn9):=⟨_,rfl⟩;rw[<- a5]at a0 H9 ⊢;clear a5;obtain⟨r0,r1,r2,r3⟩:=zF a0;clear q0 q1 q2 q3 f0 f1 f2 f3;refine bodyPost_ret (v:=.tuple #[.agg #[.int .i64 (k:Int),.int .i64 0,.slice sf9 FL cf9,.slice sn9 NL cn9],.int .i64 0]) (by simp[results,Try.results83,go_sem,r0,r1,r2,r3]) rfl ?_;have d0:=H8.out.far H9 c3.out d3;obtain⟨fv9,nv9,c8,c9⟩:=d0.t;refine⟨fv9,nv9,?_,?_,zB (zB d8.out c2.out (by simp)) H9 (fun q e=>by have h7:Q=q:=Oj e;omega)⟩
   ·rw[HE.out,HD.out,<- HR.out,<- c8]
   ·rw[HD.out,<- HR.out];exact c9
  ·obtain⟨w7,a1⟩:∃ w7,w7=((wo.alloc (.cells #[.int .i64 (k:Int),.int .i64 1,.slice (some ⟨wo.heap.size+1,0,none⟩) RL RL,.slice sn5 RL cn5] 42)).alloc (.cells (madeCells #[.bool false] RL) 4)).drew:=⟨_,rfl⟩
   have h8:=qJC wo k RL sn5 cn5;rw[<- a1]at h8 ⊢;obtain⟨T,hT⟩:∃ T,T=wo.heap.size:=⟨_,rfl⟩;obtain⟨F,hF⟩:∃ F,F=wo.heap.size+1:=⟨_,rfl⟩;rw[<- hF]at h8 ⊢;rw[<- hT]at h8 ⊢;have d1:T≠F:=(by omega);clear hT hF;have h4:=Kh h8;have d4:=Kh a1;clear h8 a1 c50 c51 c5f d9;have h2:=Kh (b0.out.grow h4.out.grown);obtain⟨b70,b71,b7f⟩:=h2.out.cells;rw[<- a9.out]at b71;obtain⟨t70,t71,t72,t73⟩:=zF h4.out.box;obtain⟨R1,b6⟩:∃ R1,R1=RL - 1:=⟨_,rfl⟩;have e71:(RL:Int) - 1=(R1:Int):=by omega
   have e72:IntKind.i64.wrap ((RL:Int) - 1)=(R1:Int):=by rw[e71];exact wG (by omega)
   have H3:R1<RL:=(by omega);have b5:(R1:Int)<RL:=(by omega);have cF:=h4.out.arr.bool R1 (by rw[List.length_replicate];exact H3);have fF:=h4.out.arr.frozen R1;have i1:(bls (List.replicate RL false)).length=RL:=by rw[xE,List.length_replicate]
   have d6:=Kh b6;clear b6;go_wp2_with fail
   go_region
   obtain⟨w8,H6⟩:∃ w8,w8=(w7.setCell ⟨F,R1,none⟩ (.bool true)).drew:=⟨_,rfl⟩;have h5:w7.grownBy w8 (some F):=by rw[H6];exact zB (zC w7 ⟨F,R1,none⟩ _) (zP _ none) (by simp)
   have b4:Arr w8 F 4 (bls ((List.replicate RL false).set (RL - 1) true)):=by
    rw[H6,<- d6.out];exact(h4.out.arr.bool_set R1 (by rw[List.length_replicate];exact H3) true).of_heap rfl
   have i5:w7.heap.size<=w8.heap.size:=h5.size;obtain⟨cF8,rF8,h3,_⟩:=h4.out.arr
   have a3:BB w1 w8 bb k (wJ k (bs.map zL)) gs5 sn5 cn5:=by
    refine⟨zA h2.out.box h5 ?_,h2.out.own.kept h5 (.inr (zS h2.out.own h3 (by decide))),h2.out.len,fun i hi=>⟨(h2.out.row i hi).1.kept h5 ?_,(h2.out.row i hi).2⟩,h2.out.nd,h2.out.lo,h2.out.glo,zB h2.out.grown h5 (fun q e=>?_)⟩
    ·intro e
     have e:=Oj e;rw[e,h2.out.box]at h3;simp only[Option.some.injEq,Obj.cells.injEq]at h3;exact absurd h3.2.1 (by decide)
    ·intro e
     have e:=Oj e;obtain⟨cu,rs,a2,_⟩:=(h2.out.row i hi).1;rw[<- e,h3]at a2;simp only[Option.some.injEq,Obj.cells.injEq]at a2;exact absurd a2.2.1 (by decide)
    ·have e:F=q:=Oj e
     have:=h4.out.lo;have:=b0.out.grown.size;omega
   have H0:=jB a3 a6 a9.out (by omega) b4 (by unfold maxLen;omega);have H7:=lZ c4 a6 b1 a8;rw[<- a9.out]at H7;have b9:=Kh (mM w8.heap.size w8 _ (patD k (bs.map zL)) RL k (Nat.le_refl _) H0 H7 (by omega));obtain⟨t80,t81,t82,t83⟩:=zF (zA h4.out.box h5 (fun e=>d1 (Oj e).symm));have H4:Hid (w1.grownBy w8 none):=Kh a3.grown;have a4:Hid ((minD (patD k (bs.map zL)) k).letters=k/\(minD (patD k (bs.map zL)) k).start=0):=Kh ⟨(pS H7).hk,rfl⟩;rw[<- H6];clear H6 h5 b4 h3 a3 H0 H7 t70 t71 t72 t73 b70 b71 b7f cF fF h2 h4 d4;go_wp2_with fail;refine b9.out.mono ?_;rintro e w9 ⟨v9,rfl,b3,b2⟩;have H8:=Kh b3;obtain⟨o9,g6,sf9,cf9,sn9,cn9,rfl,g8,H2⟩:=b3;obtain⟨R,hR⟩:∃ R,R=minD (patD k (bs.map zL)) k:=⟨_,rfl⟩;rw[<- hR]at H2 H8 a4 ⊢;rw[a4.out.1,a4.out.2]at H8 ⊢;obtain⟨FL,b8⟩:∃ FL,FL=R.final.length:=⟨_,rfl⟩;obtain⟨NL,b7⟩:∃ NL,NL=R.next.length:=⟨_,rfl⟩;rw[<- b8,<- b7]at H8 ⊢;have HR:=Kh hR;have c2:=Kh (zB H4.out b2 (by simp));have h6:=zA H5.out c2.out (by simp);have c3:=Kh h6;obtain⟨q0,q1,q2,q3⟩:=zF h6;have f0:=zE h6 0;have f1:=zE h6 1;have f2:=zE h6 2;have f3:=zE h6 3;have d3:Q<w8.heap.size:=(by have:=H4.out.size;omega);clear H2 b8 b7 hR b2 h6 t80 t81 t82 t83 b9;go_wp2;obtain⟨a0,H9⟩:=xI c3.out (.int .i64 (k:Int)) (.int .i64 0) (.slice sf9 FL cf9) (.slice sn9 NL cn9);obtain⟨wz,a5⟩:∃ wz,wz=(((w9.setCell ⟨Q,0,none⟩ (.int .i64 (k:Int))).setCell ⟨Q,1,none⟩ (.int .i64 0)).setCell ⟨Q,2,none⟩ (.slice sf9 FL cf9)).setCell ⟨Q,3,none⟩ (.slice sn9 NL cn9):=⟨_,rfl⟩;rw[<- a5]at a0 H9 ⊢;clear a5;obtain⟨r0,r1,r2,r3⟩:=zF a0;clear q0 q1 q2 q3 f0 f1 f2 f3;refine bodyPost_ret (v:=.tuple #[.agg #[.int .i64 (k:Int),.int .i64 0,.slice sf9 FL cf9,.slice sn9 NL cn9],.int .i64 0]) (by simp[results,Try.results83,go_sem,r0,r1,r2,r3]) rfl ?_;have d0:=H8.out.far H9 c3.out d3;obtain⟨fv9,nv9,c8,c9⟩:=d0.t;refine⟨fv9,nv9,?_,?_,zB (zB d8.out c2.out (by simp)) H9 (fun q e=>by have h7:Q=q:=Oj e;omega)⟩
   ·rw[HE.out,HD.out,<- HR.out,<- c8]
   ·rw[HD.out,<- HR.out];exact c9
 ·have l0:((bs.length:Int) - 1 == 0)=false:=by rw[beq_eq_false_iff_ne];omega
  have k6:2<=bs.length:=by omega
  obtain⟨m,hm⟩:∃ m,m=bs.length - 1 - 1:=⟨_,rfl⟩;have HM:=Kh hm;obtain⟨c1,g1⟩:∃ c,c=1+(nthL bs 0).length:=⟨_,rfl⟩;have k3:=Kh g1;have k8:c1<=65:=by rw[g1,nthL,yT];have:=(e7.out 0 b1).2;omega
  obtain⟨base,a7⟩:∃ base,base=[List.replicate k 0]++qO k (nthL bs 0) (nthL bs 0).length:=⟨_,rfl⟩;have k0:base.length=c1:=by rw[a7,g1];simp[qO];omega
  rw[<- a7]at f7;have f6:=Kh a7;have j0:=Kh k0;clear h1 hm g1 a7 k0;go_wp2_with fail
  go_loopg [10,43] m (fun gh a10 i wr=>∃ (j:Nat) (gs:List Nat) (sn:Option Addr) (cn:Nat),gh+j=m/\i=.int .i64 j/\BB w1 wr bb k (base++midN k c1 ((pJ bs).take j)) gs sn cn)
  case atStart=>exact⟨0,gs4,sn4,cn4,rfl,rfl,by simpa [midN] using f7.out⟩
  case round =>
   clear f7 l8 p4;obtain⟨j,gs,sn,cn,j8,rfl,d7⟩:=hrel;have i8:=Kh j8;have i9:=Kh d7;clear j8
   have e0:(base++midN k c1 ((pJ bs).take j)).length<=129:=by
    rw[List.length_append,j0.out,oK];have:=mids_sum (bs:=bs) j;have:=k3.out;omega
   have f4:=Kh e0;clear e0;by_cases hj:j<m
   ·have g9:1+j<bs.length:=by have:=HM.out;omega
    have k7:(j:Int)<((bs.length - 1 - 1:Nat):Int):=(by have:=HM.out;omega);have sj:=d5.out _ d7.grown (1+j) g9;rw[<- Nat.add_assoc]at sj;obtain⟨u,hu⟩:∃ u,u=bs.getD (1+j) ⟨#[]⟩:=⟨_,rfl⟩;have c7:=e7.out (1+j) g9;have j5:=l5.out (1+j) g9 (by omega) (by have:=HM.out;omega);rw[<- hu]at sj c7 j5;have HU:=Kh hu;have e8:=Kh c7;clear hu d7 c7;go_wp2_with fail;refine(dM w1 wr bb k _ gs sn cn u i9.out (by have:=f4.out;omega) c4 a6 e8.out.1 j5 e8.out.2).mono ?_;rintro e w6 ⟨gs6,sn6,cn6,rfl,i3⟩
    have m0:Hid (BB w1 w6 bb k (base++midN k c1 ((pJ bs).take (j+1))) gs6 sn6 cn6):=Kh (by
     have et:(pJ bs).take (j+1)=(pJ bs).take j++[zL u]:=by
      rw[zR (d:=[]) (by rw[nQ];have:=HM.out;omega),midsL_get (by have:=HM.out;omega),nthL,<- HU.out]
     rw[et,qCE,<- List.append_assoc];have el:(base++midN k c1 ((pJ bs).take j)).length=c1+yJ ((pJ bs).take j):=by rw[List.length_append,j0.out,oK]
     rw[el]at i3
     exact i3)
    clear i3;go_wp2;go_roundg (m - (j+1))
    case measure=>have:=i8.out;omega
    case rel=>exact⟨j+1,gs6,sn6,cn6,by have:=i8.out;omega,by go_num,m0.out⟩
   ·have j7:j=m:=by have:=i8.out;omega
    have k7:¬ (j:Int)<((bs.length - 1 - 1:Nat):Int):=(by have:=HM.out;omega);have pl:=i7.out _ d7.grown;have sl:=d5.out _ d7.grown (bs.length - 1) (by omega);obtain⟨u,hu⟩:∃ u,u=bs.getD (bs.length - 1) ⟨#[]⟩:=⟨_,rfl⟩;have c7:=e7.out (bs.length - 1) (by omega);rw[<- hu]at sl c7;have HU:=Kh hu;have e8:=Kh c7;have m7:((bs.length:Int) - 1).toNat=bs.length - 1:=by omega
    have m6:(bs.length:Int) - 1<bs.length:=(by omega);have m5:0<=(bs.length:Int) - 1:=by omega
    have l6:=Kh j7;clear hu c7 d7 j7;go_wp2_with fail;refine(bsuffix_any w1 wr bb k _ gs sn cn u i9.out (by have:=f4.out;omega) c4 a6 e8.out.1 e8.out.2).mono ?_;rintro e w5 ⟨gs5,sn5,cn5,rfl,c5⟩
    have b0:Hid (BB w1 w5 bb k (wJ k (bs.map zL)) gs5 sn5 cn5):=Kh (by
     have et:(pJ bs).take j=pJ bs:=List.take_of_length_le (by rw[nQ];have:=HM.out;have:=l6.out;omega);have el:(base++midN k c1 (pJ bs)).length=c1+yJ (pJ bs):=by rw[List.length_append,j0.out,oK]
     rw[et,el]at c5;rw[rows_more k6,show nthL bs (bs.length - 1)=zL u by rw[nthL,<- HU.out]];have:=f6.out;rw[this,k3.out]at c5
     exact c5)
    clear c5 i9 sl pl;obtain⟨c50,c51,c5f⟩:=b0.out.cells;have g7:=nO (k:=k) b1 a8;obtain⟨RL,d2⟩:∃ RL,RL=(wJ k (bs.map zL)).length:=⟨_,rfl⟩;rw[<- d2]at c51 g7;have a9:=Kh d2;have d9:=qAA RL (by omega);have a0:=zI b0.out.box;obtain⟨wo,rfl⟩:∃ wo:World,wo=w5:=⟨_,rfl⟩;clear d2;go_wp2_with fail
    go_region
    ·obtain⟨w7,a1⟩:∃ w7,w7=((wo.alloc (.cells (madeCells #[.bool false] RL) 4)).alloc (.cells #[.int .i64 (k:Int),.int .i64 1,.slice (some ⟨wo.heap.size,0,none⟩) RL RL,.slice sn5 RL cn5] 42)).drew:=⟨_,rfl⟩
     have h8:=qJD wo k RL sn5 cn5;rw[<- a1]at h8 ⊢;obtain⟨T,hT⟩:∃ T,T=wo.heap.size+1:=⟨_,rfl⟩;obtain⟨F,hF⟩:∃ F,F=wo.heap.size:=⟨_,rfl⟩;rw[<- hT]at h8 ⊢;rw[<- hF]at h8 ⊢;have d1:T≠F:=(by omega);clear hT hF;have h4:=Kh h8;have d4:=Kh a1;clear h8 a1 c50 c51 c5f d9;have h2:=Kh (b0.out.grow h4.out.grown);obtain⟨b70,b71,b7f⟩:=h2.out.cells;rw[<- a9.out]at b71;obtain⟨t70,t71,t72,t73⟩:=zF h4.out.box;obtain⟨R1,b6⟩:∃ R1,R1=RL - 1:=⟨_,rfl⟩;have e71:(RL:Int) - 1=(R1:Int):=by omega
     have e72:IntKind.i64.wrap ((RL:Int) - 1)=(R1:Int):=by rw[e71];exact wG (by omega)
     have H3:R1<RL:=(by omega);have b5:(R1:Int)<RL:=(by omega);have cF:=h4.out.arr.bool R1 (by rw[List.length_replicate];exact H3);have fF:=h4.out.arr.frozen R1;have i1:(bls (List.replicate RL false)).length=RL:=by rw[xE,List.length_replicate]
     have d6:=Kh b6;clear b6;go_wp2_with fail
     go_region
     obtain⟨w8,H6⟩:∃ w8,w8=(w7.setCell ⟨F,R1,none⟩ (.bool true)).drew:=⟨_,rfl⟩;have h5:w7.grownBy w8 (some F):=by rw[H6];exact zB (zC w7 ⟨F,R1,none⟩ _) (zP _ none) (by simp)
     have b4:Arr w8 F 4 (bls ((List.replicate RL false).set (RL - 1) true)):=by
      rw[H6,<- d6.out];exact(h4.out.arr.bool_set R1 (by rw[List.length_replicate];exact H3) true).of_heap rfl
     have i5:w7.heap.size<=w8.heap.size:=h5.size;obtain⟨cF8,rF8,h3,_⟩:=h4.out.arr
     have a3:BB w1 w8 bb k (wJ k (bs.map zL)) gs5 sn5 cn5:=by
      refine⟨zA h2.out.box h5 ?_,h2.out.own.kept h5 (.inr (zS h2.out.own h3 (by decide))),h2.out.len,fun i hi=>⟨(h2.out.row i hi).1.kept h5 ?_,(h2.out.row i hi).2⟩,h2.out.nd,h2.out.lo,h2.out.glo,zB h2.out.grown h5 (fun q e=>?_)⟩
      ·intro e
       have e:=Oj e;rw[e,h2.out.box]at h3;simp only[Option.some.injEq,Obj.cells.injEq]at h3;exact absurd h3.2.1 (by decide)
      ·intro e
       have e:=Oj e;obtain⟨cu,rs,a2,_⟩:=(h2.out.row i hi).1;rw[<- e,h3]at a2;simp only[Option.some.injEq,Obj.cells.injEq]at a2;exact absurd a2.2.1 (by decide)
      ·have e:F=q:=Oj e
       have:=h4.out.lo;have:=b0.out.grown.size;omega
     have H0:=jB a3 a6 a9.out (by omega) b4 (by unfold maxLen;omega);have H7:=lZ c4 a6 b1 a8;rw[<- a9.out]at H7;have b9:=Kh (mM w8.heap.size w8 _ (patD k (bs.map zL)) RL k (Nat.le_refl _) H0 H7 (by omega));obtain⟨t80,t81,t82,t83⟩:=zF (zA h4.out.box h5 (fun e=>d1 (Oj e).symm));have H4:Hid (w1.grownBy w8 none):=Kh a3.grown;have a4:Hid ((minD (patD k (bs.map zL)) k).letters=k/\(minD (patD k (bs.map zL)) k).start=0):=Kh ⟨(pS H7).hk,rfl⟩;rw[<- H6];clear H6 h5 b4 h3 a3 H0 H7 t70 t71 t72 t73 b70 b71 b7f cF fF h2 h4 d4;go_wp2_with fail;refine b9.out.mono ?_;rintro e w9 ⟨v9,rfl,b3,b2⟩;have H8:=Kh b3;obtain⟨o9,g6,sf9,cf9,sn9,cn9,rfl,g8,H2⟩:=b3;obtain⟨R,hR⟩:∃ R,R=minD (patD k (bs.map zL)) k:=⟨_,rfl⟩;rw[<- hR]at H2 H8 a4 ⊢;rw[a4.out.1,a4.out.2]at H8 ⊢;obtain⟨FL,b8⟩:∃ FL,FL=R.final.length:=⟨_,rfl⟩;obtain⟨NL,b7⟩:∃ NL,NL=R.next.length:=⟨_,rfl⟩;rw[<- b8,<- b7]at H8 ⊢;have HR:=Kh hR;have c2:=Kh (zB H4.out b2 (by simp));have h6:=zA H5.out c2.out (by simp);have c3:=Kh h6;obtain⟨q0,q1,q2,q3⟩:=zF h6;have f0:=zE h6 0;have f1:=zE h6 1;have f2:=zE h6 2;have f3:=zE h6 3;have d3:Q<w8.heap.size:=(by have:=H4.out.size;omega);clear H2 b8 b7 hR b2 h6 t80 t81 t82 t83 b9;go_wp2;obtain⟨a0,H9⟩:=xI c3.out (.int .i64 (k:Int)) (.int .i64 0) (.slice sf9 FL cf9) (.slice sn9 NL cn9);obtain⟨wz,a5⟩:∃ wz,wz=(((w9.setCell ⟨Q,0,none⟩ (.int .i64 (k:Int))).setCell ⟨Q,1,none⟩ (.int .i64 0)).setCell ⟨Q,2,none⟩ (.slice sf9 FL cf9)).setCell ⟨Q,3,none⟩ (.slice sn9 NL cn9):=⟨_,rfl⟩;rw[<- a5]at a0 H9 ⊢;clear a5;obtain⟨r0,r1,r2,r3⟩:=zF a0;clear q0 q1 q2 q3 f0 f1 f2 f3;refine bodyPost_ret (v:=.tuple #[.agg #[.int .i64 (k:Int),.int .i64 0,.slice sf9 FL cf9,.slice sn9 NL cn9],.int .i64 0]) (by simp[results,Try.results83,go_sem,r0,r1,r2,r3]) rfl ?_;have d0:=H8.out.far H9 c3.out d3;obtain⟨fv9,nv9,c8,c9⟩:=d0.t;refine⟨fv9,nv9,?_,?_,zB (zB d8.out c2.out (by simp)) H9 (fun q e=>by have h7:Q=q:=Oj e;omega)⟩
     ·rw[HE.out,HD.out,<- HR.out,<- c8]
     ·rw[HD.out,<- HR.out];exact c9
    ·obtain⟨w7,a1⟩:∃ w7,w7=((wo.alloc (.cells #[.int .i64 (k:Int),.int .i64 1,.slice (some ⟨wo.heap.size+1,0,none⟩) RL RL,.slice sn5 RL cn5] 42)).alloc (.cells (madeCells #[.bool false] RL) 4)).drew:=⟨_,rfl⟩
     have h8:=qJC wo k RL sn5 cn5;rw[<- a1]at h8 ⊢;obtain⟨T,hT⟩:∃ T,T=wo.heap.size:=⟨_,rfl⟩;obtain⟨F,hF⟩:∃ F,F=wo.heap.size+1:=⟨_,rfl⟩;rw[<- hF]at h8 ⊢;rw[<- hT]at h8 ⊢;have d1:T≠F:=(by omega);clear hT hF;have h4:=Kh h8;have d4:=Kh a1;clear h8 a1 c50 c51 c5f d9;have h2:=Kh (b0.out.grow h4.out.grown);obtain⟨b70,b71,b7f⟩:=h2.out.cells;rw[<- a9.out]at b71;obtain⟨t70,t71,t72,t73⟩:=zF h4.out.box;obtain⟨R1,b6⟩:∃ R1,R1=RL - 1:=⟨_,rfl⟩;have e71:(RL:Int) - 1=(R1:Int):=by omega
     have e72:IntKind.i64.wrap ((RL:Int) - 1)=(R1:Int):=by rw[e71];exact wG (by omega)
     have H3:R1<RL:=(by omega);have b5:(R1:Int)<RL:=(by omega);have cF:=h4.out.arr.bool R1 (by rw[List.length_replicate];exact H3);have fF:=h4.out.arr.frozen R1;have i1:(bls (List.replicate RL false)).length=RL:=by rw[xE,List.length_replicate]
     have d6:=Kh b6;clear b6;go_wp2_with fail
     go_region
     obtain⟨w8,H6⟩:∃ w8,w8=(w7.setCell ⟨F,R1,none⟩ (.bool true)).drew:=⟨_,rfl⟩;have h5:w7.grownBy w8 (some F):=by rw[H6];exact zB (zC w7 ⟨F,R1,none⟩ _) (zP _ none) (by simp)
     have b4:Arr w8 F 4 (bls ((List.replicate RL false).set (RL - 1) true)):=by
      rw[H6,<- d6.out];exact(h4.out.arr.bool_set R1 (by rw[List.length_replicate];exact H3) true).of_heap rfl
     have i5:w7.heap.size<=w8.heap.size:=h5.size;obtain⟨cF8,rF8,h3,_⟩:=h4.out.arr
     have a3:BB w1 w8 bb k (wJ k (bs.map zL)) gs5 sn5 cn5:=by
      refine⟨zA h2.out.box h5 ?_,h2.out.own.kept h5 (.inr (zS h2.out.own h3 (by decide))),h2.out.len,fun i hi=>⟨(h2.out.row i hi).1.kept h5 ?_,(h2.out.row i hi).2⟩,h2.out.nd,h2.out.lo,h2.out.glo,zB h2.out.grown h5 (fun q e=>?_)⟩
      ·intro e
       have e:=Oj e;rw[e,h2.out.box]at h3;simp only[Option.some.injEq,Obj.cells.injEq]at h3;exact absurd h3.2.1 (by decide)
      ·intro e
       have e:=Oj e;obtain⟨cu,rs,a2,_⟩:=(h2.out.row i hi).1;rw[<- e,h3]at a2;simp only[Option.some.injEq,Obj.cells.injEq]at a2;exact absurd a2.2.1 (by decide)
      ·have e:F=q:=Oj e
       have:=h4.out.lo;have:=b0.out.grown.size;omega
     have H0:=jB a3 a6 a9.out (by omega) b4 (by unfold maxLen;omega);have H7:=lZ c4 a6 b1 a8;rw[<- a9.out]at H7;have b9:=Kh (mM w8.heap.size w8 _ (patD k (bs.map zL)) RL k (Nat.le_refl _) H0 H7 (by omega));obtain⟨t80,t81,t82,t83⟩:=zF (zA h4.out.box h5 (fun e=>d1 (Oj e).symm));have H4:Hid (w1.grownBy w8 none):=Kh a3.grown;have a4:Hid ((minD (patD k (bs.map zL)) k).letters=k/\(minD (patD k (bs.map zL)) k).start=0):=Kh ⟨(pS H7).hk,rfl⟩;rw[<- H6];clear H6 h5 b4 h3 a3 H0 H7 t70 t71 t72 t73 b70 b71 b7f cF fF h2 h4 d4;go_wp2_with fail;refine b9.out.mono ?_;rintro e w9 ⟨v9,rfl,b3,b2⟩;have H8:=Kh b3;obtain⟨o9,g6,sf9,cf9,sn9,cn9,rfl,g8,H2⟩:=b3;obtain⟨R,hR⟩:∃ R,R=minD (patD k (bs.map zL)) k:=⟨_,rfl⟩;rw[<- hR]at H2 H8 a4 ⊢;rw[a4.out.1,a4.out.2]at H8 ⊢;obtain⟨FL,b8⟩:∃ FL,FL=R.final.length:=⟨_,rfl⟩;obtain⟨NL,b7⟩:∃ NL,NL=R.next.length:=⟨_,rfl⟩;rw[<- b8,<- b7]at H8 ⊢;have HR:=Kh hR;have c2:=Kh (zB H4.out b2 (by simp));have h6:=zA H5.out c2.out (by simp);have c3:=Kh h6;obtain⟨q0,q1,q2,q3⟩:=zF h6;have f0:=zE h6 0;have f1:=zE h6 1;have f2:=zE h6 2;have f3:=zE h6 3;have d3:Q<w8.heap.size:=(by have:=H4.out.size;omega);clear H2 b8 b7 hR b2 h6 t80 t81 t82 t83 b9;go_wp2;obtain⟨a0,H9⟩:=xI c3.out (.int .i64 (k:Int)) (.int .i64 0) (.slice sf9 FL cf9) (.slice sn9 NL cn9);obtain⟨wz,a5⟩:∃ wz,wz=(((w9.setCell ⟨Q,0,none⟩ (.int .i64 (k:Int))).setCell ⟨Q,1,none⟩ (.int .i64 0)).setCell ⟨Q,2,none⟩ (.slice sf9 FL cf9)).setCell ⟨Q,3,none⟩ (.slice sn9 NL cn9):=⟨_,rfl⟩;rw[<- a5]at a0 H9 ⊢;clear a5;obtain⟨r0,r1,r2,r3⟩:=zF a0;clear q0 q1 q2 q3 f0 f1 f2 f3;refine bodyPost_ret (v:=.tuple #[.agg #[.int .i64 (k:Int),.int .i64 0,.slice sf9 FL cf9,.slice sn9 NL cn9],.int .i64 0]) (by simp[results,Try.results83,go_sem,r0,r1,r2,r3]) rfl ?_;have d0:=H8.out.far H9 c3.out d3;obtain⟨fv9,nv9,c8,c9⟩:=d0.t;refine⟨fv9,nv9,?_,?_,zB (zB d8.out c2.out (by simp)) H9 (fun q e=>by have h7:Q=q:=Oj e;omega)⟩
     ·rw[HE.out,HD.out,<- HR.out,<- c8]
     ·rw[HD.out,<- HR.out];exact c9
end Go.Proofs.Ytjfdomfendbhfaa
namespace Go.Proofs.Ytjfdomfendbhfaa
section
variable {d:DfaV} {n k:Nat}
structure SeqI (d:DfaV)(n k:Nat)(p:List Nat):Prop where
 len:p.length=n
 norm:Norm p
 fin:∀ i j,i<n->j<n->p.getD i 0=p.getD j 0->d.final.getD i false=d.final.getD j false
 co:∀ i j,i<n->j<n->(zU d k).getD i 0=(zU d k).getD j 0->p.getD i 0=p.getD j 0
theorem sA (hd:VD d n k):(zU d k).length=n:=by rw[xW,hd.hn]
theorem classesD_step (hd:VD d n k){i j:Nat}(hi:i<n)(hj:j<n)(h:(zU d k).getD i 0=(zU d k).getD j 0):∀ a,a<k->(zU d k).getD (nx d i a) 0=(zU d k).getD (nx d j a) 0:=by
 have h0:∀ c∈zU d k,c<n:=by have:=pI (vJ d k);rwa [sA hd]at this
 have h1:=tR hd (sA hd) h0 hi hj k (Nat.le_refl _);rw[nZ hd]at h1;exact(h1.1 h).2
theorem classesD_final (hd:VD d n k){i j:Nat}(hi:i<n)(hj:j<n)(h:(zU d k).getD i 0=(zU d k).getD j 0):d.final.getD i false=d.final.getD j false:=kK hd _ hi hj h
theorem SeqI.start (hd:VD d n k):SeqI d n k (oE d) :=
 ⟨by rw[qU,hd.hn],jZ d,fun i j hi hj h=>(pQ hd hi hj).1 h,fun i j hi hj h=>(pQ hd hi hj).2 (classesD_final hd hi hj h)⟩
def tA (d:DfaV)(p:List Nat)(a:Nat):List Nat:=gL p (sG d p a)
theorem rY (hd:VD d n k){p:List Nat}(hp:p.length=n)(hN:Norm p){a i j:Nat}(hi:i<n)(hj:j<n):(tA d p a).getD i 0=(tA d p a).getD j 0 ↔ p.getD i 0=p.getD j 0/\p.getD (nx d i a) 0=p.getD (nx d j a) 0:=by
 have h1:∀ c∈p,c<n:=by have:=pI hN;rwa [hp]at this
 have h0:=hd.n1;rw[tA,qDF (by rw[xC]) (fun c hc=>?_) (by omega) (by omega),pY (by omega),pY (by omega)];rw[hp];simp only[sG,List.mem_map,List.mem_range]at hc;obtain⟨q,hq,rfl⟩:=hc;exact tL h1 (by omega)
theorem sP (d:DfaV)(p:List Nat)(a:Nat):(tA d p a).length=p.length:=by rw[tA,gE (xC d p a)]
theorem SeqI.step (hd:VD d n k){p:List Nat}(h:SeqI d n k p){a:Nat}(ha:a<k):SeqI d n k (tA d p a) :=
 ⟨by rw[sP,h.len],nP _,fun i j hi hj e=>h.fin i j hi hj ((rY hd h.len h.norm hi hj).1 e).1,fun i j hi hj e=>(rY hd h.len h.norm hi hj).2 ⟨h.co i j hi hj e,h.co _ _ (qC hd hi ha) (qC hd hj ha) (classesD_step hd hi hj e a ha)⟩⟩
theorem fQ (hd:VD d n k){p:List Nat}(hp:p.length=n)(hN:Norm p)(a:Nat):cls p<=cls (tA d p a)/\(cls p=cls (tA d p a)->tA d p a=p):=by
 obtain⟨h1,h2⟩:=qAO (p:=p) (q:=tA d p a) (sP d p a) (fun i j hi hj e=>((rY hd hp hN (by omega) (by omega)).1 e).1);refine⟨h1,fun e=>jD (nP _) hN ⟨sP d p a,fun i j hi hj=>?_⟩⟩;rw[sP]at hi hj;exact⟨fun e1=>((rY hd hp hN (by omega) (by omega)).1 e1).1,fun e1=>h2 e i j hi hj e1⟩
def lX (d:DfaV)(p:List Nat):Nat->List Nat
 | 0=>p
 | a+1=>tA d (lX d p a) a
theorem SeqI.to (hd:VD d n k){p:List Nat}(h:SeqI d n k p):∀ a,a<=k->SeqI d n k (lX d p a)
 | 0,_=>h
 | a+1,ha=>(SeqI.to hd h a (by omega)).step hd (by omega)
theorem fP (hd:VD d n k){p:List Nat}(h:SeqI d n k p):∀ a,a<=k->cls p<=cls (lX d p a)
 | 0,_=>Nat.le_refl _
 | a+1,ha=>Nat.le_trans (fP hd h a (by omega)) (fQ hd (h.to hd a (by omega)).len (h.to hd a (by omega)).norm a).1
theorem cU (hd:VD d n k){p:List Nat}(h:SeqI d n k p):∀ a,a<=k->cls (lX d p a)=cls p->lX d p a=p/\∀ b,b<a->tA d p b=p
 | 0,_,_=>⟨rfl,fun b hb=>by omega⟩
 | a+1,ha,e=>by
  have hI:=h.to hd a (by omega)
  have h1:=fP hd h a (by omega)
  have h2:=fQ hd hI.len hI.norm a
  have e2:cls (lX d p (a+1))=cls (tA d (lX d p a) a):=rfl
  obtain⟨h3,h4⟩:=cU hd h a (by omega) (by omega)
  have h5:=h2.2 (by omega)
  rw[h3]at h5
  refine⟨by show tA d (lX d p a) a=p;rw[h3,h5],fun b hb=>?_⟩
  rcases Nat.lt_succ_iff_lt_or_eq.1 hb with hb|rfl
  ·exact h4 b hb
  ·exact h5
theorem SeqI.stable (hd:VD d n k){p:List Nat}(h:SeqI d n k p)(hs:∀ a,a<k->tA d p a=p):p=zU d k:=by
 have h0:∀ i j,i<n->j<n->p.getD i 0=p.getD j 0->∀ a,a<k->p.getD (nx d i a) 0=p.getD (nx d j a) 0:=fun i j hi hj e a ha=>by
  have:=rY hd h.len h.norm (a:=a) hi hj;rw[hs a ha]at this;exact(this.1 e).2
 have key:∀ m i j,i<n->j<n->p.getD i 0=p.getD j 0->(yS d k m).getD i 0=(yS d k m).getD j 0:=by
  intro m
  induction m with
  | zero=>exact fun i j hi hj e=>(pQ hd hi hj).2 (h.fin i j hi hj e)
  | succ m ih =>
   intro i j hi hj e;exact(tR hd (by rw[yR,hd.hn]) (by rw[<- hd.hn];exact qAP d k m) hi hj k (Nat.le_refl _)).2 ⟨ih i j hi hj e,fun a ha=>ih _ _ (qC hd hi ha) (qC hd hj ha) (h0 i j hi hj e a ha)⟩
 refine jD h.norm (vJ d k) ⟨by rw[h.len,sA hd],fun i j hi hj=>?_⟩;rw[h.len]at hi hj;exact⟨fun e=>key _ i j hi hj e,fun e=>h.co i j hi hj e⟩
theorem minN_all (hd:VD d n k)(hr:∀ q,q<n->∃ w,yI k w/\run d (st0 d) w=q):minN d k=cls (zU d k):=by
 have hq:=oC hd;obtain⟨hA,h6⟩:=xK hq;have hl:=sA hd;have hN:=vJ d k;refine Nat.le_antisymm h6 ?_
 have h7:∀ (w:List Nat) (q:Nat),q∈zX (vE d (zU d k)) k->yI k w->run (vE d (zU d k)) q w∈zX (vE d (zU d k)) k:=by
  intro w
  induction w with
  | nil=>exact fun q hq _=>hq
  | cons a w ih =>
   intro q h5 hw;obtain⟨j,hj,e⟩:=List.getElem_of_mem h5;have h1:=hA.cl j a (by omega) hj (hw a (by simp));rw[zG hj,e]at h1;exact ih _ h1 (fun b hb=>hw b (List.mem_cons_of_mem _ hb))
 have h0:st0 (vE d (zU d k))∈zX (vE d (zU d k)) k:=by
  rw[<- hA.hd.2,zG hA.hd.1];exact List.getElem_mem _
 have h4:∀ c,c<cls (zU d k)->c∈zX (vE d (zU d k)) k:=fun c hc=>by
  obtain⟨h1,h2⟩:=qT hN hc;rw[hl]at h2;obtain⟨w,hw,e⟩:=hr _ h2;have h3:=h7 w _ h0 hw;rw[kY,aT hd hl hN (nZ hd) w (qR hd) hw,e,h1]at h3;exact h3
 have:=(List.nodup_range (n:=cls (zU d k))).length_le_of_subset (fun c hc=>h4 c (List.mem_range.1 hc));simpa [minN] using this
theorem SeqI.cls_le (hd:VD d n k){p:List Nat}(h:SeqI d n k p):cls p<=cls (zU d k) :=
 (qAO (p:=p) (q:=zU d k) (by rw[h.len,sA hd]) (fun i j hi hj e=>h.co i j (by rw[<- h.len];exact hi) (by rw[<- h.len];exact hj) e)).1
theorem minQ (hd:VD d n k):minD (vE d (zU d k)) k=minD d k:=by
 refine jF (oC hd) hd fun w hw=>?_;rw[kY,mL hd (qR hd) hw]
end
end Go.Proofs.Ytjfdomfendbhfaa
namespace Go.Proofs.Ytjfdomfendbhfaa
open Go.RowKit
def rO (M:Nat)(p q:List Nat):List Nat:=List.zipWith (fun a b=>a * M+b) p q
theorem tV {M:Nat}{p q:List Nat}(h:q.length=p.length):(rO M p q).length=p.length:=by simp[rO,h]
theorem pairsN_get {M:Nat}{p q:List Nat}(h:q.length=p.length){i:Nat}(hi:i<p.length):(rO M p q).getD i 0=p.getD i 0 * M+q.getD i 0:=by
 rw[zG (by rw[tV h];exact hi),zG hi,zG (show i<q.length by omega)];simp[rO]
theorem pairsN_lt {M c:Nat}{p q:List Nat}(hp:∀ x∈p,x<c)(hq:∀ x∈q,x<M):∀ x∈rO M p q,x<c * M:=by
 intro x hx;obtain⟨i,hi,rfl⟩:=List.getElem_of_mem hx;simp only[rO,List.getElem_zipWith];have h0:i<p.length/\i<q.length:=by simp only[rO,List.length_zipWith]at hi;omega
 have h1:=hp _ (List.getElem_mem h0.1);have h2:=hq _ (List.getElem_mem h0.2)
 generalize p[i]=a at h1 ⊢
 generalize q[i]=b at h2 ⊢
 have:a * M+M<=c * M:=by rw[<- Nat.succ_mul];exact Nat.mul_le_mul_right M h1
 omega
theorem pairs_both8 {M:Nat}{p q:List Nat}(h:q.length=p.length)(hq:∀ x∈q,x<M)(hq2:∀ x∈q,x<p.length):numb (rO M p q)=gL p q:=by
 refine mR _ _ (by rw[tV h,rG h]) fun i j hi hj=>?_;rw[tV h]at hi hj;simp only[rO,mB,List.getElem_zipWith];rw[bL (Nat.le_of_lt (hq2 _ (List.getElem_mem _))) (Nat.le_of_lt (hq2 _ (List.getElem_mem _)))];have h1:=hq _ (List.getElem_mem (show i<q.length by omega));have h2:=hq _ (List.getElem_mem (show j<q.length by omega));constructor
 ·intro e
  have e1:(p[i] * M+q[i]) / M=p[i]:=by rw[Nat.mul_comm,Nat.mul_add_div (by omega),Nat.div_eq_of_lt h1];omega
  have e2:(p[j] * M+q[j]) / M=p[j]:=by rw[Nat.mul_comm,Nat.mul_add_div (by omega),Nat.div_eq_of_lt h2];omega
  have e3:p[i]=p[j]:=by rw[<- e1,<- e2,e]
  rw[e3]at e;exact⟨e3,by omega⟩
 ·rintro ⟨e1,e2⟩;rw[e1,e2]
def numA (L:List Nat)(K:Nat):List Nat:=(List.range K).map fun i=>if i∈L then L.idxOf i+1 else 0
theorem oH (L:List Nat)(K:Nat):(numA L K).length=K:=by simp[numA]
theorem qEV {L:List Nat}{K i:Nat}(hi:i<K):(numA L K).getD i 0=if i∈L then L.idxOf i+1 else 0:=by
 rw[zG (by rw[oH];exact hi)];simp[numA]
theorem numA_nil (K:Nat):numA [] K=List.replicate K 0:=by
 refine List.ext_getElem (by simp[numA]) fun i h1 h2=>by simp[numA]
theorem numA_set {L:List Nat}{K i:Nat}(hi:i ∉ L):(numA L K).set i (L.length+1)=numA (L++[i]) K:=by
 refine List.ext_getElem (by simp[numA]) fun j h1 h2=>?_;rw[List.getElem_set];have hj:j<K:=by simpa [numA] using h2
 simp only[numA,List.getElem_map,List.getElem_range]
 split
 ·rename_i e
  subst e;rw[if_pos (by simp),List.idxOf_append,if_neg hi];simp
 ·rename_i e
  by_cases hj:j∈L
  ·rw[if_pos hj,if_pos (by simp[hj]),List.idxOf_append,if_pos hj]
  ·rw[if_neg hj,if_neg (by simp[hj];omega)]
def midC (l p:List Nat)(k:Nat):List Nat:=(numb l).take k++p.drop k
theorem oL {l p:List Nat}{k:Nat}(h:l.length=p.length)(hk:k<=p.length):(midC l p k).length=p.length:=by simp[midC,yD,h];omega
theorem midC_get {l p:List Nat}{k:Nat}(h:l.length=p.length)(hk:k<p.length):(midC l p k).getD k 0=p.getD k 0:=by
 have hl:((numb l).take k).length=k:=by rw[List.length_take,yD];omega
 rw[List.getD_eq_getElem?_getD,midC,List.getElem?_append_right (by omega),hl];simp[List.getD]
theorem midC_set {l p:List Nat}{k:Nat}(h:l.length=p.length)(hk:k<p.length):(midC l p k).set k ((numb l).getD k 0)=midC l p (k+1):=by
 have hl:((numb l).take k).length=k:=by rw[List.length_take,yD];omega
 rw[midC,List.set_append_right _ _ (by omega),hl,Nat.sub_self,midC,zR (d:=0) (by rw[yD];omega),List.append_assoc];rw[List.drop_eq_getElem_cons hk,List.set_cons_zero];rfl
theorem midC_end {l p:List Nat}{k:Nat}(h:l.length=p.length)(hk:k=p.length):midC l p k=numb l:=by
 subst hk;rw[midC,List.drop_length,List.append_nil,List.take_of_length_le (by rw[yD];omega)]
theorem split_num {am b x K:Nat}(hx:x=am+b)(hxK:x<K)(hK:K<=1000000):wrap64 (am:Int)=(am:Int)/\wrap64 ((am:Int)+(b:Int))=(x:Int)/\IntKind.i64.wrap ((am:Int)+(b:Int))=(x:Int)/\IntKind.i64.wrap (am:Int)=(am:Int):=by
 have e3:(am:Int)+(b:Int)=(x:Int):=by omega
 rw[e3];exact⟨IntWalk.wrap64_in _ (by omega),IntWalk.wrap64_in _ (by omega),wG (by omega),wG (by omega)⟩
theorem qBE (w:World)(g gm n c M:Nat)(p q:List Nat)(hp:p.length=n)(hq:q.length=n)(hpc:∀ x∈p,x<c)(hqM:∀ x∈q,x<M)(hcM:c * M<=1000000)(hc:c<=1000000)(hM:M<=1000000)(hn:n<=1000000)(hgm:g≠gm)(hA:Arr w g 3 (nats p))(hB:Arr w gm 3 (nats q)):
  Calls Try.prog 114 #[.slice (some ⟨g,0,none⟩) n n,.slice (some ⟨gm,0,none⟩) n n,.int .i64 (c:Int),.int .i64 (M:Int)] w fun e w'=>e=.returned (.int .i64 ((cls (numb (rO M p q)):Nat):Int))/\Arr w' g 3 (nats (numb (rO M p q)))/\w.grownBy w' (some g):=by
 have hK:=pairsN_lt hpc hqM;have a3:=tV (M:=M) (p:=p) (q:=q) (by omega);have H8:=Kh (fun(i:Nat) (hi:i<p.length)=>pairsN_get (M:=M) (p:=p) (q:=q) (by omega) hi);obtain⟨l,hl⟩:∃ l,l=rO M p q:=⟨_,rfl⟩;rw[<- hl]at hK a3 H8 ⊢;obtain⟨K,a9⟩:∃ K,K=c * M:=⟨_,rfl⟩;rw[<- a9]at hK hcM;have a0:(c:Int) * (M:Int)=(K:Int):=by rw[a9];simp
 have a8:IntKind.i64.wrap ((c:Int) * (M:Int))=(K:Int):=by rw[a0];exact wG (by omega)
 have h6:=Kh hp;have c7:=Kh hq;have h8:=Kh a3;have HK:=Kh hK;have HA:=Kh hA;have HB:=Kh hB;have d6:=hA.lt;have b8:=hB.lt;have e7:=Kh hqM;have e8:=Kh hpc;clear hp hq a3 hK hA hB hl a9 hqM hpc;go_enter Try.func114,Try.ntmps114;go_wp2_with (first|(at_make;refine nD rfl _ _ _ rfl yP rfl .i64 .i64 _ _ K rfl rfl (by first|exact a0|exact a8|rfl) (by first|exact a0|exact a8|rfl) ?b1 ?b2 ?_;(case b1=>omega);(case b2=>(unfold maxLen;omega));intro w2 H1 b9 d4)|fail);clear a0 a8;obtain⟨NB,a7⟩:∃ b,b=w.heap.size:=⟨_,rfl⟩;rw[<- a7]at H1 ⊢;have c8:=Kh H1;have a2:=Kh b9;have f0:=Kh a7;have a6:g≠NB:=by omega
 have a5:gm≠NB:=by omega
 clear H1 b9 a7
 go_loopg [10,11,12,19] n (fun gh v10 a11 a12 i wr=>∃ (k:Nat),gh+k=n/\i=.int .i64 k/\v10=.int .i64 (((yA (l.take k)).length:Nat):Int)/\Arr wr NB 3 (nats (numA (yA (l.take k)) K))/\Arr wr g 3 (nats (midC l p k))/\Arr wr gm 3 (nats q)/\w.grownBy wr (some g))
 case atStart=>exact⟨0,rfl,rfl,rfl,by rw[show yA (l.take 0)=[] from rfl,numA_nil,yV];exact c8.out,by rw[show midC l p 0=p by simp[midC]];exact HA.out.kept a2.out (by simp),HB.out.kept a2.out (by simp),yQ a2.out⟩
 case round =>
  clear c8 a2;obtain⟨k,hg,rfl,rfl,hN,hC,hQ,a4⟩:=hrel;have HG:=Kh hg;have HN:=Kh hN;have HC:=Kh hC;have HQ:=Kh hQ;have b0:=Kh a4;clear hg;by_cases hk:k<n
  ·have d5:(k:Int)<n:=by omega
   have h9:k<p.length:=(by rw[h6.out];exact hk);have H4:k<l.length:=(by rw[h8.out];exact h9);have c1:=Arr.nat hC (i:=k) (by rw[oL h8.out (by omega)];exact h9);rw[midC_get h8.out h9]at c1;have c2:=Arr.nat hQ (i:=k) (by rw[c7.out];exact hk);have hx:=H8.out k h9;have h5:l.getD k 0<K:=HK.out _ (by rw[zG H4];exact List.getElem_mem _);have c3:=Arr.nat hN (i:=l.getD k 0) (by rw[oH];exact h5);rw[qEV h5]at c3;have fN:=hN.frozen (l.getD k 0);have fC:=hC.frozen k;have H5:=kE H4;have h0:=bR H4;rw[<- zG (d:=0) H4]at H5 h0;have b6:=midC_set h8.out h9;have c0:(yA (l.take k)).length<=k:=by have:=vZ (l.take k);rw[List.length_take]at this;omega
   obtain⟨x,b3⟩:∃ x,x=l.getD k 0:=⟨_,rfl⟩;obtain⟨a,ha⟩:∃ a,a=p.getD k 0:=⟨_,rfl⟩;obtain⟨b,hb⟩:∃ b,b=q.getD k 0:=⟨_,rfl⟩;obtain⟨F,hF⟩:∃ F,F=yA (l.take k):=⟨_,rfl⟩;rw[<- b3]at hx h5 c3 fN H5 h0;rw[<- ha]at c1 hx;rw[<- hb]at c2 hx;rw[<- hF]at c3 H5 h0 c0 HN;have d1:=Kh H5;have c9:=Kh b6;have f2:=Kh hF;have e3:a<c:=(by rw[ha];exact e8.out _ (by rw[zG h9];exact List.getElem_mem _));have d9:b<M:=(by rw[hb];exact e7.out _ (by rw[zG (show k<q.length by rw[c7.out];exact hk)];exact List.getElem_mem _));have d3:(x:Int)<K:=(by exact_mod_cast h5);have c4:a * M<=1000000:=Nat.le_trans (Nat.le_trans (hx ▸ Nat.le_add_right _ _) (Nat.le_of_lt h5)) hcM;obtain⟨am,H2⟩:∃ am,am=a * M:=⟨_,rfl⟩;have e1:(a:Int) * (M:Int)=(am:Int):=by rw[H2];simp
   rw[<- H2]at hx c4;have E1:=Kh e1;clear e1 H2;obtain⟨e5,e6,e4,e0⟩:=split_num hx h5 hcM;have e2:IntKind.i64.wrap ((a:Int) * (M:Int))=(am:Int):=by rw[E1.out];exact e0
   clear hx b6 H5 b3 ha hb hF e3 d9 c4 h9 H4 hN hC hQ a4 e0;rw[<- f2.out];by_cases hm:x∈F
   ·rw[if_pos hm]at c3 h0
    have HM:=Kh hm;obtain⟨y,hy⟩:∃ y,y=F.idxOf x:=⟨_,rfl⟩;have f9:y<F.length:=(by rw[hy];exact List.idxOf_lt_length_of_mem hm);rw[<- hy]at c3 h0;have h7:=Kh h0;have b5:¬ ((y+1:Nat):Int)=0:=by omega
    clear hm hy h0;obtain⟨z,hz⟩:∃ z,z=y+1:=⟨_,rfl⟩;rw[<- hz]at c3 b5;have f8:((z:Int) == 0)=false:=by rw[beq_eq_false_iff_ne];exact b5
    have d2:(z:Int) - 1=(y:Int):=by omega
    have f7:IntKind.i64.wrap ((z:Int) - 1)=(y:Int):=by rw[d2];exact wG (by omega)
    have HZ:=Kh hz;clear hz;have e1:=E1.out;go_wp2
    go_quiet (fail)
    go_wp2;go_roundg (n - (k+1))
    case measure=>have:=HG.out;omega
    case rel =>
     have d8:∀ W:World,W.heap=wr.heap->W.os=wr.os->W.tape=wr.tape->W.output=wr.output->wr.grownBy (W.setCell ⟨g,k,none⟩ (.int .i64 (y:Int))) (some g):=fun W h1 h2 h3 h4=>zD (vI (zM wr (some g)) h2 h3 h4 h1) (zC W _ _);have H0:=d8 (wr.drewN nq) rfl rfl rfl rfl;have H6:yA (l.take (k+1))=F:=by rw[d1.out,uE HM.out]
     refine⟨k+1,by have:=HG.out;omega,by go_num,by rw[H6],?_,?_,HQ.out.kept H0 (fun e=>hgm (Oj e)),zD b0.out H0⟩
     ·rw[H6];exact HN.out.kept H0 (fun e=>a6 (Oj e))
     ·rw[<- c9.out,h7.out]
      exact(HC.out.of_heap rfl).nat_set k (by rw[oL h8.out (by rw[h6.out];omega),h6.out];exact hk) y
   ·rw[if_neg hm]at c3 h0
    have HM:=Kh hm;have h7:=Kh h0;obtain⟨L,hL⟩:∃ L,L=F.length:=⟨_,rfl⟩;rw[<- hL]at c0 h0 h7 ⊢;have a1:=Kh hL;have g0:L<=1000000:=by omega
    clear hm h0 hL;have e1:=E1.out;go_upto_region 6 with fail
    go_quiet (fail)
    go_upto_region 10 with fail;have H9:wr.grownBy ((wr.drewN nq).setCell ⟨NB,x,none⟩ (.int .i64 ((L:Int)+1))) (some NB):=zD (zN wr nq (some NB)) (zC (wr.drewN nq) ⟨NB,x,none⟩ _);have H3:=((HN.out.of_heap (w':=wr.drewN nq) rfl).nat_set x (by rw[oH];exact h5) (L+1));rw[a1.out,numA_set HM.out,<- a1.out]at H3;rw[show ((L+1:Nat):Int)=(L:Int)+1 by omega]at H3;obtain⟨w5,b4⟩:∃ w5,w5=(wr.drewN nq).setCell ⟨NB,x,none⟩ (.int .i64 ((L:Int)+1)):=⟨_,rfl⟩;rw[<- b4]at H9 H3 ⊢;have f1:=Kh H3;have d0:=Kh H9
    have c5:w5.cell? ⟨NB,x,none⟩=some (.int .i64 ((L:Int)+1)):=by
     have:=Arr.nat H3 x (by rw[oH];exact h5);rw[qEV h5,if_pos (by simp),List.idxOf_append,if_neg HM.out]at this;rw[this];simp[a1.out]
    have H7:=HC.out.kept H9 (fun e=>a6 (Oj e).symm);have f5:=H7.frozen k;have c6:=Arr.nat H7 k (by rw[oL h8.out (by rw[h6.out];omega),h6.out];exact hk);have d7:=H7.lt;have f6:=Kh H7;have e9:(L:Int)+1 - 1=(L:Int):=by omega
    have e10:wrap64 (L:Int)=(L:Int):=IntWalk.wrap64_in _ (by omega);clear b4 H9 H3 H7 c1 c2 c3 fN fC e1 e2 e4 e5 e6;go_wp2;go_roundg (n - (k+1))
    case measure=>have:=HG.out;omega
    case rel =>
     have H0:=zC w5 ⟨g,k,none⟩ (.int .i64 (L:Int));have H6:yA (l.take (k+1))=F++[x]:=by rw[d1.out,wO HM.out]
     refine⟨k+1,by have:=HG.out;omega,by go_num,by rw[H6,List.length_append,<- a1.out];simp,?_,?_,(HQ.out.kept d0.out (fun e=>a5 (Oj e).symm)).kept H0 (fun e=>hgm (Oj e)),zD (zB b0.out d0.out (fun j e=>by have e:NB=j:=Oj e;have:=f0.out;omega)) H0⟩
     ·rw[H6];exact f1.out.kept H0 (fun e=>a6 (Oj e))
     ·rw[<- c9.out,h7.out]
      exact f6.out.nat_set k (by rw[oL h8.out (by rw[h6.out];omega),h6.out];exact hk) L
  ·have b7:k=n:=by have:=HG.out;omega
   have d5:¬ (k:Int)<n:=(by omega);have HE:Hid (l.take k=l):=Kh (List.take_of_length_le (by rw[h8.out,h6.out];omega));have f3:Hid (midC l p k=numb l):=Kh (midC_end h8.out (by rw[h6.out];exact b7));have f4:=Kh (qFQ l);rw[f3.out]at HC;clear b7 a4 hN hC hQ;go_wp2;go_ret;exact⟨by rw[f4.out,HE.out];rfl,HC.out,b0.out⟩
end Go.Proofs.Ytjfdomfendbhfaa
