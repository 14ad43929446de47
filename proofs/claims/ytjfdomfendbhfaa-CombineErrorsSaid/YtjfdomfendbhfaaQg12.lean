/- Part 12 of the proof. -/
import Derived.Test.YtjfdomfendbhfaaQg11
import Derived.Deep.OwnRows
import Derived.BigRegion
import Derived.Deep.DeepCutAuto
import Derived.BigQuiet
set_option linter.unusedVariables false
set_option linter.unusedSimpArgs false
set_option maxRecDepth 100000
set_option maxHeartbeats 16000000
namespace Go.Proofs.Ytjfdomfendbhfaa
open Go.RowKit
def xF (bs:List ByteArray)(letters:Int):DfaV:=if patW bs letters=0 then minD (patD letters.toNat (bs.map zI)) letters.toNat else qHB
def nthL (bs:List ByteArray)(i:Nat):List Nat:=zI (bs.getD i ⟨#[]⟩)
def pA (bs:List ByteArray):List (List Nat):=((bs.map zI).drop 1).dropLast
theorem nthL_get {bs:List ByteArray}{i:Nat}(h:i<bs.length):(bs.map zI).getD i []=nthL bs i:=by
 rw[zG (by simpa using h),nthL,zG h];simp
theorem nQ (bs:List ByteArray):(pA bs).length=bs.length - 1 - 1:=by simp[pA]
theorem midsL_get {bs:List ByteArray}{i:Nat}(h:i<bs.length - 1 - 1):(pA bs).getD i []=nthL bs (1+i):=by
 rw[zG (by rw[nQ];exact h),nthL,zG (show 1+i<bs.length by omega)];simp[pA,Nat.add_comm]
theorem rows_one {k:Nat}{bs:List ByteArray}(h:bs.length=1):xY k (bs.map zI)=[List.replicate k 0]++qG k (nthL bs 0) (nthL bs 0).length++[List.replicate k 0]:=by
 match bs,h with
 | [b],_=>rfl
theorem rows_more {k:Nat}{bs:List ByteArray}(h:2<=bs.length):xY k (bs.map zI)=[List.replicate k 0]++qG k (nthL bs 0) (nthL bs 0).length++midN k (1+(nthL bs 0).length) (pA bs)++sufN k (1+(nthL bs 0).length+yG (pA bs)) (nthL bs (bs.length - 1)):=by
 match bs,h with
 | b::c::rest,_ =>
  have e:((c::rest).map zI).getLastD []=nthL (b::c::rest) ((b::c::rest).length - 1):=by
   rw[List.getLastD_eq_getLast?,List.getLast?_eq_getElem?,nthL];simp only[List.length_map,List.length_cons,List.getElem?_map];rw[show rest.length+1+1 - 1=rest.length+1 by omega,show rest.length+1 - 1=rest.length by omega];have h2:rest.length<(c::rest).length:=(by simp);rw[List.getElem?_eq_getElem h2,zG (show rest.length+1<(b::c::rest).length by simp)];rfl
  show [List.replicate k 0]++qG k (zI b) (zI b).length++midN k (1+(zI b).length) ((c::rest).map zI).dropLast++sufN k (1+(zI b).length+yG ((c::rest).map zI).dropLast) (((c::rest).map zI).getLastD [])=_;rw[e];rfl
theorem mids_sum {bs:List ByteArray}(i:Nat):yG ((pA bs).take i)+(nthL bs 0).length<=sG bs:=by
 rw[tK];have h1:=pB (pA bs) i
 match bs with
 | []=>simp[pA,yG,nthL,zI]at h1 ⊢
 | b::rest =>
  have h2:yG (pA (b::rest))<=yG (rest.map zI):=by
   show yG (rest.map zI).dropLast<=_;rw[List.dropLast_eq_take];exact pB _ _
  rw[List.map_cons,vQ];show _+(zI b).length<=_;omega
theorem BB.mat {W0 W:World}{bb k:Nat}{t:List (List Nat)}{gs:List Nat}{sn:Option Addr}{cn:Nat}(h:BB W0 W bb k t gs sn cn)(hk:k<=maxLen):Mat W.heap.size W (.slice sn t.length cn) (t.map zl):=by
 refine Mat.of_rows (B:=W.heap.size) h.own ⟨by rw[List.length_map,List.length_map,h.len],fun i h1 h2=>?_⟩ (Nat.le_refl _);have hi:i<t.length:=by simpa using h2
 have hg:i<gs.length:=by rw[h.len];exact hi
 obtain⟨ha,hl⟩:=h.row i hi;have:=(RowX.of_arr (X:=fun _=>True) ha (by rw[zT];exact hl) hk trivial).1;rw[zG hg,zG hi]at this;simp only[List.getElem_map];have e:ints (zl t[i])=nats t[i]:=by simp[ints,zl,nats]
 rw[e];exact this
structure NewD (wo W:World)(T F k RL:Nat)(sn:Option Addr)(cn:Nat):Prop where
 box:W.heap[T]?=some (.cells #[.int .i64 (k:Int),.int .i64 1,.slice (some ⟨F,0,none⟩) RL RL,.slice sn RL cn] 42 (0,0))
 arr:Arr W F 4 (bls (List.replicate RL false))
 grown:wo.grownBy W none
 lo:wo.heap.size<=T/\wo.heap.size<=F
theorem qIL (wo:World)(k RL:Nat)(sn:Option Addr)(cn:Nat):NewD wo (((wo.alloc (.cells (madeCells #[.bool false] RL) 4)).alloc (.cells #[.int .i64 (k:Int),.int .i64 1,.slice (some ⟨wo.heap.size,0,none⟩) RL RL,.slice sn RL cn] 42)).drew) (wo.heap.size+1) wo.heap.size k RL sn cn:=by
 have a1:=Arr.new wo 4 (madeCells #[.bool false] RL);rw[qBG]at a1;exact⟨pM wo _ _,(a1.kept (Ga _ (.cells #[.int .i64 (k:Int),.int .i64 1,.slice (some ⟨wo.heap.size,0,none⟩) RL RL,.slice sn RL cn] 42) none) (by simp)).of_heap rfl,zA (wL (Ga wo _ none) _) (zO _ none) (by simp),by omega⟩
theorem qIK (wo:World)(k RL:Nat)(sn:Option Addr)(cn:Nat):NewD wo (((wo.alloc (.cells #[.int .i64 (k:Int),.int .i64 1,.slice (some ⟨wo.heap.size+1,0,none⟩) RL RL,.slice sn RL cn] 42)).alloc (.cells (madeCells #[.bool false] RL) 4)).drew) wo.heap.size (wo.heap.size+1) k RL sn cn:=by
 have a1:=Arr.new (wo.alloc (.cells #[.int .i64 (k:Int),.int .i64 1,.slice (some ⟨wo.heap.size+1,0,none⟩) RL RL,.slice sn RL cn] 42)) 4 (madeCells #[.bool false] RL);rw[qBG,zJ]at a1;exact⟨pO wo _ _,a1.of_heap rfl,zA (wL (Ga wo _ none) _) (zO _ none) (by simp),by omega⟩
theorem kL {W0 W:World}{bb k F RL:Nat}{bs:List ByteArray}{gs:List Nat}{sn:Option Addr}{cn:Nat}(h:BB W0 W bb k (xY k (bs.map zI)) gs sn cn)(hk:k<=6)(hR:RL=(xY k (bs.map zI)).length)(h0:0<RL)(ha:Arr W F 4 (bls ((List.replicate RL false).set (RL - 1) true)))(hRm:RL<=maxLen):uW W.heap.size W (.agg #[.int .i64 (k:Int),.int .i64 1,.slice (some ⟨F,0,none⟩) RL RL,.slice sn RL cn]) (patD k (bs.map zI)):=by
 have hm:=h.mat (by unfold maxLen;omega);rw[qCM,<- hR]at hm;have hl:(tU k (bs.map zI)).length=RL:=by rw[<- qCM,List.length_map,hR]
 have hf:(List.replicate RL false).set (RL - 1) true=(patD k (bs.map zI)).final:=by
  show _=List.replicate ((tU k (bs.map zI)).length - 1) false++[true];rw[hl];obtain⟨r,rfl⟩:∃ r,RL=r+1:=⟨RL - 1,by omega⟩;rw[List.replicate_succ',List.set_append_right _ _ (by simp)];simp
 refine⟨_,_,rfl,?_,hm⟩;rw[<- hf];have:=(RowX.of_arr (X:=fun _=>True) ha (by rw[yL,List.length_set,List.length_replicate]) hRm trivial).1;exact this.row
theorem lN {k:Nat}{bs:List ByteArray}(hk1:1<=k)(hk6:k<=6)(h0:0<bs.length)(ht:sG bs<=64):VD (patD k (bs.map zI)) (xY k (bs.map zI)).length k:=by
 match bs,h0 with
 | b::rest,_ =>
  rw[tK,List.map_cons,vQ]at ht;rw[List.map_cons,nK];exact pat_vd hk1 hk6 ht
theorem pdfa_anyT (B:Nat)(w:World)(v:Value)(bs:List ByteArray)(letters:Int)(h:Row B w v (txtV bs))(hB:B<=w.heap.size)(hs:∀ i (hi:i<bs.length),bs[i].size<=maxLen):Calls Try.prog 83 #[.agg #[v],.int .i64 letters] w (aW w (patW bs letters) (xF bs letters)):=by
 have H:=Kh h;have HS:=Kh hs;obtain⟨a,cap,rfl⟩:=h.shape;rw[zX]at H ⊢
 obtain⟨e6,c6,f9,j2⟩:((w.alloc (.cells #[.slice a bs.length cap] 28)).alloc (.cells #[.int .i64 0,.int .i64 0,.slice none 0 0,.slice none 0 0] 42)).heap[w.heap.size]?=some (.cells #[.slice a bs.length cap] 28 (0,0))/\((w.alloc (.cells #[.slice a bs.length cap] 28)).alloc (.cells #[.int .i64 0,.int .i64 0,.slice none 0 0,.slice none 0 0] 42)).heap[w.heap.size+1]?=some (.cells #[.int .i64 0,.int .i64 0,.slice none 0 0,.slice none 0 0] 42 (0,0))/\w.grownBy ((w.alloc (.cells #[.slice a bs.length cap] 28)).alloc (.cells #[.int .i64 0,.int .i64 0,.slice none 0 0,.slice none 0 0] 42)) none/\((w.alloc (.cells #[.slice a bs.length cap] 28)).alloc (.cells #[.int .i64 0,.int .i64 0,.slice none 0 0,.slice none 0 0] 42)).heap.size=w.heap.size+2 :=
  ⟨pO w _ _,pM w _ _,wL (Ga w _ none) _,by rw[zJ,zJ]⟩
 obtain⟨wA,i4⟩:∃ wA,wA=(w.alloc (.cells #[.slice a bs.length cap] 28)).alloc (.cells #[.int .i64 0,.int .i64 0,.slice none 0 0,.slice none 0 0] 42):=⟨_,rfl⟩;rw[<- i4]at e6 c6 f9 j2;obtain⟨P,hP⟩:∃ P,P=w.heap.size:=⟨_,rfl⟩;obtain⟨Q,hQ⟩:∃ Q,Q=w.heap.size+1:=⟨_,rfl⟩;have l4:=Kh hP;have l3:Hid (Q=P+1):=Kh (by omega);have n3:P<Q:=by omega
 have n0:Q<wA.heap.size:=by omega
 have n2:w.heap.size<=P:=by omega
 rw[<- hQ]at c6;rw[<- hP]at e6 hB;have c0:wA.cell? ⟨P,0,none⟩=some (.slice a bs.length cap):=by simpa using zH e6 0 (by simp)
 have m2:=Kh e6;have m1:=Kh c6;have l7:=Kh f9;have l1:=Kh i4;have k1:=Kh (kJ B wA _ bs letters (H.out.kept f9 (by simp)) hs);rw[show Row B w (.slice a bs.length cap) (txtV bs)=Row B w (.slice a bs.length cap) (txtV bs) from rfl]at H;clear e6 c6 f9 i4 h hs hP hQ j2;go_enter Try.func83,Try.ntmps83;go_upto_region 1 with fail;rw[<- l1.out,<- l4.out,<- l3.out];go_wp2_with fail;refine k1.out.mono ?_;rintro e w1 ⟨rfl,e3⟩;have m3:=e3.size;have d8:=Kh (zA l7.out e3 (by simp));have j1:=Kh (zB m2.out e3 (by simp));have H5:=Kh (zB m1.out e3 (by simp));have q1:=zF H5.out;have f0:=zE H5.out 0;have f1:=zE H5.out 1;have f2:=zE H5.out 2;have f3:=zE H5.out 3;clear e3 k1 c0;by_cases hE:patW bs letters=0
 case neg =>
  have HD:Hid (xF bs letters=qHB):=Kh (if_neg hE);obtain⟨E,i6⟩:∃ E,E=patW bs letters:=⟨_,rfl⟩;rw[<- i6]at hE ⊢;have e1:(E != 0)=true:=by rw[bne_iff_ne];exact hE
  obtain⟨q0,q1,q2,q3⟩:=q1;have l9:=Kh i6;clear hE i6;go_wp2;obtain⟨a0,H9⟩:=uF H5.out (.int .i64 0) (.int .i64 0) (.slice none 0 0) (.slice none 0 0);obtain⟨wz,a5⟩:∃ wz,wz=(((w1.setCell ⟨Q,0,none⟩ (.int .i64 0)).setCell ⟨Q,1,none⟩ (.int .i64 0)).setCell ⟨Q,2,none⟩ (.slice none 0 0)).setCell ⟨Q,3,none⟩ (.slice none 0 0):=⟨_,rfl⟩;rw[<- a5]at a0 H9 ⊢;clear a5;obtain⟨r0,r1,r2,r3⟩:=zF a0;clear q0 q1 q2 q3 f0 f1 f2 f3;refine bodyPost_ret (v:=.tuple #[.agg #[.int .i64 0,.int .i64 0,.slice none 0 0,.slice none 0 0],.int .i64 E]) (by simp[results,Try.results83,go_sem,r0,r1,r2,r3]) rfl ?_;exact⟨_,_,by rw[l9.out,HD.out];rfl,by rw[HD.out];exact DfaT.zero _,zA d8.out H9 (fun k e=>by have h7:Q=k:=Oj e;omega)⟩
 rw[hE];clear q1 f0 f1 f2 f3;obtain⟨c4,a6,b1,m4,a8,j3,j6⟩:=qCN (vW.1 hE);obtain⟨k,hk⟩:∃ k:Nat,letters=(k:Int):=⟨letters.toNat,by omega⟩
 have HD:Hid (xF bs letters=minD (patD k (bs.map zI)) k):=Kh (by
  rw[xF,if_pos hE,hk,Int.toNat_natCast])
 subst hk;have c4:1<=k:=by omega
 have a6:k<=6:=by omega
 obtain⟨b,off,_,ea,m9,k9,j9,j4⟩:=H.out.some_ (by rw[zX];exact b1);rw[zX]at ea k9;simp only[Value.slice.injEq]at ea;obtain⟨rfl,_,rfl⟩:=ea;have m8:cap<=9223372036854775807:=by unfold maxLen at j9;omega
 have d5:Hid (∀ W:World,w1.grownBy W none->∀ i,i<bs.length->W.cell? ⟨b,off+i,none⟩=some (.string (bs.getD i ⟨#[]⟩))):=Kh (fun W hg i hi=>vU ((j4.kept d8.out (by simp)).kept hg (by simp)) i hi)
 have e7:Hid (∀ i,i<bs.length->zY (bs.getD i ⟨#[]⟩) (k:Int)=true/\(bs.getD i ⟨#[]⟩).size<=64):=Kh (fun i hi=>by
  rw[zG hi];exact⟨j3 i hi,by have:=total_get hi;omega⟩)
 have l5:Hid (∀ i,i<bs.length->0<i->i+1<bs.length->0<(bs.getD i ⟨#[]⟩).size):=Kh (fun i hi h0 h1=>by rw[zG hi];exact j6 i hi h0 h1);have HE:=Kh hE;clear hE j3 j6 j4 j9;have i7:Hid (∀ W:World,w1.grownBy W none->W.cell? ⟨P,0,none⟩=some (.slice (some ⟨b,off,none⟩) bs.length cap)):=Kh (fun W hg=>by simpa using zH (zB j1.out hg (by simp)) 0 (by simp));obtain⟨bb,i2⟩:∃ bb,bb=w1.heap.size:=⟨_,rfl⟩;obtain⟨w2,g3⟩:∃ w2,w2=w1.alloc (.cells #[.int .i64 (k:Int),.slice none 0 0] 162):=⟨_,rfl⟩;have i0:=Ga w1 (.cells #[.int .i64 (k:Int),.slice none 0 0] 162) none;have c6:=heap_alloc_new w1 (.cells #[.int .i64 (k:Int),.slice none 0 0] 162);rw[<- g3]at i0 c6;rw[<- i2]at c6;have f5:Hid (BB w1 w2 bb k [] [] none 0):=Kh (BB.start c6 (by omega) i0);have l2:=Kh g3;have k4:=Kh i2;clear i0 c6 g3 i2;have n1:Q<bb:=by have:=k4.out;omega
 go_upto_region 5 with fail;rw[<- l2.out,<- k4.out];go_wp2_with fail;refine(oL w1 w2 bb k [] [] none 0 0 f5.out c4 a6 (by simp)).mono ?_;rintro e w3 ⟨g0,sn3,cn3,rfl,g2⟩;have p3:=i7.out _ g2.grown;have s3:=d5.out _ g2.grown 0 b1;rw[Nat.add_zero]at s3;obtain⟨u0,g4⟩:∃ u,u=bs.getD 0 ⟨#[]⟩:=⟨_,rfl⟩;rw[<- g4]at s3;have k2:=Kh g4;have k5:=Kh g2;clear g4 g2 f5;go_wp2_with fail;have f8:=e7.out 0 b1;rw[<- k2.out]at f8;refine(bprefix_any w1 w3 bb k _ _ sn3 cn3 u0 k5.out (by simp) c4 a6 f8.1 f8.2).mono ?_;rintro e w4 ⟨gs4,sn4,cn4,rfl,e5⟩
 have e4:[]++[List.replicate k 0]++qG k (zI u0) u0.size=[List.replicate k 0]++qG k (nthL bs 0) (nthL bs 0).length:=by
  rw[nthL,<- k2.out,yQ];rfl
 rw[e4]at e5;have p4:=i7.out _ e5.grown;have f7:=Kh e5;have l8:=Kh e5.grown;clear e5 e4 p3 s3 f8 k5;by_cases h1:bs.length=1
 ·have l0:((bs.length:Int) - 1 == 0)=true:=by simp[h1]
  have H1:=Kh h1;clear h1;go_wp2_with fail
  refine(oL w1 w4 bb k _ gs4 sn4 cn4 0 f7.out c4 a6 (by
   have h9:=(e7.out 0 b1).2;have e9:([List.replicate k 0]++qG k (nthL bs 0) (nthL bs 0).length).length=1+(bs.getD 0 ⟨#[]⟩).size:=by simp[qG,nthL,yQ];omega
   omega)).mono ?_
  rintro e w5 ⟨g5,sn5,cn5,rfl,c5⟩;have er:[List.replicate k 0]++qG k (nthL bs 0) (nthL bs 0).length++[List.replicate k 0]=xY k (bs.map zI):=(rows_one H1.out).symm;rw[er]at c5;obtain⟨gs5,e2⟩:∃ l,l=gs4++[g5]:=⟨_,rfl⟩;rw[<- e2]at c5;have b0:=Kh c5;clear c5 er f7 e2;obtain⟨c50,c51,c5f⟩:=b0.out.cells;have g7:=nL (k:=k) b1 a8;obtain⟨RL,d2⟩:∃ RL,RL=(xY k (bs.map zI)).length:=⟨_,rfl⟩;rw[<- d2]at c51 g7;have a9:=Kh d2;have d9:=qGB RL (by omega);have a0:=zK b0.out.box;obtain⟨wo,rfl⟩:∃ wo:World,wo=w5:=⟨_,rfl⟩;clear d2;go_wp2_with fail
  go_region
  ·obtain⟨w7,a1⟩:∃ w7,w7=((wo.alloc (.cells (madeCells #[.bool false] RL) 4)).alloc (.cells #[.int .i64 (k:Int),.int .i64 1,.slice (some ⟨wo.heap.size,0,none⟩) RL RL,.slice sn5 RL cn5] 42)).drew:=⟨_,rfl⟩
   have h8:=qIL wo k RL sn5 cn5;rw[<- a1]at h8 ⊢;obtain⟨T,hT⟩:∃ T,T=wo.heap.size+1:=⟨_,rfl⟩;obtain⟨F,hF⟩:∃ F,F=wo.heap.size:=⟨_,rfl⟩;rw[<- hT]at h8 ⊢;rw[<- hF]at h8 ⊢;have d1:T≠F:=(by omega);clear hT hF;have h4:=Kh h8;have d4:=Kh a1;clear h8 a1 c50 c51 c5f d9;have h2:=Kh (b0.out.grow h4.out.grown);obtain⟨b70,b71,b7f⟩:=h2.out.cells;rw[<- a9.out]at b71;obtain⟨t70,t71,t72,t73⟩:=zF h4.out.box;obtain⟨R1,b6⟩:∃ R1,R1=RL - 1:=⟨_,rfl⟩;have e71:(RL:Int) - 1=(R1:Int):=by omega
   have e72:IntKind.i64.wrap ((RL:Int) - 1)=(R1:Int):=by rw[e71];exact sO (by omega)
   have H3:R1<RL:=(by omega);have b5:(R1:Int)<RL:=(by omega);have cF:=h4.out.arr.bool R1 (by rw[List.length_replicate];exact H3);have fF:=h4.out.arr.frozen R1;have i1:(bls (List.replicate RL false)).length=RL:=by rw[yL,List.length_replicate]
   have d6:=Kh b6;clear b6;go_wp2_with fail
   go_region
   obtain⟨w8,H6⟩:∃ w8,w8=(w7.setCell ⟨F,R1,none⟩ (.bool true)).drew:=⟨_,rfl⟩;have h5:w7.grownBy w8 (some F):=by rw[H6];exact zA (zC w7 ⟨F,R1,none⟩ _) (zO _ none) (by simp)
   have b4:Arr w8 F 4 (bls ((List.replicate RL false).set (RL - 1) true)):=by
    rw[H6,<- d6.out];exact(h4.out.arr.bool_set R1 (by rw[List.length_replicate];exact H3) true).of_heap rfl
   have i5:w7.heap.size<=w8.heap.size:=h5.size;obtain⟨cF8,rF8,h3,_⟩:=h4.out.arr
   have a3:BB w1 w8 bb k (xY k (bs.map zI)) gs5 sn5 cn5:=by
    refine⟨zB h2.out.box h5 ?_,h2.out.own.kept h5 (.inr (zQ h2.out.own h3 (by decide))),h2.out.len,fun i hi=>⟨(h2.out.row i hi).1.kept h5 ?_,(h2.out.row i hi).2⟩,h2.out.nd,h2.out.lo,h2.out.glo,zA h2.out.grown h5 (fun q e=>?_)⟩
    ·intro e
     have e:=Oj e;rw[e,h2.out.box]at h3;simp only[Option.some.injEq,Obj.cells.injEq]at h3;exact absurd h3.2.1 (by decide)
    ·intro e
     have e:=Oj e;obtain⟨cu,rs,a2,_⟩:=(h2.out.row i hi).1;rw[<- e,h3]at a2;simp only[Option.some.injEq,Obj.cells.injEq]at a2;exact absurd a2.2.1 (by decide)
    ·have e:F=q:=Oj e
     have:=h4.out.lo;have:=b0.out.grown.size;omega
   have H0:=kL a3 a6 a9.out (by omega) b4 (by unfold maxLen;omega);have H7:=lN c4 a6 b1 a8;rw[<- a9.out]at H7;have b9:=Kh (kK w8.heap.size w8 _ (patD k (bs.map zI)) RL k (Nat.le_refl _) H0 H7 (by omega));obtain⟨t80,t81,t82,t83⟩:=zF (zB h4.out.box h5 (fun e=>d1 (Oj e).symm));have H4:Hid (w1.grownBy w8 none):=Kh a3.grown;have a4:Hid ((minD (patD k (bs.map zI)) k).letters=k/\(minD (patD k (bs.map zI)) k).start=0):=Kh ⟨(iJ H7).hk,rfl⟩;rw[<- H6];clear H6 h5 b4 h3 a3 H0 H7 t70 t71 t72 t73 b70 b71 b7f cF fF h2 h4 d4;go_wp2_with fail;refine b9.out.mono ?_;rintro e w9 ⟨v9,rfl,b3,b2⟩;have H8:=Kh b3;obtain⟨o9,g6,sf9,cf9,sn9,cn9,rfl,g8,H2⟩:=b3;obtain⟨R,hR⟩:∃ R,R=minD (patD k (bs.map zI)) k:=⟨_,rfl⟩;rw[<- hR]at H2 H8 a4 ⊢;rw[a4.out.1,a4.out.2]at H8 ⊢;obtain⟨FL,b8⟩:∃ FL,FL=R.final.length:=⟨_,rfl⟩;obtain⟨NL,b7⟩:∃ NL,NL=R.next.length:=⟨_,rfl⟩;rw[<- b8,<- b7]at H8 ⊢;have HR:=Kh hR;have c2:=Kh (zA H4.out b2 (by simp));have h6:=zB H5.out c2.out (by simp);have c3:=Kh h6;obtain⟨q0,q1,q2,q3⟩:=zF h6;have f0:=zE h6 0;have f1:=zE h6 1;have f2:=zE h6 2;have f3:=zE h6 3;have d3:Q<w8.heap.size:=(by have:=H4.out.size;omega);clear H2 b8 b7 hR b2 h6 t80 t81 t82 t83 b9;go_wp2;obtain⟨a0,H9⟩:=uF c3.out (.int .i64 (k:Int)) (.int .i64 0) (.slice sf9 FL cf9) (.slice sn9 NL cn9);obtain⟨wz,a5⟩:∃ wz,wz=(((w9.setCell ⟨Q,0,none⟩ (.int .i64 (k:Int))).setCell ⟨Q,1,none⟩ (.int .i64 0)).setCell ⟨Q,2,none⟩ (.slice sf9 FL cf9)).setCell ⟨Q,3,none⟩ (.slice sn9 NL cn9):=⟨_,rfl⟩;rw[<- a5]at a0 H9 ⊢;clear a5;obtain⟨r0,r1,r2,r3⟩:=zF a0;clear q0 q1 q2 q3 f0 f1 f2 f3;refine bodyPost_ret (v:=.tuple #[.agg #[.int .i64 (k:Int),.int .i64 0,.slice sf9 FL cf9,.slice sn9 NL cn9],.int .i64 0]) (by simp[results,Try.results83,go_sem,r0,r1,r2,r3]) rfl ?_;have d0:=H8.out.far H9 c3.out d3;obtain⟨fv9,nv9,c8,c9⟩:=d0.t;refine⟨fv9,nv9,?_,?_,zA (zA d8.out c2.out (by simp)) H9 (fun q e=>by have h7:Q=q:=Oj e;omega)⟩
   ·rw[HE.out,HD.out,<- HR.out,<- c8]
   ·rw[HD.out,<- HR.out];exact c9
  ·obtain⟨w7,a1⟩:∃ w7,w7=((wo.alloc (.cells #[.int .i64 (k:Int),.int .i64 1,.slice (some ⟨wo.heap.size+1,0,none⟩) RL RL,.slice sn5 RL cn5] 42)).alloc (.cells (madeCells #[.bool false] RL) 4)).drew:=⟨_,rfl⟩
   have h8:=qIK wo k RL sn5 cn5;rw[<- a1]at h8 ⊢;obtain⟨T,hT⟩:∃ T,T=wo.heap.size:=⟨_,rfl⟩;obtain⟨F,hF⟩:∃ F,F=wo.heap.size+1:=⟨_,rfl⟩;rw[<- hF]at h8 ⊢;rw[<- hT]at h8 ⊢;have d1:T≠F:=(by omega);clear hT hF;have h4:=Kh h8;have d4:=Kh a1;clear h8 a1 c50 c51 c5f d9;have h2:=Kh (b0.out.grow h4.out.grown);obtain⟨b70,b71,b7f⟩:=h2.out.cells;rw[<- a9.out]at b71;obtain⟨t70,t71,t72,t73⟩:=zF h4.out.box;obtain⟨R1,b6⟩:∃ R1,R1=RL - 1:=⟨_,rfl⟩;have e71:(RL:Int) - 1=(R1:Int):=by omega
   have e72:IntKind.i64.wrap ((RL:Int) - 1)=(R1:Int):=by rw[e71];exact sO (by omega)
   have H3:R1<RL:=(by omega);have b5:(R1:Int)<RL:=(by omega);have cF:=h4.out.arr.bool R1 (by rw[List.length_replicate];exact H3);have fF:=h4.out.arr.frozen R1;have i1:(bls (List.replicate RL false)).length=RL:=by rw[yL,List.length_replicate]
   have d6:=Kh b6;clear b6;go_wp2_with fail
   go_region
   obtain⟨w8,H6⟩:∃ w8,w8=(w7.setCell ⟨F,R1,none⟩ (.bool true)).drew:=⟨_,rfl⟩;have h5:w7.grownBy w8 (some F):=by rw[H6];exact zA (zC w7 ⟨F,R1,none⟩ _) (zO _ none) (by simp)
   have b4:Arr w8 F 4 (bls ((List.replicate RL false).set (RL - 1) true)):=by
    rw[H6,<- d6.out];exact(h4.out.arr.bool_set R1 (by rw[List.length_replicate];exact H3) true).of_heap rfl
   have i5:w7.heap.size<=w8.heap.size:=h5.size;obtain⟨cF8,rF8,h3,_⟩:=h4.out.arr
   have a3:BB w1 w8 bb k (xY k (bs.map zI)) gs5 sn5 cn5:=by
    refine⟨zB h2.out.box h5 ?_,h2.out.own.kept h5 (.inr (zQ h2.out.own h3 (by decide))),h2.out.len,fun i hi=>⟨(h2.out.row i hi).1.kept h5 ?_,(h2.out.row i hi).2⟩,h2.out.nd,h2.out.lo,h2.out.glo,zA h2.out.grown h5 (fun q e=>?_)⟩
    ·intro e
     have e:=Oj e;rw[e,h2.out.box]at h3;simp only[Option.some.injEq,Obj.cells.injEq]at h3;exact absurd h3.2.1 (by decide)
    ·intro e
     have e:=Oj e;obtain⟨cu,rs,a2,_⟩:=(h2.out.row i hi).1;rw[<- e,h3]at a2;simp only[Option.some.injEq,Obj.cells.injEq]at a2;exact absurd a2.2.1 (by decide)
    ·have e:F=q:=Oj e
     have:=h4.out.lo;have:=b0.out.grown.size;omega
   have H0:=kL a3 a6 a9.out (by omega) b4 (by unfold maxLen;omega);have H7:=lN c4 a6 b1 a8;rw[<- a9.out]at H7;have b9:=Kh (kK w8.heap.size w8 _ (patD k (bs.map zI)) RL k (Nat.le_refl _) H0 H7 (by omega));obtain⟨t80,t81,t82,t83⟩:=zF (zB h4.out.box h5 (fun e=>d1 (Oj e).symm));have H4:Hid (w1.grownBy w8 none):=Kh a3.grown;have a4:Hid ((minD (patD k (bs.map zI)) k).letters=k/\(minD (patD k (bs.map zI)) k).start=0):=Kh ⟨(iJ H7).hk,rfl⟩;rw[<- H6];clear H6 h5 b4 h3 a3 H0 H7 t70 t71 t72 t73 b70 b71 b7f cF fF h2 h4 d4;go_wp2_with fail;refine b9.out.mono ?_;rintro e w9 ⟨v9,rfl,b3,b2⟩;have H8:=Kh b3;obtain⟨o9,g6,sf9,cf9,sn9,cn9,rfl,g8,H2⟩:=b3;obtain⟨R,hR⟩:∃ R,R=minD (patD k (bs.map zI)) k:=⟨_,rfl⟩;rw[<- hR]at H2 H8 a4 ⊢;rw[a4.out.1,a4.out.2]at H8 ⊢;obtain⟨FL,b8⟩:∃ FL,FL=R.final.length:=⟨_,rfl⟩;obtain⟨NL,b7⟩:∃ NL,NL=R.next.length:=⟨_,rfl⟩;rw[<- b8,<- b7]at H8 ⊢;have HR:=Kh hR;have c2:=Kh (zA H4.out b2 (by simp));have h6:=zB H5.out c2.out (by simp);have c3:=Kh h6;obtain⟨q0,q1,q2,q3⟩:=zF h6;have f0:=zE h6 0;have f1:=zE h6 1;have f2:=zE h6 2;have f3:=zE h6 3;have d3:Q<w8.heap.size:=(by have:=H4.out.size;omega);clear H2 b8 b7 hR b2 h6 t80 t81 t82 t83 b9;go_wp2;obtain⟨a0,H9⟩:=uF c3.out (.int .i64 (k:Int)) (.int .i64 0) (.slice sf9 FL cf9) (.slice sn9 NL cn9);obtain⟨wz,a5⟩:∃ wz,wz=(((w9.setCell ⟨Q,0,none⟩ (.int .i64 (k:Int))).setCell ⟨Q,1,none⟩ (.int .i64 0)).setCell ⟨Q,2,none⟩ (.slice sf9 FL cf9)).setCell ⟨Q,3,none⟩ (.slice sn9 NL cn9):=⟨_,rfl⟩;rw[<- a5]at a0 H9 ⊢;clear a5;obtain⟨r0,r1,r2,r3⟩:=zF a0;clear q0 q1 q2 q3 f0 f1 f2 f3;refine bodyPost_ret (v:=.tuple #[.agg #[.int .i64 (k:Int),.int .i64 0,.slice sf9 FL cf9,.slice sn9 NL cn9],.int .i64 0]) (by simp[results,Try.results83,go_sem,r0,r1,r2,r3]) rfl ?_;have d0:=H8.out.far H9 c3.out d3;obtain⟨fv9,nv9,c8,c9⟩:=d0.t;refine⟨fv9,nv9,?_,?_,zA (zA d8.out c2.out (by simp)) H9 (fun q e=>by have h7:Q=q:=Oj e;omega)⟩
   ·rw[HE.out,HD.out,<- HR.out,<- c8]
   ·rw[HD.out,<- HR.out];exact c9
 ·have l0:((bs.length:Int) - 1 == 0)=false:=by rw[beq_eq_false_iff_ne];omega
  have k6:2<=bs.length:=by omega
  obtain⟨m,hm⟩:∃ m,m=bs.length - 1 - 1:=⟨_,rfl⟩;have HM:=Kh hm;obtain⟨c1,g1⟩:∃ c,c=1+(nthL bs 0).length:=⟨_,rfl⟩;have k3:=Kh g1;have k8:c1<=65:=by rw[g1,nthL,yQ];have:=(e7.out 0 b1).2;omega
  obtain⟨base,a7⟩:∃ base,base=[List.replicate k 0]++qG k (nthL bs 0) (nthL bs 0).length:=⟨_,rfl⟩;have k0:base.length=c1:=by rw[a7,g1];simp[qG];omega
  rw[<- a7]at f7;have f6:=Kh a7;have j0:=Kh k0;clear h1 hm g1 a7 k0;go_wp2_with fail
  go_loopg [10,43] m (fun gh a10 i wr=>∃ (j:Nat) (gs:List Nat) (sn:Option Addr) (cn:Nat),gh+j=m/\i=.int .i64 j/\BB w1 wr bb k (base++midN k c1 ((pA bs).take j)) gs sn cn)
  case atStart=>exact⟨0,gs4,sn4,cn4,rfl,rfl,by simpa [midN] using f7.out⟩
  case round =>
   clear f7 l8 p4;obtain⟨j,gs,sn,cn,j8,rfl,d7⟩:=hrel;have i8:=Kh j8;have i9:=Kh d7;clear j8
   have e0:(base++midN k c1 ((pA bs).take j)).length<=129:=by
    rw[List.length_append,j0.out,oI];have:=mids_sum (bs:=bs) j;have:=k3.out;omega
   have f4:=Kh e0;clear e0;by_cases hj:j<m
   ·have g9:1+j<bs.length:=by have:=HM.out;omega
    have k7:(j:Int)<((bs.length - 1 - 1:Nat):Int):=(by have:=HM.out;omega);have sj:=d5.out _ d7.grown (1+j) g9;rw[<- Nat.add_assoc]at sj;obtain⟨u,hu⟩:∃ u,u=bs.getD (1+j) ⟨#[]⟩:=⟨_,rfl⟩;have c7:=e7.out (1+j) g9;have j5:=l5.out (1+j) g9 (by omega) (by have:=HM.out;omega);rw[<- hu]at sj c7 j5;have HU:=Kh hu;have e8:=Kh c7;clear hu d7 c7;go_wp2_with fail;refine(eO w1 wr bb k _ gs sn cn u i9.out (by have:=f4.out;omega) c4 a6 e8.out.1 j5 e8.out.2).mono ?_;rintro e w6 ⟨gs6,sn6,cn6,rfl,i3⟩
    have m0:Hid (BB w1 w6 bb k (base++midN k c1 ((pA bs).take (j+1))) gs6 sn6 cn6):=Kh (by
     have et:(pA bs).take (j+1)=(pA bs).take j++[zI u]:=by
      rw[zR (d:=[]) (by rw[nQ];have:=HM.out;omega),midsL_get (by have:=HM.out;omega),nthL,<- HU.out]
     rw[et,qBF,<- List.append_assoc];have el:(base++midN k c1 ((pA bs).take j)).length=c1+yG ((pA bs).take j):=by rw[List.length_append,j0.out,oI]
     rw[el]at i3
     exact i3)
    clear i3;go_wp2;go_roundg (m - (j+1))
    case measure=>have:=i8.out;omega
    case rel=>exact⟨j+1,gs6,sn6,cn6,by have:=i8.out;omega,by go_num,m0.out⟩
   ·have j7:j=m:=by have:=i8.out;omega
    have k7:¬ (j:Int)<((bs.length - 1 - 1:Nat):Int):=(by have:=HM.out;omega);have pl:=i7.out _ d7.grown;have sl:=d5.out _ d7.grown (bs.length - 1) (by omega);obtain⟨u,hu⟩:∃ u,u=bs.getD (bs.length - 1) ⟨#[]⟩:=⟨_,rfl⟩;have c7:=e7.out (bs.length - 1) (by omega);rw[<- hu]at sl c7;have HU:=Kh hu;have e8:=Kh c7;have m7:((bs.length:Int) - 1).toNat=bs.length - 1:=by omega
    have m6:(bs.length:Int) - 1<bs.length:=(by omega);have m5:0<=(bs.length:Int) - 1:=by omega
    have l6:=Kh j7;clear hu c7 d7 j7;go_wp2_with fail;refine(bsuffix_any w1 wr bb k _ gs sn cn u i9.out (by have:=f4.out;omega) c4 a6 e8.out.1 e8.out.2).mono ?_;rintro e w5 ⟨gs5,sn5,cn5,rfl,c5⟩
    have b0:Hid (BB w1 w5 bb k (xY k (bs.map zI)) gs5 sn5 cn5):=Kh (by
     have et:(pA bs).take j=pA bs:=List.take_of_length_le (by rw[nQ];have:=HM.out;have:=l6.out;omega);have el:(base++midN k c1 (pA bs)).length=c1+yG (pA bs):=by rw[List.length_append,j0.out,oI]
     rw[et,el]at c5;rw[rows_more k6,show nthL bs (bs.length - 1)=zI u by rw[nthL,<- HU.out]];have:=f6.out;rw[this,k3.out]at c5
     exact c5)
    clear c5 i9 sl pl;obtain⟨c50,c51,c5f⟩:=b0.out.cells;have g7:=nL (k:=k) b1 a8;obtain⟨RL,d2⟩:∃ RL,RL=(xY k (bs.map zI)).length:=⟨_,rfl⟩;rw[<- d2]at c51 g7;have a9:=Kh d2;have d9:=qGB RL (by omega);have a0:=zK b0.out.box;obtain⟨wo,rfl⟩:∃ wo:World,wo=w5:=⟨_,rfl⟩;clear d2;go_wp2_with fail
    go_region
    ·obtain⟨w7,a1⟩:∃ w7,w7=((wo.alloc (.cells (madeCells #[.bool false] RL) 4)).alloc (.cells #[.int .i64 (k:Int),.int .i64 1,.slice (some ⟨wo.heap.size,0,none⟩) RL RL,.slice sn5 RL cn5] 42)).drew:=⟨_,rfl⟩
     have h8:=qIL wo k RL sn5 cn5;rw[<- a1]at h8 ⊢;obtain⟨T,hT⟩:∃ T,T=wo.heap.size+1:=⟨_,rfl⟩;obtain⟨F,hF⟩:∃ F,F=wo.heap.size:=⟨_,rfl⟩;rw[<- hT]at h8 ⊢;rw[<- hF]at h8 ⊢;have d1:T≠F:=(by omega);clear hT hF;have h4:=Kh h8;have d4:=Kh a1;clear h8 a1 c50 c51 c5f d9;have h2:=Kh (b0.out.grow h4.out.grown);obtain⟨b70,b71,b7f⟩:=h2.out.cells;rw[<- a9.out]at b71;obtain⟨t70,t71,t72,t73⟩:=zF h4.out.box;obtain⟨R1,b6⟩:∃ R1,R1=RL - 1:=⟨_,rfl⟩;have e71:(RL:Int) - 1=(R1:Int):=by omega
     have e72:IntKind.i64.wrap ((RL:Int) - 1)=(R1:Int):=by rw[e71];exact sO (by omega)
     have H3:R1<RL:=(by omega);have b5:(R1:Int)<RL:=(by omega);have cF:=h4.out.arr.bool R1 (by rw[List.length_replicate];exact H3);have fF:=h4.out.arr.frozen R1;have i1:(bls (List.replicate RL false)).length=RL:=by rw[yL,List.length_replicate]
     have d6:=Kh b6;clear b6;go_wp2_with fail
     go_region
     obtain⟨w8,H6⟩:∃ w8,w8=(w7.setCell ⟨F,R1,none⟩ (.bool true)).drew:=⟨_,rfl⟩;have h5:w7.grownBy w8 (some F):=by rw[H6];exact zA (zC w7 ⟨F,R1,none⟩ _) (zO _ none) (by simp)
     have b4:Arr w8 F 4 (bls ((List.replicate RL false).set (RL - 1) true)):=by
      rw[H6,<- d6.out];exact(h4.out.arr.bool_set R1 (by rw[List.length_replicate];exact H3) true).of_heap rfl
     have i5:w7.heap.size<=w8.heap.size:=h5.size;obtain⟨cF8,rF8,h3,_⟩:=h4.out.arr
     have a3:BB w1 w8 bb k (xY k (bs.map zI)) gs5 sn5 cn5:=by
      refine⟨zB h2.out.box h5 ?_,h2.out.own.kept h5 (.inr (zQ h2.out.own h3 (by decide))),h2.out.len,fun i hi=>⟨(h2.out.row i hi).1.kept h5 ?_,(h2.out.row i hi).2⟩,h2.out.nd,h2.out.lo,h2.out.glo,zA h2.out.grown h5 (fun q e=>?_)⟩
      ·intro e
       have e:=Oj e;rw[e,h2.out.box]at h3;simp only[Option.some.injEq,Obj.cells.injEq]at h3;exact absurd h3.2.1 (by decide)
      ·intro e
       have e:=Oj e;obtain⟨cu,rs,a2,_⟩:=(h2.out.row i hi).1;rw[<- e,h3]at a2;simp only[Option.some.injEq,Obj.cells.injEq]at a2;exact absurd a2.2.1 (by decide)
      ·have e:F=q:=Oj e
       have:=h4.out.lo;have:=b0.out.grown.size;omega
     have H0:=kL a3 a6 a9.out (by omega) b4 (by unfold maxLen;omega);have H7:=lN c4 a6 b1 a8;rw[<- a9.out]at H7;have b9:=Kh (kK w8.heap.size w8 _ (patD k (bs.map zI)) RL k (Nat.le_refl _) H0 H7 (by omega));obtain⟨t80,t81,t82,t83⟩:=zF (zB h4.out.box h5 (fun e=>d1 (Oj e).symm));have H4:Hid (w1.grownBy w8 none):=Kh a3.grown;have a4:Hid ((minD (patD k (bs.map zI)) k).letters=k/\(minD (patD k (bs.map zI)) k).start=0):=Kh ⟨(iJ H7).hk,rfl⟩;rw[<- H6];clear H6 h5 b4 h3 a3 H0 H7 t70 t71 t72 t73 b70 b71 b7f cF fF h2 h4 d4;go_wp2_with fail;refine b9.out.mono ?_;rintro e w9 ⟨v9,rfl,b3,b2⟩;have H8:=Kh b3;obtain⟨o9,g6,sf9,cf9,sn9,cn9,rfl,g8,H2⟩:=b3;obtain⟨R,hR⟩:∃ R,R=minD (patD k (bs.map zI)) k:=⟨_,rfl⟩;rw[<- hR]at H2 H8 a4 ⊢;rw[a4.out.1,a4.out.2]at H8 ⊢;obtain⟨FL,b8⟩:∃ FL,FL=R.final.length:=⟨_,rfl⟩;obtain⟨NL,b7⟩:∃ NL,NL=R.next.length:=⟨_,rfl⟩;rw[<- b8,<- b7]at H8 ⊢;have HR:=Kh hR;have c2:=Kh (zA H4.out b2 (by simp));have h6:=zB H5.out c2.out (by simp);have c3:=Kh h6;obtain⟨q0,q1,q2,q3⟩:=zF h6;have f0:=zE h6 0;have f1:=zE h6 1;have f2:=zE h6 2;have f3:=zE h6 3;have d3:Q<w8.heap.size:=(by have:=H4.out.size;omega);clear H2 b8 b7 hR b2 h6 t80 t81 t82 t83 b9;go_wp2;obtain⟨a0,H9⟩:=uF c3.out (.int .i64 (k:Int)) (.int .i64 0) (.slice sf9 FL cf9) (.slice sn9 NL cn9);obtain⟨wz,a5⟩:∃ wz,wz=(((w9.setCell ⟨Q,0,none⟩ (.int .i64 (k:Int))).setCell ⟨Q,1,none⟩ (.int .i64 0)).setCell ⟨Q,2,none⟩ (.slice sf9 FL cf9)).setCell ⟨Q,3,none⟩ (.slice sn9 NL cn9):=⟨_,rfl⟩;rw[<- a5]at a0 H9 ⊢;clear a5;obtain⟨r0,r1,r2,r3⟩:=zF a0;clear q0 q1 q2 q3 f0 f1 f2 f3;refine bodyPost_ret (v:=.tuple #[.agg #[.int .i64 (k:Int),.int .i64 0,.slice sf9 FL cf9,.slice sn9 NL cn9],.int .i64 0]) (by simp[results,Try.results83,go_sem,r0,r1,r2,r3]) rfl ?_;have d0:=H8.out.far H9 c3.out d3;obtain⟨fv9,nv9,c8,c9⟩:=d0.t;refine⟨fv9,nv9,?_,?_,zA (zA d8.out c2.out (by simp)) H9 (fun q e=>by have h7:Q=q:=Oj e;omega)⟩
     ·rw[HE.out,HD.out,<- HR.out,<- c8]
     ·rw[HD.out,<- HR.out];exact c9
    ·obtain⟨w7,a1⟩:∃ w7,w7=((wo.alloc (.cells #[.int .i64 (k:Int),.int .i64 1,.slice (some ⟨wo.heap.size+1,0,none⟩) RL RL,.slice sn5 RL cn5] 42)).alloc (.cells (madeCells #[.bool false] RL) 4)).drew:=⟨_,rfl⟩
     have h8:=qIK wo k RL sn5 cn5;rw[<- a1]at h8 ⊢;obtain⟨T,hT⟩:∃ T,T=wo.heap.size:=⟨_,rfl⟩;obtain⟨F,hF⟩:∃ F,F=wo.heap.size+1:=⟨_,rfl⟩;rw[<- hF]at h8 ⊢;rw[<- hT]at h8 ⊢;have d1:T≠F:=(by omega);clear hT hF;have h4:=Kh h8;have d4:=Kh a1;clear h8 a1 c50 c51 c5f d9;have h2:=Kh (b0.out.grow h4.out.grown);obtain⟨b70,b71,b7f⟩:=h2.out.cells;rw[<- a9.out]at b71;obtain⟨t70,t71,t72,t73⟩:=zF h4.out.box;obtain⟨R1,b6⟩:∃ R1,R1=RL - 1:=⟨_,rfl⟩;have e71:(RL:Int) - 1=(R1:Int):=by omega
     have e72:IntKind.i64.wrap ((RL:Int) - 1)=(R1:Int):=by rw[e71];exact sO (by omega)
     have H3:R1<RL:=(by omega);have b5:(R1:Int)<RL:=(by omega);have cF:=h4.out.arr.bool R1 (by rw[List.length_replicate];exact H3);have fF:=h4.out.arr.frozen R1;have i1:(bls (List.replicate RL false)).length=RL:=by rw[yL,List.length_replicate]
     have d6:=Kh b6;clear b6;go_wp2_with fail
     go_region
     obtain⟨w8,H6⟩:∃ w8,w8=(w7.setCell ⟨F,R1,none⟩ (.bool true)).drew:=⟨_,rfl⟩;have h5:w7.grownBy w8 (some F):=by rw[H6];exact zA (zC w7 ⟨F,R1,none⟩ _) (zO _ none) (by simp)
     have b4:Arr w8 F 4 (bls ((List.replicate RL false).set (RL - 1) true)):=by
      rw[H6,<- d6.out];exact(h4.out.arr.bool_set R1 (by rw[List.length_replicate];exact H3) true).of_heap rfl
     have i5:w7.heap.size<=w8.heap.size:=h5.size;obtain⟨cF8,rF8,h3,_⟩:=h4.out.arr
     have a3:BB w1 w8 bb k (xY k (bs.map zI)) gs5 sn5 cn5:=by
      refine⟨zB h2.out.box h5 ?_,h2.out.own.kept h5 (.inr (zQ h2.out.own h3 (by decide))),h2.out.len,fun i hi=>⟨(h2.out.row i hi).1.kept h5 ?_,(h2.out.row i hi).2⟩,h2.out.nd,h2.out.lo,h2.out.glo,zA h2.out.grown h5 (fun q e=>?_)⟩
      ·intro e
       have e:=Oj e;rw[e,h2.out.box]at h3;simp only[Option.some.injEq,Obj.cells.injEq]at h3;exact absurd h3.2.1 (by decide)
      ·intro e
       have e:=Oj e;obtain⟨cu,rs,a2,_⟩:=(h2.out.row i hi).1;rw[<- e,h3]at a2;simp only[Option.some.injEq,Obj.cells.injEq]at a2;exact absurd a2.2.1 (by decide)
      ·have e:F=q:=Oj e
       have:=h4.out.lo;have:=b0.out.grown.size;omega
     have H0:=kL a3 a6 a9.out (by omega) b4 (by unfold maxLen;omega);have H7:=lN c4 a6 b1 a8;rw[<- a9.out]at H7;have b9:=Kh (kK w8.heap.size w8 _ (patD k (bs.map zI)) RL k (Nat.le_refl _) H0 H7 (by omega));obtain⟨t80,t81,t82,t83⟩:=zF (zB h4.out.box h5 (fun e=>d1 (Oj e).symm));have H4:Hid (w1.grownBy w8 none):=Kh a3.grown;have a4:Hid ((minD (patD k (bs.map zI)) k).letters=k/\(minD (patD k (bs.map zI)) k).start=0):=Kh ⟨(iJ H7).hk,rfl⟩;rw[<- H6];clear H6 h5 b4 h3 a3 H0 H7 t70 t71 t72 t73 b70 b71 b7f cF fF h2 h4 d4;go_wp2_with fail;refine b9.out.mono ?_;rintro e w9 ⟨v9,rfl,b3,b2⟩;have H8:=Kh b3;obtain⟨o9,g6,sf9,cf9,sn9,cn9,rfl,g8,H2⟩:=b3;obtain⟨R,hR⟩:∃ R,R=minD (patD k (bs.map zI)) k:=⟨_,rfl⟩;rw[<- hR]at H2 H8 a4 ⊢;rw[a4.out.1,a4.out.2]at H8 ⊢;obtain⟨FL,b8⟩:∃ FL,FL=R.final.length:=⟨_,rfl⟩;obtain⟨NL,b7⟩:∃ NL,NL=R.next.length:=⟨_,rfl⟩;rw[<- b8,<- b7]at H8 ⊢;have HR:=Kh hR;have c2:=Kh (zA H4.out b2 (by simp));have h6:=zB H5.out c2.out (by simp);have c3:=Kh h6;obtain⟨q0,q1,q2,q3⟩:=zF h6;have f0:=zE h6 0;have f1:=zE h6 1;have f2:=zE h6 2;have f3:=zE h6 3;have d3:Q<w8.heap.size:=(by have:=H4.out.size;omega);clear H2 b8 b7 hR b2 h6 t80 t81 t82 t83 b9;go_wp2;obtain⟨a0,H9⟩:=uF c3.out (.int .i64 (k:Int)) (.int .i64 0) (.slice sf9 FL cf9) (.slice sn9 NL cn9);obtain⟨wz,a5⟩:∃ wz,wz=(((w9.setCell ⟨Q,0,none⟩ (.int .i64 (k:Int))).setCell ⟨Q,1,none⟩ (.int .i64 0)).setCell ⟨Q,2,none⟩ (.slice sf9 FL cf9)).setCell ⟨Q,3,none⟩ (.slice sn9 NL cn9):=⟨_,rfl⟩;rw[<- a5]at a0 H9 ⊢;clear a5;obtain⟨r0,r1,r2,r3⟩:=zF a0;clear q0 q1 q2 q3 f0 f1 f2 f3;refine bodyPost_ret (v:=.tuple #[.agg #[.int .i64 (k:Int),.int .i64 0,.slice sf9 FL cf9,.slice sn9 NL cn9],.int .i64 0]) (by simp[results,Try.results83,go_sem,r0,r1,r2,r3]) rfl ?_;have d0:=H8.out.far H9 c3.out d3;obtain⟨fv9,nv9,c8,c9⟩:=d0.t;refine⟨fv9,nv9,?_,?_,zA (zA d8.out c2.out (by simp)) H9 (fun q e=>by have h7:Q=q:=Oj e;omega)⟩
     ·rw[HE.out,HD.out,<- HR.out,<- c8]
     ·rw[HD.out,<- HR.out];exact c9
theorem xN {α:Type}{l m:List α}{i:Nat}{d:α}(h:i<l.length):(l++m).getD i d=l.getD i d:=by
 rw[List.getD_eq_getElem?_getD,List.getElem?_append_left h,<- List.getD_eq_getElem?_getD]
section
variable {w0 w w':World} {T F N C B k cnt c0:Nat} {p:List Nat} {fs:List Bool} {t:List (List Int)} {gs:List Nat}
end
theorem DfaT.shapes {w:World}{f nx:Value}{d:DfaV}(h:DfaT w f nx d):∃ sa n1 c1 sb n2 c2,f=.slice sa n1 c1/\nx=.slice sb n2 c2:=by
 obtain⟨hs,a,b,_⟩:=h;obtain⟨sa,c1,rfl⟩:=a.shape;obtain⟨sb,c2,rfl⟩:=b.shape;exact⟨sa,_,c1,sb,_,c2,rfl,rfl⟩
def autD (ps:List (List ByteArray))(letters:Int):List DfaV:=ps.map fun p=>xF p letters
def qFE (w:World)(E:Int)(ds:List DfaV)(e:Ending)(w':World):Prop:=∃ sa n sc,e=.returned (.tuple #[.slice sa n sc,.int .i64 E])/\w.grownBy w' none/\((E≠0)\/(E=0/\n=ds.length/\∃ l,l.map (·.1)=ds/\DsUp w.heap.size w' (.slice sa n sc) l))
theorem automata_any (B:Nat)(w:World)(v:Value)(ps:List (List ByteArray))(letters:Int)(hB:B<=w.heap.size)(h:PatsIn B w v ps)(hl:ps.length<=4096):Calls Try.prog 56 #[v,.int .i64 letters] w (qFE w (vP letters ps) (autD ps letters)):=by
 obtain⟨a,c,rfl⟩:=h.shape;obtain⟨n,hn⟩:∃ n,n=ps.length:=⟨_,rfl⟩;have HN:=Kh hn;have H:=Kh h;rw[<- hn]at hl H ⊢;clear h hn;go_enter Try.func56,Try.ntmps56;go_wp2
 go_loopg [7,8,16] n (fun gh s7 s8 i wr=>∃ k:Nat,gh+k=n/\i=.int .i64 k/\vP letters (ps.drop k)=vP letters ps/\w.grownBy wr none)
 case atStart=>exact⟨0,rfl,rfl,rfl,zL _ _⟩
 case round =>
  obtain⟨k,H6,rfl,b2,hg⟩:=hrel;have h9:=Kh H6;have HG:=Kh hg;have h4:=Kh b2;clear H6 b2;by_cases hk:k<n
  ·have b5:(k:Int)<n:=by omega
   have H5:=H.out.kept hg (by simp);obtain⟨b,off,cap,e,c6,h8,a6,h3⟩:=H5.at_ (by rw[<- HN.out];omega);rw[<- HN.out]at e h8 h3;simp only[Value.slice.injEq,true_and]at e;obtain⟨rfl,rfl⟩:=e;obtain⟨sa,sc,c1,h2,H1⟩:=h3 k hk;obtain⟨q,hq⟩:∃ q,q=ps.getD k []:=⟨_,rfl⟩;rw[<- hq]at c1 h2 H1;have c4:c<=9223372036854775807:=by unfold maxLen at a6;omega
   have HV:Hid (∀ W:World,wr.grownBy W none->Calls Try.prog 36 #[.agg #[.slice sa q.length sc],.int .i64 letters] W fun e w'=>e=.returned (.int .i64 (patW q letters))/\w.grownBy w' none):=Kh (fun W hW=>(kJ B W _ q letters (h2.kept hW (by simp)) H1).mono fun e w' ⟨he,hg'⟩=>⟨he,zA HG.out (zD hW hg') (by simp)⟩);have HQ:=Kh hq;obtain⟨E,hE⟩:∃ E,E=patW q letters:=⟨_,rfl⟩;rw[<- hE]at HV;have HE:=Kh hE;obtain⟨ql,H4⟩:∃ n,n=q.length:=⟨_,rfl⟩;rw[<- H4]at c1 HV;clear H5 h3 h2 H1 hq hg hE H4;go_wp2_with fail;refine(HV.out _ (Ga wr _ none)).mono ?_;rintro e w1 ⟨rfl,h7⟩;have H0:=Kh h7;clear h7 HV;by_cases hE:E=0
   ·have e1:(E != 0)=false:=by simp[hE]
    have b0:=Kh hE;clear hE;go_wp2;go_roundg (n - (k+1))
    case measure=>have:=h9.out;omega
    case rel=>exact⟨k+1,by have:=h9.out;omega,by go_num,(jO (by rw[<- HN.out];exact hk) (by rw[<- HQ.out,<- HE.out];exact b0.out)).trans h4.out,H0.out⟩
   ·have e1:(E != 0)=true:=by rw[bne_iff_ne];exact hE
    have b0:=Kh hE;have c0:Hid (vP letters ps=E):=Kh (by rw[<- h4.out,gZ (by rw[<- HN.out];exact hk) (by rw[<- HQ.out,<- HE.out];exact hE),<- HQ.out,<- HE.out]);clear hE;go_wp2;refine bodyPost_ret (v:=.tuple #[.slice none 0 0,.int .i64 E]) (by simp[results,Try.results56,go_sem]) rfl ?_;exact⟨none,0,0,by rw[c0.out],H0.out,.inl (by rw[c0.out];exact b0.out)⟩
  ·have a3:k=n:=by have:=h9.out;omega
   have a8:Hid (vP letters ps=0):=Kh (by rw[<- h4.out];exact gY (by rw[<- HN.out];exact hk));have c5:¬ (k:Int)<n:=by omega
   have c8:Hid (∀ j,j<n->patW (ps.getD j []) letters=0):=Kh (fun j hj=>by
    have:=uM.1 a8.out;rw[zG (by rw[<- HN.out];exact hj)]
    exact this _ (List.getElem_mem _))
   clear a3 h4 h9;obtain⟨wo,rfl⟩:∃ wo:World,wo=wr:=⟨_,rfl⟩;go_wp2_with (first|(at_make;refine make0N rfl _ _ _ rfl qU .i64 .i64 _ (n+1) rfl rfl (by simp) ?m2 ?m3 ?_)|fail)
   case m2=>omega
   case m3=>unfold maxLen;omega
   intro w1 h6 h7;have b9:Hid (DsUp w.heap.size w1 (.slice (some ⟨wo.heap.size,0,none⟩) 0 (n+1)) []):=Kh ⟨xM h6 HG.out.size,fun x hx=>absurd hx (by simp)⟩;have H0:=Kh (zA HG.out h7 (by simp));clear h6 h7 hg HG;go_wp2
   go_loopg [9,11,12,13,33] n (fun gh v9 s11 s12 s13 i wr=>∃ (k:Nat) (sa:Option Addr) (sc:Nat) (l:List (DfaV×Value×Value)),gh+k=n/\i=.int .i64 k/\v9=.slice sa k sc/\l.map (·.1)=autD (ps.take k) letters/\DsUp w.heap.size wr (.slice sa k sc) l/\l.length=k/\w.grownBy wr none)
   case atStart=>exact⟨0,_,_,[],rfl,rfl,rfl,rfl,b9.out,rfl,H0.out⟩
   case round =>
    clear b9 H0;obtain⟨k,sa,sc,l,H6,rfl,rfl,b4,b6,b3,hg⟩:=hrel;have h9:=Kh H6;have HG:=Kh hg;have H9:=Kh b4;have b1:=Kh b6;have H8:=Kh b3;clear H6 b4 b6 b3;by_cases hk:k<n
    ·have b5:(k:Int)<n:=by omega
     have H5:=H.out.kept hg (by simp);obtain⟨b,off,cap,e,c6,h8,a6,h3⟩:=H5.at_ (by rw[<- HN.out];omega);rw[<- HN.out]at e h8 h3;simp only[Value.slice.injEq,true_and]at e;obtain⟨rfl,rfl⟩:=e;obtain⟨ea,ec,c1,h2,H1⟩:=h3 k hk;have a2:=c8.out k hk
     have a7:Hid (autD (ps.take (k+1)) letters=autD (ps.take k) letters++[xF (ps.getD k []) letters]):=Kh (by
      rw[zR (d:=[]) (by rw[<- HN.out];exact hk),autD,List.map_append];rfl)
     obtain⟨q,hq⟩:∃ q,q=ps.getD k []:=⟨_,rfl⟩;rw[<- hq]at c1 h2 H1 a2 a7;have c4:c<=9223372036854775807:=by unfold maxLen at a6;omega
     have HV:Hid (∀ W:World,wr.grownBy W none->Calls Try.prog 83 #[.agg #[.slice ea q.length ec],.int .i64 letters] W (aW W 0 (xF q letters))):=Kh (fun W hW=>by
      have:=pdfa_anyT B W _ q letters (h2.kept hW (by simp)) (by have:=hW.size;have:=HG.out.size;omega) H1;rw[a2]at this
      exact this)
     obtain⟨ql,H4⟩:∃ n,n=q.length:=⟨_,rfl⟩;obtain⟨D,hD⟩:∃ D,D=xF q letters:=⟨_,rfl⟩;rw[<- H4]at c1 HV;rw[<- hD]at HV a7;have d9:=hg.size;clear H5 h3 h2 H1 hq hg H4 a2 hD;go_wp2_with fail;refine(HV.out _ (Ga wr _ none)).mono ?_;rintro e w1 ⟨f1,x1,rfl,a1,h7⟩;obtain⟨fa1,fl1,fc1,na1,nl1,nc1,rfl,rfl⟩:=a1.shapes;have H0:=Kh (zA (Ga wr (.cells #[.slice ea ql ec] 28) none) h7 (by simp));have b8:=Kh a1;obtain⟨dl,a5⟩:∃ x,x=D.letters:=⟨_,rfl⟩;obtain⟨dst,H2⟩:∃ x,x=D.start:=⟨_,rfl⟩;rw[<- a5,<- H2];have d7:=Kh a5;have d6:=Kh H2;clear h7 a1 HV c1 a5 H2;obtain⟨w2,a0⟩:∃ w2,w2=w1.alloc (.cells #[.int .i64 dl,.int .i64 dst,.slice fa1 fl1 fc1,.slice na1 nl1 nc1] 42):=⟨_,rfl⟩;have H7:=Ga w1 (.cells #[.int .i64 dl,.int .i64 dst,.slice fa1 fl1 fc1,.slice na1 nl1 nc1] 42) none;have h8:=heap_alloc_new w1 (.cells #[.int .i64 dl,.int .i64 dst,.slice fa1 fl1 fc1,.slice na1 nl1 nc1] 42);obtain⟨R,hR⟩:∃ R,R=w1.heap.size:=⟨_,rfl⟩;rw[<- a0]at H7 h8;rw[<- hR]at h8;have c9:=Kh (b8.out.grow H7);have a9:=Kh (zA H0.out H7 (by simp));have H3:=Kh (b1.out.grow a9.out);have c7:=Kh a0;have d4:=Kh hR;obtain⟨d0,d1,d2,d3⟩:=zF h8;have e0:=a9.out.size;clear a0 hR H7 h8 b1 H0 b8;go_upto_region 13 with fail;rw[<- c7.out,<- d4.out];go_wp2_with (first|(at_builtin;refine lW rfl _ _ _ rfl qU w.heap.size (.slice sa k sc) k (nC l) rfl ?h0 [.int .i64 dl,.int .i64 dst,.slice fa1 fl1 fc1,.slice na1 nl1 nc1] rfl rfl ?h1 ?c1 ?c2 ?c3 ?_)|fail)
     case h0=>have:=H3.out.own;rw[H8.out]at this;exact this
     case h1=>intro u hu;simp at hu;rcases hu with rfl|rfl|rfl|rfl<;>rfl
     case c1=>unfold maxLen;omega
     case c2=>omega
     case c3=>have:=HG.out.size;omega
     intro sa' sc' w3 h5 a4;have b7:=H3.out.push (v':=.slice sa' (k+1) sc') (x:=(D,.slice fa1 fl1 fc1,.slice na1 nl1 nc1)) c9.out (by rw[H8.out];unfold dval;rw[<- d7.out,<- d6.out];exact h5) a4;have d8:=Kh b7;have d5:Hid (w.grownBy w3 none):=Kh (zA (zA HG.out a9.out (by simp)) a4 (fun x e=>(H3.out.own.lt x e).1));clear h5 a4 b7;go_wp2;go_roundg (n - (k+1))
     case measure=>have:=h9.out;omega
     case rel=>exact⟨k+1,sa',sc',l++[(D,.slice fa1 fl1 fc1,.slice na1 nl1 nc1)],by have:=h9.out;omega,by go_num,rfl,by rw[a7.out,List.map_append,H9.out];rfl,d8.out,by rw[List.length_append,H8.out];rfl,d5.out⟩
    ·have a3:k=n:=by have:=h9.out;omega
     have b5:¬ (k:Int)<n:=(by omega);have HE:Hid (ps.take k=ps):=Kh (List.take_of_length_le (by rw[<- HN.out];omega));rw[HE.out]at H9;clear hg a3;go_wp2;refine bodyPost_ret (v:=.tuple #[.slice sa k sc,.int .i64 0]) (by simp[results,Try.results56,go_sem]) rfl ?_;exact⟨sa,k,sc,by rw[a8.out],HG.out,.inr ⟨a8.out,by rw[<- H9.out,List.length_map,H8.out],l,H9.out,b1.out⟩⟩
open Go.Maps
theorem DsO.dfa {B:Nat}{w:World}{g off k:Nat}{ds:List DfaV}(h:DsO B w g off ds)(hok:OkT ds k){i:Nat}(hi:i<ds.length):∃ n fb fo fc b of2 cap RB RO RC,VD (ds.getD i dN) n k/\n<=512/\w.cell? ⟨g,off+i * 4,none⟩=some (.int .i64 (k:Int))/\w.cell? ⟨g,off+i * 4+1,none⟩=some (.int .i64 ((st0 (ds.getD i dN):Nat):Int))/\w.cell? ⟨g,off+i * 4+2,none⟩=some (.slice (some ⟨fb,fo,none⟩) n fc)/\w.cell? ⟨g,off+i * 4+3,none⟩=some (.slice (some ⟨b,of2,none⟩) n cap)/\DAt B w (ds.getD i dN) n k fb fo fc b of2 cap RB RO RC:=by
 obtain⟨n,hv,h5⟩:=hok i hi;obtain⟨f,nx,h1,h2,h3,h4,hd⟩:=h.at_ i hi;obtain⟨fb,fo,fc,b,of2,cap,RB,RO,RC,e,h0⟩:=hd.at hv;rw[dAgg]at e;simp only[Value.agg.injEq]at e;have e:=congrArg Array.toList e;simp only[List.cons.injEq,and_true]at e;obtain⟨e1,e2,e3,e4⟩:=e;exact⟨n,fb,fo,fc,b,of2,cap,RB,RO,RC,hv,h5,by rw[h1,e1],by rw[h2,e2],by rw[h3,e3],by rw[h4,e4],h0⟩
theorem qGS {X:Nat->Prop}{w:World}{g n:Nat}{f:List Nat}(h:Arr w g 3 (nats f))(hn:f.length=n)(hm:n<=maxLen)(hX:X g):RowX X 3 w (.slice (some ⟨g,0,none⟩) n n) (nats f):=RowX.of_new h hn (Nat.le_refl _) hm hX
theorem prod_start {w wr:World}{G np k:Nat}{pv:Value}{x0:List Nat}(hg:w.grownBy wr none)(hG:Arr wr G 3 (nats x0))(hGl:w.heap.size<=G)(hx:x0.length=np)(hnp:np<=4096){w5:World}(hw5:w5=(((wr.alloc (.cells #[.slice (some ⟨G,0,none⟩) np np] 34)).alloc (.cells #[.int .i64 0] 3)).alloc (.cells #[.int .i64 0] 3)).alloc (.cells #[.int .i64 (k:Int),pv,.slice (some ⟨wr.heap.size,0,none⟩) 1 1,.slice none 0 0,.slice (some ⟨wr.heap.size+1,0,none⟩) 1 1,.slice (some ⟨wr.heap.size+1+1,0,none⟩) 1 1] 111)):BoxS w.heap.size (fun q=>q=G) (wr.heap.size+1+1+1) 111 w w5 (⟨w.heap.size,34,.slice (some ⟨wr.heap.size,0,none⟩) 1 1,1,[.slice (some ⟨G,0,none⟩) np np],1⟩::⟨w.heap.size,3,.slice none 0 0,0,nats [],1⟩::⟨w.heap.size,3,.slice (some ⟨wr.heap.size+1,0,none⟩) 1 1,1,nats [0],1⟩::⟨w.heap.size,3,.slice (some ⟨wr.heap.size+1+1,0,none⟩) 1 1,1,nats [0],1⟩::[]) #[.int .i64 (k:Int),pv,.slice (some ⟨wr.heap.size,0,none⟩) 1 1,.slice none 0 0,.slice (some ⟨wr.heap.size+1,0,none⟩) 1 1,.slice (some ⟨wr.heap.size+1+1,0,none⟩) 1 1] w5/\uE (fun q=>q=G) 3 nats w5 [.slice (some ⟨G,0,none⟩) np np] [x0]/\w.grownBy w5 none:=by
 obtain⟨w2,h2⟩:∃ w2,w2=wr.alloc (.cells #[.slice (some ⟨G,0,none⟩) np np] 34):=⟨_,rfl⟩;obtain⟨w3,h1⟩:∃ w3,w3=w2.alloc (.cells #[.int .i64 0] 3):=⟨_,rfl⟩;obtain⟨w4,h0⟩:∃ w4,w4=w3.alloc (.cells #[.int .i64 0] 3):=⟨_,rfl⟩;have h4:w2.heap.size=wr.heap.size+1:=by rw[h2,zJ]
 have h3:w3.heap.size=wr.heap.size+1+1:=by rw[h1,zJ,h4]
 have h8:w4.heap.size=wr.heap.size+1+1+1:=by rw[h0,zJ,h3]
 rw[<- h2,<- h1,<- h0]at hw5;have g2:wr.grownBy w2 none:=by rw[h2];exact Ga _ _ _
 have g3:w2.grownBy w3 none:=by rw[h1];exact Ga _ _ _
 have g4:w3.grownBy w4 none:=by rw[h0];exact Ga _ _ _
 have g5:w4.grownBy w5 none:=by rw[hw5];exact Ga _ _ _
 have h7:=hg.size;have h5:1<=maxLen:=by unfold maxLen;omega
 have o2:w2.ownsRow wr.heap.size 34 1 (.slice (some ⟨wr.heap.size,0,none⟩) 1 1) 1 [.slice (some ⟨G,0,none⟩) np np]:=by rw[h2];exact World.ownsRow_lit wr #[_] 1 (Nat.le_refl _) h5 rfl
 have o3:w3.ownsRow w2.heap.size 3 1 (.slice (some ⟨wr.heap.size+1,0,none⟩) 1 1) 1 (nats [0]):=by rw[h1,<- h4];exact World.ownsRow_lit w2 #[_] 1 (Nat.le_refl _) h5 rfl
 have o4:w4.ownsRow w3.heap.size 3 1 (.slice (some ⟨wr.heap.size+1+1,0,none⟩) 1 1) 1 (nats [0]):=by rw[h0,<- h3];exact World.ownsRow_lit w3 #[_] 1 (Nat.le_refl _) h5 rfl
 have m0:EMem (fun q=>q=G) wr []:=⟨fun r hr=>by simp at hr,List.Pairwise.nil,fun r hr=>by simp at hr,fun k hk=>by subst hk;exact hG.lt⟩;have m1:=m0.add g2 (r:=⟨w.heap.size,34,.slice (some ⟨wr.heap.size,0,none⟩) 1 1,1,[.slice (some ⟨G,0,none⟩) np np],1⟩) (xM (base':=w.heap.size) o2 h7) (fun k hk=>(o2.lt k hk).1);have m2:=m1.add (zL w2 none) (r:=⟨w.heap.size,3,.slice none 0 0,0,nats [],1⟩) (World.ownsRow_nil _ _ _ _) (fun k hk=>by simp[Value.ownBlock]at hk);have m3:=m2.add g3 (r:=⟨w.heap.size,3,.slice (some ⟨wr.heap.size+1,0,none⟩) 1 1,1,nats [0],1⟩) (xM (base':=w.heap.size) o3 (by rw[h4];omega)) (fun k hk=>(o3.lt k hk).1);have m4:=m3.add g4 (r:=⟨w.heap.size,3,.slice (some ⟨wr.heap.size+1+1,0,none⟩) 1 1,1,nats [0],1⟩) (xM (base':=w.heap.size) o4 (by rw[h3];omega)) (fun k hk=>(o4.lt k hk).1);have h9:=zA (zA (zA hg g2 (by simp)) g3 (by simp)) g4 (by simp);have h6:=zA h9 g5 (by simp)
 have H0:w5.heap[wr.heap.size+1+1+1]?=some (.cells #[.int .i64 (k:Int),pv,.slice (some ⟨wr.heap.size,0,none⟩) 1 1,.slice none 0 0,.slice (some ⟨wr.heap.size+1,0,none⟩) 1 1,.slice (some ⟨wr.heap.size+1+1,0,none⟩) 1 1] 111 (0,0)):=by
  rw[hw5,<- h8];exact heap_alloc_new w4 _
 have H1:=((((hG.kept g2 (by simp)).kept g3 (by simp)).kept g4 (by simp)).kept g5 (by simp));have H2:=hG.lt;refine⟨⟨m4.grow g5,fun r hr=>?_,H0,fun e=>by have e:wr.heap.size+1+1+1=G:=e;omega,Nat.le_refl _,by omega,by have:=g5.size;omega,h6,vZ.refl _ _,Nat.le_refl _⟩,uE.nil.snoc (qGS H1 hx (by unfold maxLen;omega) rfl),h6⟩;simp only[List.nil_append,List.append_assoc,List.cons_append,List.mem_cons,List.not_mem_nil,or_false]at hr;have d1:(34:Nat)≠111:=by decide
 have d2:(3:Nat)≠111:=by decide
 rcases hr with rfl|rfl|rfl|rfl
 ·exact⟨rfl,d1⟩
 ·exact⟨rfl,d2⟩
 ·exact⟨rfl,d2⟩
 ·exact⟨rfl,d2⟩
section
variable {α:Type} {mt kt:TypeId} {V:α->Prop} {kv:α->Value} {w:World}
theorem MapK.upd [DecidableEq α]{w:World}{b n c:Nat}{f:α->Option Nat}(h:MapK kt V kv w b n c f)(K:KeyK mt kt V kv){z:α}{y:Nat}(hn:n<maxLen)(hz:V z)(hy:y<4611686018427387904):∃ w' r,(Instr.mapUpdate mt (.map (some b)) (kv z) (.int .i64 (y:Int))).run Try.prog w=.ok r w'/\MapK kt V kv w' b (n+1) (if (f z).isSome then c else c+1) (fun q=>if q=z then some y else f q)/\w.grownBy w' (some b):=by
 obtain⟨D,h1,h2,h3⟩:=h;obtain⟨kl,h0⟩:=Option.isSome_iff_exists.1 (K.of z hz);obtain⟨w',h4,h5,h7⟩:=h1.update K.key K.und hn h0 (plainElem_int tV (qBE (x:=(y:Int)) ⟨by omega,by omega⟩));refine⟨w',_,h4,⟨_,h5,?_,fun q ql hq hql=>?_⟩,h7⟩
 ·rw[size_put (h1.tidy K.key),(h3 z kl hz h0).1,h2]
 ·by_cases e:q=z
  ·subst e
   rw[h0]at hql;cases hql;refine⟨by rw[has_put_same h1.isMap (K.key.key h0)];simp,?_⟩;simp only[if_pos];rw[atKey_put_same h1.isMap (K.key.key h0)];rfl
  ·have h6:ql≠kl:=fun h=>e (K.inj q z hq hz (K.key.inj (hql.trans (congrArg some h)) h0))
   obtain⟨e1,e2⟩:=h3 q ql hq hql;simp only[if_neg e];exact⟨by rw[has_put_other h6,e1],by rw[atKey_put_other h6,e2]⟩
end
section
variable {X:Nat->Prop} {B o ty:Nat} {w0 wk w w':World} {rs:List RowS} {c:Array Value}
theorem BoxS.retire {r : RowS}(h : BoxS B X o ty w0 wk (rs ++ [r]) c w): BoxS B (fun k => X k \/ r.v.ownBlock = some k) o ty w0 w rs c w :=
 ⟨h.mem.retire, fun s hs => h.typ s (List.mem_append_left _ hs), h.box, fun e => by
  rcases e with e | e
  ·exact h.off e
  ·exact absurd e (zQ (h.mem.own r (by simp)) h.box (h.typ r (by simp)).2), h.size, h.old, Nat.le_trans h.base h.wk, h.grown, vZ.refl _ _, Nat.le_refl _⟩
end
section
variable {w0 w w':World} {B o mb k np m q rb:Nat} {pv:Value} {L:List (List Nat)} {nxl fr bl xs:List Nat}
theorem ProdS.open_ (h:ProdS w0 B o mb k np pv L nxl fr bl m q (⟨B,3,.slice (some ⟨rb,0,none⟩) np np,np,nats xs,1⟩::[]) w)(hg:w.grownBy w' (some mb))(hb:∃ es clock,w'.heap[mb]?=some (.map es clock)):∃ X hs sS sN sF sB cS cN cF cB,BoxS B (fun j=>X j\/j=mb) o 111 w0 w' (⟨B,34,.slice sS m cS,m,hs,1⟩::⟨B,3,.slice sN q cN,q,nats nxl,1⟩::⟨B,3,.slice sF m cF,m,nats fr,1⟩::⟨B,3,.slice sB m cB,m,nats bl,1⟩::[]) #[.int .i64 (k:Int),pv,.slice sS m cS,.slice sN q cN,.slice sF m cF,.slice sB m cB] w'/\uE X 3 nats w' (hs++[.slice (some ⟨rb,0,none⟩) np np]) (L++[xs])/\uE X 3 nats w' hs L/\¬ X mb/\w0.heap.size<=mb/\(L.length=m/\nxl.length=q/\fr.length=m/\bl.length=m)/\hs.length=m:=by
 obtain⟨X,hs,sS,sN,sF,sB,cS,cN,cF,cB,u,c,hB,hE,hM,h4,h5,hu,hl,H0⟩:=h
 have h1:o≠mb:=fun e=>by
  obtain⟨es,clock,hb⟩:=hM.obj;have:=hB.box;rw[e,hb]at this;simp at this
 have h0:=hB.far hg (fun r hr=>yD (es:=#[]) (clock:=0) (hB.mem.own r hr) hM.obj) h4 h1 h5;have h9:=h0.kept;have h3:=h0.wk;have h2:=h0.rebase;have H2:RowX (fun j=>X j\/(Value.slice (some ⟨rb,0,none⟩) np np).ownBlock=some j) 3 w' (.slice (some ⟨rb,0,none⟩) np np) (nats xs):=RowX.of_owns (h2.own (r:=⟨B,3,.slice (some ⟨rb,0,none⟩) np np,np,nats xs,1⟩) (by simp)) (fun j hj=>.inr hj);have h6:=BoxS.retire (rs:=(⟨B,34,.slice sS m cS,m,hs,1⟩::⟨B,3,.slice sN q cN,q,nats nxl,1⟩::⟨B,3,.slice sF m cF,m,nats fr,1⟩::⟨B,3,.slice sB m cB,m,nats bl,1⟩::[])) (r:=⟨B,3,.slice (some ⟨rb,0,none⟩) np np,np,nats xs,1⟩) h2;have h8:mb<w'.heap.size:=Nat.lt_of_lt_of_le hM.lt h3;have H1:=h6.stand h8 (fun r hr=>yD (es:=#[]) (clock:=0) (h6.mem.own r hr) hb) h1;have h7:=(hE.kept h9 h3).mono (X':=fun j=>X j\/(Value.slice (some ⟨rb,0,none⟩) np np).ownBlock=some j) (fun j hj=>.inl hj);refine⟨_,hs,sS,sN,sF,sB,cS,cN,cF,cB,H1,h7.snoc H2,h7,fun e=>?_,h5,hl,H0⟩;rcases e with e|e
 ·exact h4 e
 ·exact yD (es:=#[]) (clock:=0) (h2.own (r:=⟨B,3,.slice (some ⟨rb,0,none⟩) np np,np,nats xs,1⟩) (by simp)) hb e
theorem cE {X:Nat->Prop}{wk:World}{hs:List Value}{sS sN sF sB:Option Addr}{cS cN cF cB u c:Nat}(hB:BoxS B (fun j=>X j\/j=mb) o 111 w0 wk (⟨B,34,.slice sS m cS,m,hs,1⟩::⟨B,3,.slice sN q cN,q,nats nxl,1⟩::⟨B,3,.slice sF m cF,m,nats fr,1⟩::⟨B,3,.slice sB m cB,m,nats bl,1⟩::[]) #[.int .i64 (k:Int),pv,.slice sS m cS,.slice sN q cN,.slice sF m cF,.slice sB m cB] w)(hE:uE X 3 nats wk hs L)(hM:MapK 9 (qD np) (fun l=>.string (txtT (kb l))) wk mb u c (numE L))(hmx:¬ X mb)(hmb:w0.heap.size<=mb)(hu:u<=m)(hl:L.length=m/\nxl.length=q/\fr.length=m/\bl.length=m)(hhs:hs.length=m):ProdS w0 B o mb k np pv L nxl fr bl m q [] w :=
 ⟨X,hs,sS,sN,sF,sB,cS,cN,cF,cB,u,c,(hB.less (fun j h=>.inl h)).rebase,hE.kept (fun j hj=>hB.kept j (.inl hj)) hB.wk,hM.of_block (hB.kept mb (.inr rfl)),hmx,hmb,hu,hl,hhs⟩
end
abbrev KR (l:List Nat):Value:=.string (txtT (kbR l))
inductive RPr (w0:World)(B o mb np:Nat)(pv:Value)(L T:List (List Nat))(m q:Nat)(tl:List RowS)(w:World):Prop
 | mk (X:Nat->Prop) (hs hn:List Value) (sS sN:Option Addr) (cS cN u c:Nat)
  (hB:BoxS B X o 88 w0 w (⟨B,34,.slice sS m cS,m,hs,1⟩::⟨B,34,.slice sN q cN,q,hn,1⟩::tl) #[pv,.slice sS m cS,.slice sN q cN] w)
  (hE:uE X 3 nats w hs L) (hN:uE X 3 nats w hn T) (hM:MapK 9 (qD np) KR w mb u c (numE L)) (hmx:¬ X mb) (hmb:w0.heap.size<=mb) (hu:u<=2 * m)
  (hl:L.length=m/\T.length=q) (hhs:hs.length=m/\hn.length=q) (hlo:∀ j,X j->B<=j)
section
variable {w0 w w' w1:World} {B o mb np m q:Nat} {pv:Value} {L T:List (List Nat)} {tl:List RowS}
theorem RPr.grow (h:RPr w0 B o mb np pv L T m q tl w)(hg:w.grownBy w' none):RPr w0 B o mb np pv L T m q tl w':=by
 obtain⟨X,hs,hn,sS,sN,cS,cN,u,c,hB,hE,hN,hM,h1,h2,hu,hl,h4,h3⟩:=h;have h0:=hB.mem.keep hg;exact⟨X,hs,hn,sS,sN,cS,cN,u,c,(hB.grow hg).rebase,hE.kept h0 hg.size,hN.kept h0 hg.size,hM.kept hg (by simp),h1,h2,hu,hl,h4,h3⟩
theorem RPr.facts (h:RPr w0 B o mb np pv L T m q tl w):w0.grownBy w none/\B<=w.heap.size/\w0.heap.size<=B/\w0.heap.size<=o/\o<w.heap.size/\L.length=m/\T.length=q:=by
 obtain⟨X,hs,hn,sS,sN,cS,cN,u,c,hB,hE,hN,hM,h0,h1,hu,hl,h3,h2⟩:=h;exact⟨hB.grown,Nat.le_trans hB.base hB.wk,hB.size,hB.old,zK hB.box,hl.1,hl.2⟩
theorem RPr.map (h:RPr w0 B o mb np pv L T m q tl w):∃ u c,u<=2 * m/\MapK 9 (qD np) KR w mb u c (numE L):=by
 obtain⟨X,hs,hn,sS,sN,cS,cN,u,c,hB,hE,hN,hM,h0,h1,hu,hl,h3,h2⟩:=h;exact⟨u,c,hu,hM⟩
theorem RPr.cells (h:RPr w0 B o mb np pv L T m q tl w):∃ sS cS sN cN,w.heap[o]?=some (.cells #[pv,.slice sS m cS,.slice sN q cN] 88 (0,0))/\(0<m->∃ sb,sS=some ⟨sb,0,none⟩/\m<=cS/\cS<=maxLen/\∀ i,i<m->L.getD i []≠[]->∃ g off cap,w.cell? ⟨sb,i,none⟩=some (.slice (some ⟨g,off,none⟩) (L.getD i []).length cap)/\(L.getD i []).length<=cap/\cap<=maxLen/\∀ j,j<(L.getD i []).length->w.cell? ⟨g,off+j,none⟩=some (.int .i64 (((L.getD i []).getD j 0:Nat):Int))):=by
 obtain⟨X,hs,hn,sS,sN,cS,cN,u,c,hB,hE,hN,hM,h9,H0,hu,hl,H2,H1⟩:=h;refine⟨sS,cS,sN,cN,hB.box,fun h0=>?_⟩;have ho:=hB.own (r:=⟨B,34,.slice sS m cS,m,hs,1⟩) (by simp);simp only at ho;obtain⟨sb,rfl,h1,h2,ha⟩:=yW ho h0;refine⟨sb,rfl,h1,h2,fun i hi hne=>?_⟩;have h4:i<hs.length:=by omega
 have hr:=hE.2 i h4 (by omega);have h6:L.getD i []=L[i]'(by omega):=zG (by omega)
 have h3:0<(nats (L[i]'(by omega))).length:=by
  rw[zT,<- h6];exact List.length_pos_iff.2 hne
 rw[h6];obtain⟨g,off,cap,e,H3,h5,h8,h7⟩:=hr.1.row.some_ h3;rw[zT]at e h5;refine⟨g,off,cap,?_,h5,h8,fun j hj=>h7.nat j hj⟩;rw[ha.cell i h4,e]
theorem RPr.addRow (h:RPr w0 B o mb np pv L T m q tl w)(hg:w.grownBy w' none){e sz n:Nat}{v:Value}{xs:List Value}(ho:w'.ownsRow w.heap.size e sz v n xs)(he:e≠88):RPr w0 B o mb np pv L T m q (tl++[⟨B,e,v,n,xs,sz⟩]) w':=by
 obtain⟨X,hs,hn,sS,sN,cS,cN,u,c,hB,hE,hN,hM,h1,h2,hu,hl,h4,h3⟩:=h;have h0:=hB.mem.keep hg;exact⟨X,hs,hn,sS,sN,cS,cN,u,c,(hB.add hg ho he).rebase,hE.kept h0 hg.size,hN.kept h0 hg.size,hM.kept hg (by simp),h1,h2,hu,hl,h4,h3⟩
theorem RPr.own (h:RPr w0 B o mb np pv L T m q tl w){r:RowS}(hr:r∈tl):w.ownsRow r.base r.e r.sz r.v r.n r.xs:=by
 obtain⟨X,hs,hn,sS,sN,cS,cN,u,c,hB,hE,hN,hM,h0,h1,hu,hl,h3,h2⟩:=h;exact hB.own (List.mem_cons_of_mem _ (List.mem_cons_of_mem _ hr))
theorem RPr.app (h:RPr w0 B o mb np pv L T m q tl w){j:Nat}{r:RowS}(hr:tl[j]?=some r){v':Value}{n':Nat}{us:List Value}(ho:w'.ownsRow r.base r.e r.sz v' n' (r.xs++us))(hg:w.grownBy w' r.v.ownBlock)(hm:qH w w' r.v v'):RPr w0 B o mb np pv L T m q (tl.set j ⟨r.base,r.e,v',n',r.xs++us,r.sz⟩) w':=by
 obtain⟨X,hs,hn,sS,sN,cS,cN,u,c,hB,hE,hN,hM,h3,h4,hu,hl,h6,h5⟩:=h;have h0:=List.mem_of_getElem? hr;have h1:r.v.ownBlock≠some mb:=yD (es:=#[]) (clock:=0) (hB.own (List.mem_cons_of_mem _ (List.mem_cons_of_mem _ h0))) hM.obj;have h2:=hB.appAt (j:=j+2) hr ho hg hm;exact⟨X,hs,hn,sS,sN,cS,cN,u,c,h2.rebase,hE.kept h2.kept h2.wk,hN.kept h2.kept h2.wk,hM.kept hg h1,h3,h4,hu,hl,h6,h5⟩
theorem RPr.off (h:RPr w0 B o mb np pv L T m q tl w):o≠mb:=by
 obtain⟨X,hs,hn,sS,sN,cS,cN,u,c,hB,hE,hN,hM,h0,h1,hu,hl,h3,h2⟩:=h;intro e;obtain⟨es,clock,hb⟩:=hM.obj;have:=hB.box;rw[e,hb]at this;simp at this
theorem RPr.pushS {r:RowS}{v:Value}{xs:List Nat}{n u c:Nat}(h:RPr w0 B o mb np pv L T m q (r::⟨B,3,v,n,nats xs,1⟩::[]) w)(hg:w.grownBy w1 (some mb))(hM1:MapK 9 (qD np) KR w1 mb u c (numE (L++[xs])))(hu1:u<=2 * m+1):∃ hs sS cS,w1.ownsRow B 34 1 (.slice sS m cS) m hs/\w1.cell? ⟨o,1,none⟩=some (.slice sS m cS)/\B<=w1.heap.size/\∀ w2 s' c',w2.ownsRow B 34 1 (.slice s' (m+1) c') (m+1) (hs++[v])->w1.grownBy w2 (Value.slice sS m cS).ownBlock->qH w1 w2 (.slice sS m cS) (.slice s' (m+1) c')->w2.cell? ⟨o,1,none⟩=some (.slice sS m cS)/\w2.frozen? ⟨o,1,none⟩=false/\RPr w0 B o mb np pv (L++[xs]) T (m+1) q (r::[]) (w2.setCell ⟨o,1,none⟩ (.slice s' (m+1) c')):=by
 have h2:=h.off;obtain⟨X,hs,hn,sS,sN,cS,cN,u0,c0,hB,hE,hN,hM,h5,h6,hu,hl,h7,H3⟩:=h;have h0:=hB.far hg (fun r hr=>yD (es:=#[]) (clock:=0) (hB.mem.own r hr) hM.obj) h5 h2 h6;have H1:=h0.rebase;have H8:=hE.kept h0.kept h0.wk;have H6:=hN.kept h0.kept h0.wk;have h1:=H1.own (r:=⟨B,3,v,n,nats xs,1⟩) (by simp);have H2:v.ownBlock≠some mb:=yD (es:=#[]) (clock:=0) h1 hM1.obj
 have h3:∀ j,(X j\/v.ownBlock=some j)->B<=j:=fun j hj=>by
  rcases hj with hj|hj
  ·exact H3 j hj
  ·exact(h1.lt j hj).1
 have hR:=BoxS.retire (rs:=(⟨B,34,.slice sS m cS,m,hs,1⟩::⟨B,34,.slice sN q cN,q,hn,1⟩::r::[])) (r:=⟨B,3,v,n,nats xs,1⟩) H1;have h8:=zH hR.box 1 (by simp);simp only[List.getElem_toArray,List.getElem_cons_zero,List.getElem_cons_succ]at h8;have H5:RowX (fun j=>X j\/v.ownBlock=some j) 3 w1 v (nats xs):=RowX.of_owns h1 (fun j hj=>.inr hj);have h4:=hR.own (r:=⟨B,34,.slice sS m cS,m,hs,1⟩) (by simp);have H4:(Value.slice sS m cS).ownBlock≠some mb:=yD (es:=#[]) (clock:=0) h4 hM1.obj;refine⟨hs,sS,cS,h4,h8,Nat.le_trans hR.base hR.wk,fun w2 s' c' hown hg2 hmv=>?_⟩;have hA:=hR.appAt (j:=0) rfl hown hg2 hmv;have h9:=zH hA.box 1 (by simp);simp only[List.getElem_toArray,List.getElem_cons_zero,List.getElem_cons_succ]at h9;have hZ:=hA.set 1 (.slice s' (m+1) c');have H0:=fun j hj=>hZ.kept j hj;have H7:=(hM1.kept hg2 H4).kept (zC w2 ⟨o,1,none⟩ (.slice s' (m+1) c')) (fun e=>h2 (Oj e));refine⟨h9,zE hA.box 1,⟨_,hs++[v],hn,s',sN,c',cN,u,c,hZ.rebase,((H8.mono (fun j hj=>.inl hj)).snoc H5).kept H0 hZ.wk,(H6.mono (fun j hj=>.inl hj)).kept H0 hZ.wk,H7,fun e=>?_,h6,by omega,⟨by rw[List.length_append,hl.1];rfl,hl.2⟩,⟨by rw[List.length_append,h7.1];rfl,h7.2⟩,h3⟩⟩;rcases e with e|e
 ·exact h5 e
 ·exact H2 e
theorem RPr.pushN {v:Value}{xs:List Nat}{n:Nat}(h:RPr w0 B o mb np pv L T m q (⟨B,3,v,n,nats xs,1⟩::[]) w):∃ hs sN cN,w.ownsRow B 34 1 (.slice sN q cN) q hs/\w.cell? ⟨o,2,none⟩=some (.slice sN q cN)/\B<=w.heap.size/\∀ w2 s' c',w2.ownsRow B 34 1 (.slice s' (q+1) c') (q+1) (hs++[v])->w.grownBy w2 (Value.slice sN q cN).ownBlock->qH w w2 (.slice sN q cN) (.slice s' (q+1) c')->w2.cell? ⟨o,2,none⟩=some (.slice sN q cN)/\w2.frozen? ⟨o,2,none⟩=false/\RPr w0 B o mb np pv L (T++[xs]) m (q+1) [] (w2.setCell ⟨o,2,none⟩ (.slice s' (q+1) c')):=by
 have h1:=h.off;obtain⟨X,hs,hn,sS,sN,cS,cN,u,c,hB,hE,hN,hM,h9,H0,hu,hl,h4,H1⟩:=h;have h0:=hB.own (r:=⟨B,3,v,n,nats xs,1⟩) (by simp);have h8:v.ownBlock≠some mb:=yD (es:=#[]) (clock:=0) h0 hM.obj
 have h2:∀ j,(X j\/v.ownBlock=some j)->B<=j:=fun j hj=>by
  rcases hj with hj|hj
  ·exact H1 j hj
  ·exact(h0.lt j hj).1
 have hR:=BoxS.retire (rs:=(⟨B,34,.slice sS m cS,m,hs,1⟩::⟨B,34,.slice sN q cN,q,hn,1⟩::[])) (r:=⟨B,3,v,n,nats xs,1⟩) hB;have h5:=zH hR.box 2 (by simp);simp only[List.getElem_toArray,List.getElem_cons_zero,List.getElem_cons_succ]at h5;have H2:RowX (fun j=>X j\/v.ownBlock=some j) 3 w v (nats xs):=RowX.of_owns h0 (fun j hj=>.inr hj);have h3:=hR.own (r:=⟨B,34,.slice sN q cN,q,hn,1⟩) (by simp);have H3:(Value.slice sN q cN).ownBlock≠some mb:=yD (es:=#[]) (clock:=0) h3 hM.obj;refine⟨hn,sN,cN,h3,h5,Nat.le_trans hR.base hR.wk,fun w2 s' c' hown hg2 hmv=>?_⟩;have hA:=hR.appAt (j:=1) rfl hown hg2 hmv;have h6:=zH hA.box 2 (by simp);simp only[List.getElem_toArray,List.getElem_cons_zero,List.getElem_cons_succ]at h6;have hZ:=hA.set 2 (.slice s' (q+1) c');have h7:=fun j hj=>hZ.kept j hj;have H4:=(hM.kept hg2 H3).kept (zC w2 ⟨o,2,none⟩ (.slice s' (q+1) c')) (fun e=>h1 (Oj e));refine⟨h6,zE hA.box 2,⟨_,hs,hn++[v],sS,s',cS,c',u,c,hZ.rebase,(hE.mono (fun j hj=>.inl hj)).kept h7 hZ.wk,((hN.mono (fun j hj=>.inl hj)).snoc H2).kept h7 hZ.wk,H4,fun e=>?_,H0,hu,⟨hl.1,by rw[List.length_append,hl.2];rfl⟩,⟨h4.1,by rw[List.length_append,h4.2];rfl⟩,h2⟩⟩;rcases e with e|e
 ·exact h9 e
 ·exact h8 e
theorem RPr.drop {r:RowS}(h:RPr w0 B o mb np pv L T m q (tl++[r]) w):RPr w0 B o mb np pv L T m q tl w:=by
 obtain⟨X,hs,hn,sS,sN,cS,cN,u,c,hB,hE,hN,hM,h3,h4,hu,hl,h6,h5⟩:=h;have h0:=hB.own (r:=r) (by simp);have h2:r.v.ownBlock≠some mb:=yD (es:=#[]) (clock:=0) h0 hM.obj
 have h1:∀ j,(X j\/r.v.ownBlock=some j)->B<=j:=fun j hj=>by
  rcases hj with hj|hj
  ·exact h5 j hj
  ·rw[<- (hB.typ r (by simp)).1];exact(h0.lt j hj).1
 have hR:=BoxS.retire (rs:=(⟨B,34,.slice sS m cS,m,hs,1⟩::⟨B,34,.slice sN q cN,q,hn,1⟩::tl)) (r:=r) hB;refine⟨_,hs,hn,sS,sN,cS,cN,u,c,hR,hE.mono (fun j hj=>.inl hj),hN.mono (fun j hj=>.inl hj),hM,fun e=>?_,h4,hu,hl,h6,h1⟩;rcases e with e|e
 ·exact h3 e
 ·exact h2 e
def eX (B:Nat)(w:World)(v pv:Value)(L T:List (List Nat)):Prop:=∃ sS sN cS cN hs hn,v=.agg #[pv,.slice sS L.length cS,.slice sN T.length cN]/\w.ownsRow B 34 1 (.slice sS L.length cS) L.length hs/\w.ownsRow B 34 1 (.slice sN T.length cN) T.length hn/\wH w.heap.size 3 nats w hs L/\wH w.heap.size 3 nats w hn T
theorem RPr.val (h:RPr w0 B o mb np pv L T m q tl w):∃ sS sN cS cN,w.heap[o]?=some (.cells #[pv,.slice sS L.length cS,.slice sN T.length cN] 88 (0,0))/\∀ w2 row,w.grownBy w2 row->(∀ j,row=some j->j<B)->eX B w2 (.agg #[pv,.slice sS L.length cS,.slice sN T.length cN]) pv L T:=by
 obtain⟨X,hs,hn,sS,sN,cS,cN,u,c,hB,hE,hN,hM,h1,h2,hu,⟨rfl,rfl⟩,h3,h0⟩:=h;refine⟨sS,sN,cS,cN,hB.box,fun w2 row hg hr=>?_⟩;have hk:vZ X w w2:=vZ.of_grown hB.mem.lt hg (fun j e hx=>by have:=hr j e;have:=h0 j hx;omega);exact⟨sS,sN,cS,cN,hs,hn,rfl,yR (hB.own (r:=⟨B,34,.slice sS L.length cS,L.length,hs,1⟩) (by simp)) hg hr,yR (hB.own (r:=⟨B,34,.slice sN T.length cN,T.length,hn,1⟩) (by simp)) hg hr,(hE.kept hk hg.size).rowsT,(hN.kept hk hg.size).rowsT⟩
end
end Go.Proofs.Ytjfdomfendbhfaa
