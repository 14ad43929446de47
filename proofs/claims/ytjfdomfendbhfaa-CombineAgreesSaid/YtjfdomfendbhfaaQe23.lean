/- Part 23 of the proof: PDfa. -/
import Derived.Test.YtjfdomfendbhfaaQe19
import Derived.Test.YtjfdomfendbhfaaQe22
import Derived.Deep.OwnRows
set_option linter.unusedVariables false
set_option linter.unusedSimpArgs false
namespace Go.Proofs.Ytjfdomfendbhfaa
open Go.RowKit
def yM (bs:List ByteArray) (letters:Int):DfaV:=if patW bs letters=0 then minD (patD letters.toNat (bs.map zI)) letters.toNat else gL
def nthL (bs:List ByteArray) (i:Nat):List Nat:=zI (bs.getD i ⟨#[]⟩)
def sV (bs:List ByteArray):List (List Nat):=((bs.map zI).drop 1).dropLast
theorem qT (bs:List ByteArray):(sV bs).length=bs.length - 1 - 1:=by simp[sV]
theorem midsL_get {bs:List ByteArray} {i:Nat} (h:i < bs.length - 1 - 1):(sV bs).getD i []=nthL bs (1+i):=by
 rw[zF (by rw[qT];exact h),nthL,zF (show 1+i < bs.length by omega)]
 simp[sV,Nat.add_comm]
theorem rows_one {k:Nat} {bs:List ByteArray} (h:bs.length=1):xJ k (bs.map zI)=[List.replicate k 0] ++ sE k (nthL bs 0) (nthL bs 0).length ++ [List.replicate k 0]:=by
 match bs,h with
 | [b],_=>rfl
theorem rows_more {k:Nat} {bs:List ByteArray} (h:2<=bs.length):xJ k (bs.map zI)=[List.replicate k 0] ++ sE k (nthL bs 0) (nthL bs 0).length ++ midN k (1+(nthL bs 0).length) (sV bs) ++ sufN k (1+(nthL bs 0).length+yE (sV bs)) (nthL bs (bs.length - 1)):=by
 match bs,h with
 | b :: c :: rest,_ =>
  have e:((c :: rest).map zI).getLastD []=nthL (b :: c :: rest) ((b :: c :: rest).length - 1):=by
   rw[List.getLastD_eq_getLast?,List.getLast?_eq_getElem?,nthL]
   simp only[List.length_map,List.length_cons,List.getElem?_map]
   rw[show rest.length+1+1 - 1=rest.length+1 by omega,show rest.length+1 - 1=rest.length by omega]
   have h2:rest.length < (c :: rest).length:=by simp
   rw[List.getElem?_eq_getElem h2,zF (show rest.length+1 < (b :: c :: rest).length by simp)]
   rfl
  show [List.replicate k 0] ++ sE k (zI b) (zI b).length ++ midN k (1+(zI b).length) ((c :: rest).map zI).dropLast ++ sufN k (1+(zI b).length+yE ((c :: rest).map zI).dropLast) (((c :: rest).map zI).getLastD [])=_
  rw[e];rfl
theorem mids_sum {bs:List ByteArray} (i:Nat):yE ((sV bs).take i)+(nthL bs 0).length<=uP bs:=by
 rw[uO]
 have h1:=sW (sV bs) i
 match bs with
 | []=>simp[sV,yE,nthL,zI]at h1 ⊢
 | b :: rest =>
  have h2:yE (sV (b :: rest))<=yE (rest.map zI):=by
   show yE (rest.map zI).dropLast<=_
   rw[List.dropLast_eq_take];exact sW _ _
  rw[List.map_cons,uF]
  show _+(zI b).length<=_
  omega
theorem BB.mat {W0 W:World} {bb k:Nat} {t:List (List Nat)} {gs:List Nat} {sn:Option Addr} {cn:Nat} (h:BB W0 W bb k t gs sn cn) (hk:k<=maxLen):Mat W.heap.size W (.slice sn t.length cn) (t.map zl):=by
 refine Mat.of_rows (B:=W.heap.size) h.own ⟨by rw[List.length_map,List.length_map,h.len],fun i h1 h2=>?_⟩ (Nat.le_refl _)
 have hi:i < t.length:=by simpa using h2
 have hg:i < gs.length:=by rw[h.len];exact hi
 obtain⟨ha,hl⟩:=h.row i hi
 have:=(RowX.of_arr (X:=fun _=>True) ha (by rw[yB];exact hl) hk trivial).1
 rw[zF hg,zF hi]at this
 simp only[List.getElem_map]
 have e:ints (zl t[i])=nats t[i]:=by simp[ints,zl,nats]
 rw[e]
 exact this
structure NewD (wo W:World) (T F k RL:Nat) (sn:Option Addr) (cn:Nat):Prop where
 box:W.heap[T]?=some (.cells #[.int .i64 (k:Int),.int .i64 1,.slice (some ⟨F,0,none⟩) RL RL,.slice sn RL cn] 42 (0,0))
 arr:Arr W F 4 (bls (List.replicate RL false))
 grown:wo.grownBy W none
 lo:wo.heap.size<=T/\wo.heap.size<=F
theorem qDD (wo:World) (k RL:Nat) (sn:Option Addr) (cn:Nat):NewD wo (((wo.alloc (.cells (madeCells #[.bool false] RL) 4)).alloc (.cells #[.int .i64 (k:Int),.int .i64 1,.slice (some ⟨wo.heap.size,0,none⟩) RL RL,.slice sn RL cn] 42)).drew) (wo.heap.size+1) wo.heap.size k RL sn cn:=by
 have a1:=Arr.new wo 4 (madeCells #[.bool false] RL)
 rw[nQ]at a1
 exact⟨tO wo _ _,(a1.kept (Ga _ (.cells #[.int .i64 (k:Int),.int .i64 1,.slice (some ⟨wo.heap.size,0,none⟩) RL RL,.slice sn RL cn] 42) none) (by simp)).of_heap rfl,zB (xO (Ga wo _ none) _) (zL _ none) (by simp),by omega⟩
theorem qDC (wo:World) (k RL:Nat) (sn:Option Addr) (cn:Nat):NewD wo (((wo.alloc (.cells #[.int .i64 (k:Int),.int .i64 1,.slice (some ⟨wo.heap.size+1,0,none⟩) RL RL,.slice sn RL cn] 42)).alloc (.cells (madeCells #[.bool false] RL) 4)).drew) wo.heap.size (wo.heap.size+1) k RL sn cn:=by
 have a1:=Arr.new (wo.alloc (.cells #[.int .i64 (k:Int),.int .i64 1,.slice (some ⟨wo.heap.size+1,0,none⟩) RL RL,.slice sn RL cn] 42)) 4 (madeCells #[.bool false] RL)
 rw[nQ,zM]at a1
 exact⟨tR wo _ _,a1.of_heap rfl,zB (xO (Ga wo _ none) _) (zL _ none) (by simp),by omega⟩
theorem nL {W0 W:World} {bb k F RL:Nat} {bs:List ByteArray} {gs:List Nat} {sn:Option Addr} {cn:Nat} (h:BB W0 W bb k (xJ k (bs.map zI)) gs sn cn) (hk:k<=6) (hR:RL=(xJ k (bs.map zI)).length) (h0:0 < RL) (ha:Arr W F 4 (bls ((List.replicate RL false).set (RL - 1) true))) (hRm:RL<=maxLen) :
  tE W.heap.size W (.agg #[.int .i64 (k:Int),.int .i64 1,.slice (some ⟨F,0,none⟩) RL RL,.slice sn RL cn]) (patD k (bs.map zI)):=by
 have hm:=h.mat (by unfold maxLen;omega)
 rw[bD,<- hR]at hm
 have hl:(vV k (bs.map zI)).length=RL:=by rw[<- bD,List.length_map,hR]
 have hf:(List.replicate RL false).set (RL - 1) true=(patD k (bs.map zI)).final:=by
  show _=List.replicate ((vV k (bs.map zI)).length - 1) false ++ [true]
  rw[hl]
  obtain⟨r,rfl⟩:∃ r,RL=r+1:=⟨RL - 1,by omega⟩
  rw[List.replicate_succ',List.set_append_right _ _ (by simp)]
  simp
 refine⟨_,_,rfl,?_,hm⟩
 rw[<- hf]
 have:=(RowX.of_arr (X:=fun _=>True) ha (by rw[xE,List.length_set,List.length_replicate]) hRm trivial).1
 exact this.row
theorem mG {k:Nat} {bs:List ByteArray} (hk1:1<=k) (hk6:k<=6) (h0:0 < bs.length) (ht:uP bs<=64):VD (patD k (bs.map zI)) (xJ k (bs.map zI)).length k:=by
 match bs,h0 with
 | b :: rest,_ =>
  rw[uO,List.map_cons,uF]at ht
  rw[List.map_cons,qM]
  exact pat_vd hk1 hk6 ht
set_option maxRecDepth 100000 in
set_option maxHeartbeats 2000000 in
theorem pdfa_anyT (B:Nat) (w:World) (v:Value) (bs:List ByteArray) (letters:Int) (h:Row B w v (txtV bs)) (hB:B<=w.heap.size) (hs:∀ i (hi:i < bs.length),bs[i].size<=maxLen) :
  Calls Try.prog 83 #[.agg #[v],.int .i64 letters] w (bM w (patW bs letters) (yM bs letters)):=by
 have H:=Kh h;have HS:=Kh hs
 obtain⟨a,cap,rfl⟩:=h.shape
 rw[yN]at H ⊢
 obtain⟨e6,c6,f9,j2⟩:((w.alloc (.cells #[.slice a bs.length cap] 28)).alloc (.cells #[.int .i64 0,.int .i64 0,.slice none 0 0,.slice none 0 0] 42)).heap[w.heap.size]?=some (.cells #[.slice a bs.length cap] 28 (0,0))/\((w.alloc (.cells #[.slice a bs.length cap] 28)).alloc (.cells #[.int .i64 0,.int .i64 0,.slice none 0 0,.slice none 0 0] 42)).heap[w.heap.size+1]?=some (.cells #[.int .i64 0,.int .i64 0,.slice none 0 0,.slice none 0 0] 42 (0,0))/\w.grownBy ((w.alloc (.cells #[.slice a bs.length cap] 28)).alloc (.cells #[.int .i64 0,.int .i64 0,.slice none 0 0,.slice none 0 0] 42)) none/\((w.alloc (.cells #[.slice a bs.length cap] 28)).alloc (.cells #[.int .i64 0,.int .i64 0,.slice none 0 0,.slice none 0 0] 42)).heap.size=w.heap.size+2 :=
  ⟨tR w _ _,tO w _ _,xO (Ga w _ none) _,by rw[zM,zM]⟩
 obtain⟨wA,i4⟩:∃ wA,wA=(w.alloc (.cells #[.slice a bs.length cap] 28)).alloc (.cells #[.int .i64 0,.int .i64 0,.slice none 0 0,.slice none 0 0] 42):=⟨_,rfl⟩
 rw[<- i4]at e6 c6 f9 j2
 obtain⟨P,hP⟩:∃ P,P=w.heap.size:=⟨_,rfl⟩
 obtain⟨Q,hQ⟩:∃ Q,Q=w.heap.size+1:=⟨_,rfl⟩
 have l4:=Kh hP;have l3:Hid (Q=P+1):=Kh (by omega)
 have n3:P < Q:=by omega
 have n0:Q < wA.heap.size:=by omega
 have n2:w.heap.size<=P:=by omega
 rw[<- hQ]at c6
 rw[<- hP]at e6 hB
 have c0:wA.cell? ⟨P,0,none⟩=some (.slice a bs.length cap):=by simpa using zK e6 0 (by simp)
 have m2:=Kh e6;have m1:=Kh c6;have l7:=Kh f9;have l1:=Kh i4
 have k1:=Kh (nK B wA _ bs letters (H.out.kept f9 (by simp)) hs)
 rw[show Row B w (.slice a bs.length cap) (txtV bs)=Row B w (.slice a bs.length cap) (txtV bs) from rfl]at H
 clear e6 c6 f9 i4 h hs hP hQ j2
 go_enter Try.func83,Try.ntmps83
 go_upto_region 1 with fail
 rw[<- l1.out,<- l4.out,<- l3.out]
 go_wp2_with fail
 refine k1.out.mono ?_
 rintro e w1 ⟨rfl,e3⟩
 have m3:=e3.size
 have d8:=Kh (zB l7.out e3 (by simp))
 have j1:=Kh (zA m2.out e3 (by simp));have H5:=Kh (zA m1.out e3 (by simp))
 have q1:=zG H5.out
 have f0:=zE H5.out 0
 have f1:=zE H5.out 1
 have f2:=zE H5.out 2
 have f3:=zE H5.out 3
 clear e3 k1 c0
 by_cases hE:patW bs letters=0
 case neg =>
  have HD:Hid (yM bs letters=gL):=Kh (if_neg hE)
  obtain⟨E,i6⟩:∃ E,E=patW bs letters:=⟨_,rfl⟩
  rw[<- i6]at hE ⊢
  have e1:(E != 0)=true:=by rw[bne_iff_ne];exact hE
  obtain⟨q0,q1,q2,q3⟩:=q1
  have l9:=Kh i6
  clear hE i6
  go_wp2
  obtain⟨a0,H9⟩:=wG H5.out (.int .i64 0) (.int .i64 0) (.slice none 0 0) (.slice none 0 0)
  obtain⟨wz,a5⟩:∃ wz,wz=(((w1.setCell ⟨Q,0,none⟩ (.int .i64 0)).setCell ⟨Q,1,none⟩ (.int .i64 0)).setCell ⟨Q,2,none⟩ (.slice none 0 0)).setCell ⟨Q,3,none⟩ (.slice none 0 0):=⟨_,rfl⟩
  rw[<- a5]at a0 H9 ⊢
  clear a5
  obtain⟨r0,r1,r2,r3⟩:=zG a0
  clear q0 q1 q2 q3 f0 f1 f2 f3
  refine bodyPost_ret (v:=.tuple #[.agg #[.int .i64 0,.int .i64 0,.slice none 0 0,.slice none 0 0],.int .i64 E]) (by simp[results,Try.results83,go_sem,r0,r1,r2,r3]) rfl ?_
  exact⟨_,_,by rw[l9.out,HD.out];rfl,by rw[HD.out];exact DfaT.zero _,zB d8.out H9 (fun k e=>by have h7:Q=k:=Oj e;omega)⟩
 rw[hE]
 clear q1 f0 f1 f2 f3
 obtain⟨c4,a6,b1,m4,a8,j3,j6⟩:=qAU (wI.1 hE)
 obtain⟨k,hk⟩:∃ k:Nat,letters=(k:Int):=⟨letters.toNat,by omega⟩
 have HD:Hid (yM bs letters=minD (patD k (bs.map zI)) k):=Kh (by
  rw[yM,if_pos hE,hk,Int.toNat_natCast])
 subst hk
 have c4:1<=k:=by omega
 have a6:k<=6:=by omega
 obtain⟨b,off,_,ea,m9,k9,j9,j4⟩:=H.out.some_ (by rw[yN];exact b1)
 rw[yN]at ea k9
 simp only[Value.slice.injEq]at ea
 obtain⟨rfl,_,rfl⟩:=ea
 have m8:cap<=9223372036854775807:=by unfold maxLen at j9;omega
 have d5:Hid (∀ W:World,w1.grownBy W none->∀ i,i < bs.length->W.cell? ⟨b,off+i,none⟩=some (.string (bs.getD i ⟨#[]⟩))):=Kh (fun W hg i hi=>nG ((j4.kept d8.out (by simp)).kept hg (by simp)) i hi)
 have e7:Hid (∀ i,i < bs.length->zP (bs.getD i ⟨#[]⟩) (k:Int)=true/\(bs.getD i ⟨#[]⟩).size<=64):=Kh (fun i hi=>by
  rw[zF hi];exact⟨j3 i hi,by have:=total_get hi;omega⟩)
 have l5:Hid (∀ i,i < bs.length->0 < i->i+1 < bs.length->0 < (bs.getD i ⟨#[]⟩).size):=Kh (fun i hi h0 h1=>by rw[zF hi];exact j6 i hi h0 h1)
 have HE:=Kh hE
 clear hE j3 j6 j4 j9
 have i7:Hid (∀ W:World,w1.grownBy W none->W.cell? ⟨P,0,none⟩=some (.slice (some ⟨b,off,none⟩) bs.length cap)):=Kh (fun W hg=>by simpa using zK (zA j1.out hg (by simp)) 0 (by simp))
 obtain⟨bb,i2⟩:∃ bb,bb=w1.heap.size:=⟨_,rfl⟩
 obtain⟨w2,g3⟩:∃ w2,w2=w1.alloc (.cells #[.int .i64 (k:Int),.slice none 0 0] 162):=⟨_,rfl⟩
 have i0:=Ga w1 (.cells #[.int .i64 (k:Int),.slice none 0 0] 162) none
 have c6:=heap_alloc_new w1 (.cells #[.int .i64 (k:Int),.slice none 0 0] 162)
 rw[<- g3]at i0 c6
 rw[<- i2]at c6
 have f5:Hid (BB w1 w2 bb k [] [] none 0):=Kh (BB.start c6 (by omega) i0)
 have l2:=Kh g3;have k4:=Kh i2
 clear i0 c6 g3 i2
 have n1:Q < bb:=by have:=k4.out;omega
 go_upto_region 5 with fail
 rw[<- l2.out,<- k4.out]
 go_wp2_with fail
 refine(qB w1 w2 bb k [] [] none 0 0 f5.out c4 a6 (by simp)).mono ?_
 rintro e w3 ⟨g0,sn3,cn3,rfl,g2⟩
 have p3:=i7.out _ g2.grown
 have s3:=d5.out _ g2.grown 0 b1
 rw[Nat.add_zero]at s3
 obtain⟨u0,g4⟩:∃ u,u=bs.getD 0 ⟨#[]⟩:=⟨_,rfl⟩
 rw[<- g4]at s3
 have k2:=Kh g4
 have k5:=Kh g2
 clear g4 g2 f5
 go_wp2_with fail
 have f8:=e7.out 0 b1
 rw[<- k2.out]at f8
 refine(bprefix_any w1 w3 bb k _ _ sn3 cn3 u0 k5.out (by simp) c4 a6 f8.1 f8.2).mono ?_
 rintro e w4 ⟨gs4,sn4,cn4,rfl,e5⟩
 have e4:[] ++ [List.replicate k 0] ++ sE k (zI u0) u0.size=[List.replicate k 0] ++ sE k (nthL bs 0) (nthL bs 0).length:=by
  rw[nthL,<- k2.out,yH];rfl
 rw[e4]at e5
 have p4:=i7.out _ e5.grown
 have f7:=Kh e5
 have l8:=Kh e5.grown
 clear e5 e4 p3 s3 f8 k5
 by_cases h1:bs.length=1
 ·have l0:((bs.length:Int) - 1 == 0)=true:=by simp[h1]
  have H1:=Kh h1
  clear h1
  go_wp2_with fail
  refine(qB w1 w4 bb k _ gs4 sn4 cn4 0 f7.out c4 a6 (by
   have h9:=(e7.out 0 b1).2
   have e9:([List.replicate k 0] ++ sE k (nthL bs 0) (nthL bs 0).length).length=1+(bs.getD 0 ⟨#[]⟩).size:=by simp[sE,nthL,yH];omega
   omega)).mono ?_
  rintro e w5 ⟨g5,sn5,cn5,rfl,c5⟩
  have er:[List.replicate k 0] ++ sE k (nthL bs 0) (nthL bs 0).length ++ [List.replicate k 0]=xJ k (bs.map zI):=(rows_one H1.out).symm
  rw[er]at c5
  obtain⟨gs5,e2⟩:∃ l,l=gs4 ++ [g5]:=⟨_,rfl⟩
  rw[<- e2]at c5
  have b0:=Kh c5
  clear c5 er f7 e2
  obtain⟨c50,c51,c5f⟩:=b0.out.cells
  have g7:=qN (k:=k) b1 a8
  obtain⟨RL,d2⟩:∃ RL,RL=(xJ k (bs.map zI)).length:=⟨_,rfl⟩
  rw[<- d2]at c51 g7
  have a9:=Kh d2
  have d9:=fJ RL (by omega)
  have a0:=zH b0.out.box
  obtain⟨wo,rfl⟩:∃ wo:World,wo=w5:=⟨_,rfl⟩
  clear d2
  go_wp2_with fail
  go_region
  ·obtain⟨w7,a1⟩:∃ w7,w7=((wo.alloc (.cells (madeCells #[.bool false] RL) 4)).alloc (.cells #[.int .i64 (k:Int),.int .i64 1,.slice (some ⟨wo.heap.size,0,none⟩) RL RL,.slice sn5 RL cn5] 42)).drew:=⟨_,rfl⟩
   have h8:=qDD wo k RL sn5 cn5
   rw[<- a1]at h8 ⊢
   obtain⟨T,hT⟩:∃ T,T=wo.heap.size+1:=⟨_,rfl⟩
   obtain⟨F,hF⟩:∃ F,F=wo.heap.size:=⟨_,rfl⟩
   rw[<- hT]at h8 ⊢
   rw[<- hF]at h8 ⊢
   have d1:T≠F:=by omega
   clear hT hF
   have h4:=Kh h8
   have d4:=Kh a1
   clear h8 a1 c50 c51 c5f d9
   have h2:=Kh (b0.out.grow h4.out.grown)
   obtain⟨b70,b71,b7f⟩:=h2.out.cells
   rw[<- a9.out]at b71
   obtain⟨t70,t71,t72,t73⟩:=zG h4.out.box
   obtain⟨R1,b6⟩:∃ R1,R1=RL - 1:=⟨_,rfl⟩
   have e71:(RL:Int) - 1=(R1:Int):=by omega
   have e72:IntKind.i64.wrap ((RL:Int) - 1)=(R1:Int):=by rw[e71];exact xX (by omega)
   have H3:R1 < RL:=by omega
   have b5:(R1:Int) < RL:=by omega
   have cF:=h4.out.arr.bool R1 (by rw[List.length_replicate];exact H3)
   have fF:=h4.out.arr.frozen R1
   have i1:(bls (List.replicate RL false)).length=RL:=by rw[xE,List.length_replicate]
   have d6:=Kh b6
   clear b6
   go_wp2_with fail
   go_region
   obtain⟨w8,H6⟩:∃ w8,w8=(w7.setCell ⟨F,R1,none⟩ (.bool true)).drew:=⟨_,rfl⟩
   have h5:w7.grownBy w8 (some F):=by rw[H6];exact zB (zC w7 ⟨F,R1,none⟩ _) (zL _ none) (by simp)
   have b4:Arr w8 F 4 (bls ((List.replicate RL false).set (RL - 1) true)):=by
    rw[H6,<- d6.out]
    exact(h4.out.arr.bool_set R1 (by rw[List.length_replicate];exact H3) true).of_heap rfl
   have i5:w7.heap.size<=w8.heap.size:=h5.size
   obtain⟨cF8,rF8,h3,_⟩:=h4.out.arr
   have a3:BB w1 w8 bb k (xJ k (bs.map zI)) gs5 sn5 cn5:=by
    refine⟨zA h2.out.box h5 ?_,h2.out.own.kept h5 (.inr (zS h2.out.own h3 (by decide))),h2.out.len,fun i hi=>⟨(h2.out.row i hi).1.kept h5 ?_,(h2.out.row i hi).2⟩,h2.out.nd,h2.out.lo,h2.out.glo,zB h2.out.grown h5 (fun q e=>?_)⟩
    ·intro e
     have e:=Oj e
     rw[e,h2.out.box]at h3
     simp only[Option.some.injEq,Obj.cells.injEq]at h3
     exact absurd h3.2.1 (by decide)
    ·intro e
     have e:=Oj e
     obtain⟨cu,rs,a2,_⟩:=(h2.out.row i hi).1
     rw[<- e,h3]at a2
     simp only[Option.some.injEq,Obj.cells.injEq]at a2
     exact absurd a2.2.1 (by decide)
    ·have e:F=q:=Oj e
     have:=h4.out.lo
     have:=b0.out.grown.size
     omega
   have H0:=nL a3 a6 a9.out (by omega) b4 (by unfold maxLen;omega)
   have H7:=mG c4 a6 b1 a8
   rw[<- a9.out]at H7
   have b9:=Kh (pI w8.heap.size w8 _ (patD k (bs.map zI)) RL k (Nat.le_refl _) H0 H7 (by omega))
   obtain⟨t80,t81,t82,t83⟩:=zG (zA h4.out.box h5 (fun e=>d1 (Oj e).symm))
   have H4:Hid (w1.grownBy w8 none):=Kh a3.grown
   have a4:Hid ((minD (patD k (bs.map zI)) k).letters=k/\(minD (patD k (bs.map zI)) k).start=0):=Kh ⟨(pY H7).hk,rfl⟩
   rw[<- H6]
   clear H6 h5 b4 h3 a3 H0 H7 t70 t71 t72 t73 b70 b71 b7f cF fF h2 h4 d4
   go_wp2_with fail
   refine b9.out.mono ?_
   rintro e w9 ⟨v9,rfl,b3,b2⟩
   have H8:=Kh b3
   obtain⟨o9,g6,sf9,cf9,sn9,cn9,rfl,g8,H2⟩:=b3
   obtain⟨R,hR⟩:∃ R,R=minD (patD k (bs.map zI)) k:=⟨_,rfl⟩
   rw[<- hR]at H2 H8 a4 ⊢
   rw[a4.out.1,a4.out.2]at H8 ⊢
   obtain⟨FL,b8⟩:∃ FL,FL=R.final.length:=⟨_,rfl⟩
   obtain⟨NL,b7⟩:∃ NL,NL=R.next.length:=⟨_,rfl⟩
   rw[<- b8,<- b7]at H8 ⊢
   have HR:=Kh hR
   have c2:=Kh (zB H4.out b2 (by simp))
   have h6:=zA H5.out c2.out (by simp)
   have c3:=Kh h6
   obtain⟨q0,q1,q2,q3⟩:=zG h6
   have f0:=zE h6 0
   have f1:=zE h6 1
   have f2:=zE h6 2
   have f3:=zE h6 3
   have d3:Q < w8.heap.size:=by have:=H4.out.size;omega
   clear H2 b8 b7 hR b2 h6 t80 t81 t82 t83 b9
   go_wp2
   obtain⟨a0,H9⟩:=wG c3.out (.int .i64 (k:Int)) (.int .i64 0) (.slice sf9 FL cf9) (.slice sn9 NL cn9)
   obtain⟨wz,a5⟩:∃ wz,wz=(((w9.setCell ⟨Q,0,none⟩ (.int .i64 (k:Int))).setCell ⟨Q,1,none⟩ (.int .i64 0)).setCell ⟨Q,2,none⟩ (.slice sf9 FL cf9)).setCell ⟨Q,3,none⟩ (.slice sn9 NL cn9):=⟨_,rfl⟩
   rw[<- a5]at a0 H9 ⊢
   clear a5
   obtain⟨r0,r1,r2,r3⟩:=zG a0
   clear q0 q1 q2 q3 f0 f1 f2 f3
   refine bodyPost_ret (v:=.tuple #[.agg #[.int .i64 (k:Int),.int .i64 0,.slice sf9 FL cf9,.slice sn9 NL cn9],.int .i64 0]) (by simp[results,Try.results83,go_sem,r0,r1,r2,r3]) rfl ?_
   have d0:=H8.out.far H9 c3.out d3
   obtain⟨fv9,nv9,c8,c9⟩:=d0.t
   refine⟨fv9,nv9,?_,?_,zB (zB d8.out c2.out (by simp)) H9 (fun q e=>by have h7:Q=q:=Oj e;omega)⟩
   ·rw[HE.out,HD.out,<- HR.out,<- c8]
   ·rw[HD.out,<- HR.out];exact c9
  ·obtain⟨w7,a1⟩:∃ w7,w7=((wo.alloc (.cells #[.int .i64 (k:Int),.int .i64 1,.slice (some ⟨wo.heap.size+1,0,none⟩) RL RL,.slice sn5 RL cn5] 42)).alloc (.cells (madeCells #[.bool false] RL) 4)).drew:=⟨_,rfl⟩
   have h8:=qDC wo k RL sn5 cn5
   rw[<- a1]at h8 ⊢
   obtain⟨T,hT⟩:∃ T,T=wo.heap.size:=⟨_,rfl⟩
   obtain⟨F,hF⟩:∃ F,F=wo.heap.size+1:=⟨_,rfl⟩
   rw[<- hF]at h8 ⊢
   rw[<- hT]at h8 ⊢
   have d1:T≠F:=by omega
   clear hT hF
   have h4:=Kh h8
   have d4:=Kh a1
   clear h8 a1 c50 c51 c5f d9
   have h2:=Kh (b0.out.grow h4.out.grown)
   obtain⟨b70,b71,b7f⟩:=h2.out.cells
   rw[<- a9.out]at b71
   obtain⟨t70,t71,t72,t73⟩:=zG h4.out.box
   obtain⟨R1,b6⟩:∃ R1,R1=RL - 1:=⟨_,rfl⟩
   have e71:(RL:Int) - 1=(R1:Int):=by omega
   have e72:IntKind.i64.wrap ((RL:Int) - 1)=(R1:Int):=by rw[e71];exact xX (by omega)
   have H3:R1 < RL:=by omega
   have b5:(R1:Int) < RL:=by omega
   have cF:=h4.out.arr.bool R1 (by rw[List.length_replicate];exact H3)
   have fF:=h4.out.arr.frozen R1
   have i1:(bls (List.replicate RL false)).length=RL:=by rw[xE,List.length_replicate]
   have d6:=Kh b6
   clear b6
   go_wp2_with fail
   go_region
   obtain⟨w8,H6⟩:∃ w8,w8=(w7.setCell ⟨F,R1,none⟩ (.bool true)).drew:=⟨_,rfl⟩
   have h5:w7.grownBy w8 (some F):=by rw[H6];exact zB (zC w7 ⟨F,R1,none⟩ _) (zL _ none) (by simp)
   have b4:Arr w8 F 4 (bls ((List.replicate RL false).set (RL - 1) true)):=by
    rw[H6,<- d6.out]
    exact(h4.out.arr.bool_set R1 (by rw[List.length_replicate];exact H3) true).of_heap rfl
   have i5:w7.heap.size<=w8.heap.size:=h5.size
   obtain⟨cF8,rF8,h3,_⟩:=h4.out.arr
   have a3:BB w1 w8 bb k (xJ k (bs.map zI)) gs5 sn5 cn5:=by
    refine⟨zA h2.out.box h5 ?_,h2.out.own.kept h5 (.inr (zS h2.out.own h3 (by decide))),h2.out.len,fun i hi=>⟨(h2.out.row i hi).1.kept h5 ?_,(h2.out.row i hi).2⟩,h2.out.nd,h2.out.lo,h2.out.glo,zB h2.out.grown h5 (fun q e=>?_)⟩
    ·intro e
     have e:=Oj e
     rw[e,h2.out.box]at h3
     simp only[Option.some.injEq,Obj.cells.injEq]at h3
     exact absurd h3.2.1 (by decide)
    ·intro e
     have e:=Oj e
     obtain⟨cu,rs,a2,_⟩:=(h2.out.row i hi).1
     rw[<- e,h3]at a2
     simp only[Option.some.injEq,Obj.cells.injEq]at a2
     exact absurd a2.2.1 (by decide)
    ·have e:F=q:=Oj e
     have:=h4.out.lo
     have:=b0.out.grown.size
     omega
   have H0:=nL a3 a6 a9.out (by omega) b4 (by unfold maxLen;omega)
   have H7:=mG c4 a6 b1 a8
   rw[<- a9.out]at H7
   have b9:=Kh (pI w8.heap.size w8 _ (patD k (bs.map zI)) RL k (Nat.le_refl _) H0 H7 (by omega))
   obtain⟨t80,t81,t82,t83⟩:=zG (zA h4.out.box h5 (fun e=>d1 (Oj e).symm))
   have H4:Hid (w1.grownBy w8 none):=Kh a3.grown
   have a4:Hid ((minD (patD k (bs.map zI)) k).letters=k/\(minD (patD k (bs.map zI)) k).start=0):=Kh ⟨(pY H7).hk,rfl⟩
   rw[<- H6]
   clear H6 h5 b4 h3 a3 H0 H7 t70 t71 t72 t73 b70 b71 b7f cF fF h2 h4 d4
   go_wp2_with fail
   refine b9.out.mono ?_
   rintro e w9 ⟨v9,rfl,b3,b2⟩
   have H8:=Kh b3
   obtain⟨o9,g6,sf9,cf9,sn9,cn9,rfl,g8,H2⟩:=b3
   obtain⟨R,hR⟩:∃ R,R=minD (patD k (bs.map zI)) k:=⟨_,rfl⟩
   rw[<- hR]at H2 H8 a4 ⊢
   rw[a4.out.1,a4.out.2]at H8 ⊢
   obtain⟨FL,b8⟩:∃ FL,FL=R.final.length:=⟨_,rfl⟩
   obtain⟨NL,b7⟩:∃ NL,NL=R.next.length:=⟨_,rfl⟩
   rw[<- b8,<- b7]at H8 ⊢
   have HR:=Kh hR
   have c2:=Kh (zB H4.out b2 (by simp))
   have h6:=zA H5.out c2.out (by simp)
   have c3:=Kh h6
   obtain⟨q0,q1,q2,q3⟩:=zG h6
   have f0:=zE h6 0
   have f1:=zE h6 1
   have f2:=zE h6 2
   have f3:=zE h6 3
   have d3:Q < w8.heap.size:=by have:=H4.out.size;omega
   clear H2 b8 b7 hR b2 h6 t80 t81 t82 t83 b9
   go_wp2
   obtain⟨a0,H9⟩:=wG c3.out (.int .i64 (k:Int)) (.int .i64 0) (.slice sf9 FL cf9) (.slice sn9 NL cn9)
   obtain⟨wz,a5⟩:∃ wz,wz=(((w9.setCell ⟨Q,0,none⟩ (.int .i64 (k:Int))).setCell ⟨Q,1,none⟩ (.int .i64 0)).setCell ⟨Q,2,none⟩ (.slice sf9 FL cf9)).setCell ⟨Q,3,none⟩ (.slice sn9 NL cn9):=⟨_,rfl⟩
   rw[<- a5]at a0 H9 ⊢
   clear a5
   obtain⟨r0,r1,r2,r3⟩:=zG a0
   clear q0 q1 q2 q3 f0 f1 f2 f3
   refine bodyPost_ret (v:=.tuple #[.agg #[.int .i64 (k:Int),.int .i64 0,.slice sf9 FL cf9,.slice sn9 NL cn9],.int .i64 0]) (by simp[results,Try.results83,go_sem,r0,r1,r2,r3]) rfl ?_
   have d0:=H8.out.far H9 c3.out d3
   obtain⟨fv9,nv9,c8,c9⟩:=d0.t
   refine⟨fv9,nv9,?_,?_,zB (zB d8.out c2.out (by simp)) H9 (fun q e=>by have h7:Q=q:=Oj e;omega)⟩
   ·rw[HE.out,HD.out,<- HR.out,<- c8]
   ·rw[HD.out,<- HR.out];exact c9
 ·have l0:((bs.length:Int) - 1 == 0)=false:=by rw[beq_eq_false_iff_ne];omega
  have k6:2<=bs.length:=by omega
  obtain⟨m,hm⟩:∃ m,m=bs.length - 1 - 1:=⟨_,rfl⟩
  have HM:=Kh hm
  obtain⟨c1,g1⟩:∃ c,c=1+(nthL bs 0).length:=⟨_,rfl⟩
  have k3:=Kh g1
  have k8:c1<=65:=by rw[g1,nthL,yH];have:=(e7.out 0 b1).2;omega
  obtain⟨base,a7⟩:∃ base,base=[List.replicate k 0] ++ sE k (nthL bs 0) (nthL bs 0).length:=⟨_,rfl⟩
  have k0:base.length=c1:=by rw[a7,g1];simp[sE];omega
  rw[<- a7]at f7
  have f6:=Kh a7;have j0:=Kh k0
  clear h1 hm g1 a7 k0
  go_wp2_with fail
  go_loopg [10,43] m (fun gh a10 i wr=>∃ (j:Nat) (gs:List Nat) (sn:Option Addr) (cn:Nat),gh+j=m/\i=.int .i64 j/\BB w1 wr bb k (base ++ midN k c1 ((sV bs).take j)) gs sn cn)
  case atStart=>exact⟨0,gs4,sn4,cn4,rfl,rfl,by simpa [midN] using f7.out⟩
  case round =>
   clear f7 l8 p4
   obtain⟨j,gs,sn,cn,j8,rfl,d7⟩:=hrel
   have i8:=Kh j8;have i9:=Kh d7
   clear j8
   have e0:(base ++ midN k c1 ((sV bs).take j)).length<=129:=by
    rw[List.length_append,j0.out,rV]
    have:=mids_sum (bs:=bs) j
    have:=k3.out
    omega
   have f4:=Kh e0
   clear e0
   by_cases hj:j < m
   ·have g9:1+j < bs.length:=by have:=HM.out;omega
    have k7:(j:Int) < ((bs.length - 1 - 1:Nat):Int):=by have:=HM.out;omega
    have sj:=d5.out _ d7.grown (1+j) g9
    rw[<- Nat.add_assoc]at sj
    obtain⟨u,hu⟩:∃ u,u=bs.getD (1+j) ⟨#[]⟩:=⟨_,rfl⟩
    have c7:=e7.out (1+j) g9
    have j5:=l5.out (1+j) g9 (by omega) (by have:=HM.out;omega)
    rw[<- hu]at sj c7 j5
    have HU:=Kh hu
    have e8:=Kh c7
    clear hu d7 c7
    go_wp2_with fail
    refine(jU w1 wr bb k _ gs sn cn u i9.out (by have:=f4.out;omega) c4 a6 e8.out.1 j5 e8.out.2).mono ?_
    rintro e w6 ⟨gs6,sn6,cn6,rfl,i3⟩
    have m0:Hid (BB w1 w6 bb k (base ++ midN k c1 ((sV bs).take (j+1))) gs6 sn6 cn6):=Kh (by
     have et:(sV bs).take (j+1)=(sV bs).take j ++ [zI u]:=by
      rw[zW (d:=[]) (by rw[qT];have:=HM.out;omega),midsL_get (by have:=HM.out;omega),nthL,<- HU.out]
     rw[et,dP,<- List.append_assoc]
     have el:(base ++ midN k c1 ((sV bs).take j)).length=c1+yE ((sV bs).take j):=by rw[List.length_append,j0.out,rV]
     rw[el]at i3
     exact i3)
    clear i3
    go_wp2
    go_roundg (m - (j+1))
    case measure=>have:=i8.out;omega
    case rel=>exact⟨j+1,gs6,sn6,cn6,by have:=i8.out;omega,by go_num,m0.out⟩
   ·have j7:j=m:=by have:=i8.out;omega
    have k7:¬ (j:Int) < ((bs.length - 1 - 1:Nat):Int):=by have:=HM.out;omega
    have pl:=i7.out _ d7.grown
    have sl:=d5.out _ d7.grown (bs.length - 1) (by omega)
    obtain⟨u,hu⟩:∃ u,u=bs.getD (bs.length - 1) ⟨#[]⟩:=⟨_,rfl⟩
    have c7:=e7.out (bs.length - 1) (by omega)
    rw[<- hu]at sl c7
    have HU:=Kh hu;have e8:=Kh c7
    have m7:((bs.length:Int) - 1).toNat=bs.length - 1:=by omega
    have m6:(bs.length:Int) - 1 < bs.length:=by omega
    have m5:0<=(bs.length:Int) - 1:=by omega
    have l6:=Kh j7
    clear hu c7 d7 j7
    go_wp2_with fail
    refine(bsuffix_any w1 wr bb k _ gs sn cn u i9.out (by have:=f4.out;omega) c4 a6 e8.out.1 e8.out.2).mono ?_
    rintro e w5 ⟨gs5,sn5,cn5,rfl,c5⟩
    have b0:Hid (BB w1 w5 bb k (xJ k (bs.map zI)) gs5 sn5 cn5):=Kh (by
     have et:(sV bs).take j=sV bs:=List.take_of_length_le (by rw[qT];have:=HM.out;have:=l6.out;omega)
     have el:(base ++ midN k c1 (sV bs)).length=c1+yE (sV bs):=by rw[List.length_append,j0.out,rV]
     rw[et,el]at c5
     rw[rows_more k6,show nthL bs (bs.length - 1)=zI u by rw[nthL,<- HU.out]]
     have:=f6.out
     rw[this,k3.out]at c5
     exact c5)
    clear c5 i9 sl pl
    obtain⟨c50,c51,c5f⟩:=b0.out.cells
    have g7:=qN (k:=k) b1 a8
    obtain⟨RL,d2⟩:∃ RL,RL=(xJ k (bs.map zI)).length:=⟨_,rfl⟩
    rw[<- d2]at c51 g7
    have a9:=Kh d2
    have d9:=fJ RL (by omega)
    have a0:=zH b0.out.box
    obtain⟨wo,rfl⟩:∃ wo:World,wo=w5:=⟨_,rfl⟩
    clear d2
    go_wp2_with fail
    go_region
    ·obtain⟨w7,a1⟩:∃ w7,w7=((wo.alloc (.cells (madeCells #[.bool false] RL) 4)).alloc (.cells #[.int .i64 (k:Int),.int .i64 1,.slice (some ⟨wo.heap.size,0,none⟩) RL RL,.slice sn5 RL cn5] 42)).drew:=⟨_,rfl⟩
     have h8:=qDD wo k RL sn5 cn5
     rw[<- a1]at h8 ⊢
     obtain⟨T,hT⟩:∃ T,T=wo.heap.size+1:=⟨_,rfl⟩
     obtain⟨F,hF⟩:∃ F,F=wo.heap.size:=⟨_,rfl⟩
     rw[<- hT]at h8 ⊢
     rw[<- hF]at h8 ⊢
     have d1:T≠F:=by omega
     clear hT hF
     have h4:=Kh h8
     have d4:=Kh a1
     clear h8 a1 c50 c51 c5f d9
     have h2:=Kh (b0.out.grow h4.out.grown)
     obtain⟨b70,b71,b7f⟩:=h2.out.cells
     rw[<- a9.out]at b71
     obtain⟨t70,t71,t72,t73⟩:=zG h4.out.box
     obtain⟨R1,b6⟩:∃ R1,R1=RL - 1:=⟨_,rfl⟩
     have e71:(RL:Int) - 1=(R1:Int):=by omega
     have e72:IntKind.i64.wrap ((RL:Int) - 1)=(R1:Int):=by rw[e71];exact xX (by omega)
     have H3:R1 < RL:=by omega
     have b5:(R1:Int) < RL:=by omega
     have cF:=h4.out.arr.bool R1 (by rw[List.length_replicate];exact H3)
     have fF:=h4.out.arr.frozen R1
     have i1:(bls (List.replicate RL false)).length=RL:=by rw[xE,List.length_replicate]
     have d6:=Kh b6
     clear b6
     go_wp2_with fail
     go_region
     obtain⟨w8,H6⟩:∃ w8,w8=(w7.setCell ⟨F,R1,none⟩ (.bool true)).drew:=⟨_,rfl⟩
     have h5:w7.grownBy w8 (some F):=by rw[H6];exact zB (zC w7 ⟨F,R1,none⟩ _) (zL _ none) (by simp)
     have b4:Arr w8 F 4 (bls ((List.replicate RL false).set (RL - 1) true)):=by
      rw[H6,<- d6.out]
      exact(h4.out.arr.bool_set R1 (by rw[List.length_replicate];exact H3) true).of_heap rfl
     have i5:w7.heap.size<=w8.heap.size:=h5.size
     obtain⟨cF8,rF8,h3,_⟩:=h4.out.arr
     have a3:BB w1 w8 bb k (xJ k (bs.map zI)) gs5 sn5 cn5:=by
      refine⟨zA h2.out.box h5 ?_,h2.out.own.kept h5 (.inr (zS h2.out.own h3 (by decide))),h2.out.len,fun i hi=>⟨(h2.out.row i hi).1.kept h5 ?_,(h2.out.row i hi).2⟩,h2.out.nd,h2.out.lo,h2.out.glo,zB h2.out.grown h5 (fun q e=>?_)⟩
      ·intro e
       have e:=Oj e
       rw[e,h2.out.box]at h3
       simp only[Option.some.injEq,Obj.cells.injEq]at h3
       exact absurd h3.2.1 (by decide)
      ·intro e
       have e:=Oj e
       obtain⟨cu,rs,a2,_⟩:=(h2.out.row i hi).1
       rw[<- e,h3]at a2
       simp only[Option.some.injEq,Obj.cells.injEq]at a2
       exact absurd a2.2.1 (by decide)
      ·have e:F=q:=Oj e
       have:=h4.out.lo
       have:=b0.out.grown.size
       omega
     have H0:=nL a3 a6 a9.out (by omega) b4 (by unfold maxLen;omega)
     have H7:=mG c4 a6 b1 a8
     rw[<- a9.out]at H7
     have b9:=Kh (pI w8.heap.size w8 _ (patD k (bs.map zI)) RL k (Nat.le_refl _) H0 H7 (by omega))
     obtain⟨t80,t81,t82,t83⟩:=zG (zA h4.out.box h5 (fun e=>d1 (Oj e).symm))
     have H4:Hid (w1.grownBy w8 none):=Kh a3.grown
     have a4:Hid ((minD (patD k (bs.map zI)) k).letters=k/\(minD (patD k (bs.map zI)) k).start=0):=Kh ⟨(pY H7).hk,rfl⟩
     rw[<- H6]
     clear H6 h5 b4 h3 a3 H0 H7 t70 t71 t72 t73 b70 b71 b7f cF fF h2 h4 d4
     go_wp2_with fail
     refine b9.out.mono ?_
     rintro e w9 ⟨v9,rfl,b3,b2⟩
     have H8:=Kh b3
     obtain⟨o9,g6,sf9,cf9,sn9,cn9,rfl,g8,H2⟩:=b3
     obtain⟨R,hR⟩:∃ R,R=minD (patD k (bs.map zI)) k:=⟨_,rfl⟩
     rw[<- hR]at H2 H8 a4 ⊢
     rw[a4.out.1,a4.out.2]at H8 ⊢
     obtain⟨FL,b8⟩:∃ FL,FL=R.final.length:=⟨_,rfl⟩
     obtain⟨NL,b7⟩:∃ NL,NL=R.next.length:=⟨_,rfl⟩
     rw[<- b8,<- b7]at H8 ⊢
     have HR:=Kh hR
     have c2:=Kh (zB H4.out b2 (by simp))
     have h6:=zA H5.out c2.out (by simp)
     have c3:=Kh h6
     obtain⟨q0,q1,q2,q3⟩:=zG h6
     have f0:=zE h6 0
     have f1:=zE h6 1
     have f2:=zE h6 2
     have f3:=zE h6 3
     have d3:Q < w8.heap.size:=by have:=H4.out.size;omega
     clear H2 b8 b7 hR b2 h6 t80 t81 t82 t83 b9
     go_wp2
     obtain⟨a0,H9⟩:=wG c3.out (.int .i64 (k:Int)) (.int .i64 0) (.slice sf9 FL cf9) (.slice sn9 NL cn9)
     obtain⟨wz,a5⟩:∃ wz,wz=(((w9.setCell ⟨Q,0,none⟩ (.int .i64 (k:Int))).setCell ⟨Q,1,none⟩ (.int .i64 0)).setCell ⟨Q,2,none⟩ (.slice sf9 FL cf9)).setCell ⟨Q,3,none⟩ (.slice sn9 NL cn9):=⟨_,rfl⟩
     rw[<- a5]at a0 H9 ⊢
     clear a5
     obtain⟨r0,r1,r2,r3⟩:=zG a0
     clear q0 q1 q2 q3 f0 f1 f2 f3
     refine bodyPost_ret (v:=.tuple #[.agg #[.int .i64 (k:Int),.int .i64 0,.slice sf9 FL cf9,.slice sn9 NL cn9],.int .i64 0]) (by simp[results,Try.results83,go_sem,r0,r1,r2,r3]) rfl ?_
     have d0:=H8.out.far H9 c3.out d3
     obtain⟨fv9,nv9,c8,c9⟩:=d0.t
     refine⟨fv9,nv9,?_,?_,zB (zB d8.out c2.out (by simp)) H9 (fun q e=>by have h7:Q=q:=Oj e;omega)⟩
     ·rw[HE.out,HD.out,<- HR.out,<- c8]
     ·rw[HD.out,<- HR.out];exact c9
    ·obtain⟨w7,a1⟩:∃ w7,w7=((wo.alloc (.cells #[.int .i64 (k:Int),.int .i64 1,.slice (some ⟨wo.heap.size+1,0,none⟩) RL RL,.slice sn5 RL cn5] 42)).alloc (.cells (madeCells #[.bool false] RL) 4)).drew:=⟨_,rfl⟩
     have h8:=qDC wo k RL sn5 cn5
     rw[<- a1]at h8 ⊢
     obtain⟨T,hT⟩:∃ T,T=wo.heap.size:=⟨_,rfl⟩
     obtain⟨F,hF⟩:∃ F,F=wo.heap.size+1:=⟨_,rfl⟩
     rw[<- hF]at h8 ⊢
     rw[<- hT]at h8 ⊢
     have d1:T≠F:=by omega
     clear hT hF
     have h4:=Kh h8
     have d4:=Kh a1
     clear h8 a1 c50 c51 c5f d9
     have h2:=Kh (b0.out.grow h4.out.grown)
     obtain⟨b70,b71,b7f⟩:=h2.out.cells
     rw[<- a9.out]at b71
     obtain⟨t70,t71,t72,t73⟩:=zG h4.out.box
     obtain⟨R1,b6⟩:∃ R1,R1=RL - 1:=⟨_,rfl⟩
     have e71:(RL:Int) - 1=(R1:Int):=by omega
     have e72:IntKind.i64.wrap ((RL:Int) - 1)=(R1:Int):=by rw[e71];exact xX (by omega)
     have H3:R1 < RL:=by omega
     have b5:(R1:Int) < RL:=by omega
     have cF:=h4.out.arr.bool R1 (by rw[List.length_replicate];exact H3)
     have fF:=h4.out.arr.frozen R1
     have i1:(bls (List.replicate RL false)).length=RL:=by rw[xE,List.length_replicate]
     have d6:=Kh b6
     clear b6
     go_wp2_with fail
     go_region
     obtain⟨w8,H6⟩:∃ w8,w8=(w7.setCell ⟨F,R1,none⟩ (.bool true)).drew:=⟨_,rfl⟩
     have h5:w7.grownBy w8 (some F):=by rw[H6];exact zB (zC w7 ⟨F,R1,none⟩ _) (zL _ none) (by simp)
     have b4:Arr w8 F 4 (bls ((List.replicate RL false).set (RL - 1) true)):=by
      rw[H6,<- d6.out]
      exact(h4.out.arr.bool_set R1 (by rw[List.length_replicate];exact H3) true).of_heap rfl
     have i5:w7.heap.size<=w8.heap.size:=h5.size
     obtain⟨cF8,rF8,h3,_⟩:=h4.out.arr
     have a3:BB w1 w8 bb k (xJ k (bs.map zI)) gs5 sn5 cn5:=by
      refine⟨zA h2.out.box h5 ?_,h2.out.own.kept h5 (.inr (zS h2.out.own h3 (by decide))),h2.out.len,fun i hi=>⟨(h2.out.row i hi).1.kept h5 ?_,(h2.out.row i hi).2⟩,h2.out.nd,h2.out.lo,h2.out.glo,zB h2.out.grown h5 (fun q e=>?_)⟩
      ·intro e
       have e:=Oj e
       rw[e,h2.out.box]at h3
       simp only[Option.some.injEq,Obj.cells.injEq]at h3
       exact absurd h3.2.1 (by decide)
      ·intro e
       have e:=Oj e
       obtain⟨cu,rs,a2,_⟩:=(h2.out.row i hi).1
       rw[<- e,h3]at a2
       simp only[Option.some.injEq,Obj.cells.injEq]at a2
       exact absurd a2.2.1 (by decide)
      ·have e:F=q:=Oj e
       have:=h4.out.lo
       have:=b0.out.grown.size
       omega
     have H0:=nL a3 a6 a9.out (by omega) b4 (by unfold maxLen;omega)
     have H7:=mG c4 a6 b1 a8
     rw[<- a9.out]at H7
     have b9:=Kh (pI w8.heap.size w8 _ (patD k (bs.map zI)) RL k (Nat.le_refl _) H0 H7 (by omega))
     obtain⟨t80,t81,t82,t83⟩:=zG (zA h4.out.box h5 (fun e=>d1 (Oj e).symm))
     have H4:Hid (w1.grownBy w8 none):=Kh a3.grown
     have a4:Hid ((minD (patD k (bs.map zI)) k).letters=k/\(minD (patD k (bs.map zI)) k).start=0):=Kh ⟨(pY H7).hk,rfl⟩
     rw[<- H6]
     clear H6 h5 b4 h3 a3 H0 H7 t70 t71 t72 t73 b70 b71 b7f cF fF h2 h4 d4
     go_wp2_with fail
     refine b9.out.mono ?_
     rintro e w9 ⟨v9,rfl,b3,b2⟩
     have H8:=Kh b3
     obtain⟨o9,g6,sf9,cf9,sn9,cn9,rfl,g8,H2⟩:=b3
     obtain⟨R,hR⟩:∃ R,R=minD (patD k (bs.map zI)) k:=⟨_,rfl⟩
     rw[<- hR]at H2 H8 a4 ⊢
     rw[a4.out.1,a4.out.2]at H8 ⊢
     obtain⟨FL,b8⟩:∃ FL,FL=R.final.length:=⟨_,rfl⟩
     obtain⟨NL,b7⟩:∃ NL,NL=R.next.length:=⟨_,rfl⟩
     rw[<- b8,<- b7]at H8 ⊢
     have HR:=Kh hR
     have c2:=Kh (zB H4.out b2 (by simp))
     have h6:=zA H5.out c2.out (by simp)
     have c3:=Kh h6
     obtain⟨q0,q1,q2,q3⟩:=zG h6
     have f0:=zE h6 0
     have f1:=zE h6 1
     have f2:=zE h6 2
     have f3:=zE h6 3
     have d3:Q < w8.heap.size:=by have:=H4.out.size;omega
     clear H2 b8 b7 hR b2 h6 t80 t81 t82 t83 b9
     go_wp2
     obtain⟨a0,H9⟩:=wG c3.out (.int .i64 (k:Int)) (.int .i64 0) (.slice sf9 FL cf9) (.slice sn9 NL cn9)
     obtain⟨wz,a5⟩:∃ wz,wz=(((w9.setCell ⟨Q,0,none⟩ (.int .i64 (k:Int))).setCell ⟨Q,1,none⟩ (.int .i64 0)).setCell ⟨Q,2,none⟩ (.slice sf9 FL cf9)).setCell ⟨Q,3,none⟩ (.slice sn9 NL cn9):=⟨_,rfl⟩
     rw[<- a5]at a0 H9 ⊢
     clear a5
     obtain⟨r0,r1,r2,r3⟩:=zG a0
     clear q0 q1 q2 q3 f0 f1 f2 f3
     refine bodyPost_ret (v:=.tuple #[.agg #[.int .i64 (k:Int),.int .i64 0,.slice sf9 FL cf9,.slice sn9 NL cn9],.int .i64 0]) (by simp[results,Try.results83,go_sem,r0,r1,r2,r3]) rfl ?_
     have d0:=H8.out.far H9 c3.out d3
     obtain⟨fv9,nv9,c8,c9⟩:=d0.t
     refine⟨fv9,nv9,?_,?_,zB (zB d8.out c2.out (by simp)) H9 (fun q e=>by have h7:Q=q:=Oj e;omega)⟩
     ·rw[HE.out,HD.out,<- HR.out,<- c8]
     ·rw[HD.out,<- HR.out];exact c9
end Go.Proofs.Ytjfdomfendbhfaa
