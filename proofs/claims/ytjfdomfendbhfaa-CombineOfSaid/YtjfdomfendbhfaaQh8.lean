/- Part 8 of the proof. -/
import Derived.Test.YtjfdomfendbhfaaQh7
import Derived.Deep.OwnRows
import Derived.Deep.DeepCutAuto
import Derived.Deep.CutBlock
import Derived.BigRegion
import Derived.BigQuiet
set_option linter.unusedVariables false
set_option linter.unusedSimpArgs false
set_option maxRecDepth 100000
set_option maxHeartbeats 16000000
namespace Go.Proofs.Ytjfdomfendbhfaa
open Go.RowKit
def midN (k:Nat):Nat->List (List Nat)->List (List Nat)
 | _,[]=>[]
 | c,u::us=>wU k c u u.length++midN k (c+u.length) us
theorem uF (u:List Nat)(us:List (List Nat)):yQ (u::us)=u.length+yQ us:=by simp[yQ]
theorem jF (us vs:List (List Nat)):yQ (us++vs)=yQ us+yQ vs:=by simp[yQ]
theorem oV (k:Nat):∀(us:List (List Nat)) (c:Nat),(midN k c us).length=yQ us
 | [],c=>rfl
 | u::us,c=>by rw[midN,List.length_append,vM,oV k us,uF]
theorem qCA (k:Nat)(u:List Nat):∀(us:List (List Nat)) (c:Nat),midN k c (us++[u])=midN k c us++wU k (c+yQ us) u u.length
 | [],c=>by simp[midN,yQ]
 | v::us,c=>by
  rw[List.cons_append,midN,midN,qCA k u us,uF,List.append_assoc,Nat.add_assoc]
theorem kmpRow_map (k c:Nat)(u:List Nat)(j:Nat):zl (kmpN k c u j)=bW k c u j:=by simp[zl,kmpN,bW]
theorem lO (k c:Nat)(u:List Nat)(m:Nat):(wU k c u m).map zl=xQ k c u m:=by
 simp only[wU,xQ,List.map_map];exact List.map_congr_left fun j _=>kmpRow_map k c u j
theorem qEB (k:Nat)(v:List Nat):∀(us:List (List Nat)) (c:Nat),(midN k c us++sufN k (c+yQ us) v).map zl=wG k c (us++[v])
 | [],c=>by
  show (sufN k (c+0) v).map zl=_
  rw[sufN,lO];rfl
 | u::us,c=>by
  have:=qEB k v us (c+u.length)
  rw[List.map_append]at this
  rw[midN,List.append_assoc,List.map_append,lO,uF,<-Nat.add_assoc,List.map_append,this]
  cases us with
  | nil=>rfl
  | cons w us=>rfl
theorem fT (k:Nat)(b:List Nat)(m:Nat):(qR k b m).map zl=tZ k b m:=by
 simp only[qR,tZ,List.map_map];refine List.map_congr_left fun j _=>?_;simp[preN,qBM,zl]
def vT (k:Nat)(bs:List (List Nat)):List (List Nat):=match bs with
 | []=>[]
 | [b]=>[List.replicate k 0]++qR k b b.length++[List.replicate k 0]
 | b::us=>[List.replicate k 0]++qR k b b.length++midN k (1+b.length) us.dropLast++sufN k (1+b.length+yQ us.dropLast) (us.getLastD [])
theorem qGG (k:Nat):zl (List.replicate k 0)=List.replicate k 0:=by simp[zl]
theorem qDH (k:Nat):∀(bs:List (List Nat)),(vT k bs).map zl=sE k bs
 | []=>rfl
 | [b]=>by
  simp only[vT,sE,wG,List.map_append,fT,List.map_cons,List.map_nil,qGG]
  simp
 | b::c::us=>by
  have h:(c::us)=(c::us).dropLast++[(c::us).getLastD []]:=by
   rw[List.getLastD_eq_getLast?,List.getLast?_eq_some_getLast (List.cons_ne_nil c us)];exact(List.dropLast_concat_getLast (List.cons_ne_nil c us)).symm
  have ht:=qEB k ((c::us).getLastD []) (c::us).dropLast (1+b.length);rw[<-h]at ht;simp only[vT,sE,List.append_assoc];rw[List.map_append,List.map_append,ht,fT];simp[qGG]
theorem nY (k:Nat)(b:List Nat)(us:List (List Nat)):(vT k (b::us)).length=2+b.length+yQ us:=by
 have:=congrArg List.length (qDH k (b::us))
 rwa [List.length_map,pK]at this
theorem tQ (bs:List ByteArray):sQ bs=yQ (bs.map zJ):=by
 simp only[sQ,yQ,List.map_map];congr 1;exact List.map_congr_left fun s _=>(yM s).symm
theorem pM (us:List (List Nat))(i:Nat):yQ (us.take i)<=yQ us:=by
 have h:us.take i++us.drop i=us:=List.take_append_drop i us;have:=jF (us.take i) (us.drop i);rw[h]at this;omega
theorem mV {n:Nat}{letters:Int}:∀ {bs:List ByteArray} {i:Nat},vK n letters i bs=true->∀j (h:j<bs.length),tB n letters (i+j) bs[j]=true
 | [],_,_,j,h=>by simp at h
 | u::us,i,h,j,hj=>by
  rw[vK,Bool.and_eq_true]at h
  cases j with
  | zero=>exact h.1
  | succ j =>
   have:=mV h.2 j (by simpa using hj)
   rw[show i+(j+1)=i+1+j by omega]
   simpa using this
theorem iX {n i:Nat}{letters:Int}{u:ByteArray}(h:tB n letters i u=true):zU u letters=true/\(0<i->i+1<n->0<u.size):=by
 rw[tB,Bool.and_eq_true,Bool.not_eq_true',Bool.and_eq_false_iff]at h;refine⟨h.1,fun h0 h1=>?_⟩;rcases h.2 with h2|h2
 ·rw[decide_eq_false_iff_not]at h2;exact absurd ⟨h0,h1⟩ h2
 ·rw[ByteArray.toList_eq,List.isEmpty_eq_false_iff]at h2
  have:=List.length_pos_iff.2 h2
  rwa [Array.length_toList]at this
theorem qBO {bs:List ByteArray}{letters:Int}(h:yT bs letters=0):1<=letters/\letters<=6/\0<bs.length/\bs.length<=8/\sQ bs<=64/\(∀i (hi:i<bs.length),zU bs[i] letters=true)/\∀i (hi:i<bs.length),0<i->i+1<bs.length->0<bs[i].size:=by
 obtain⟨h1,h2,h3,h4,h5,h6⟩:=wY h;refine⟨h1,h2,h5,h3,h4,fun i hi=>?_,fun i hi h0 h1'=>?_⟩
 ·have:=mV h6 i hi
  exact(iX this).1
 ·have:=mV h6 i hi
  rw[Nat.zero_add]at this;exact(iX this).2 h0 h1'
theorem iV {k:Nat}{bs:List ByteArray}(h0:0<bs.length)(ht:sQ bs<=64):2<=(vT k (bs.map zJ)).length/\(vT k (bs.map zJ)).length<=66:=by
 match bs,h0 with
 | b::rest,_ =>
  rw[tQ,List.map_cons,uF]at ht;rw[List.map_cons,nY];omega
theorem total_get {bs:List ByteArray}{i:Nat}(hi:i<bs.length):bs[i].size<=sQ bs:=by
 have h:=cU bs i hi
 have h2:sQ (bs.take (i+1))<=sQ bs:=by
  rw[tQ,tQ,List.map_take];exact pM _ _
 omega
def xH (bs:List ByteArray)(letters:Int):DfaV:=if patW bs letters=0 then minD (patD letters.toNat (bs.map zJ)) letters.toNat else jV
def nthL (bs:List ByteArray)(i:Nat):List Nat:=zJ (bs.getD i ⟨#[]⟩)
def pL (bs:List ByteArray):List (List Nat):=((bs.map zJ).drop 1).dropLast
theorem nthL_get {bs:List ByteArray}{i:Nat}(h:i<bs.length):(bs.map zJ).getD i []=nthL bs i:=by
 rw[zG (by simpa using h),nthL,zG h];simp
theorem mC (bs:List ByteArray):(pL bs).length=bs.length-1-1:=by simp[pL]
theorem midsL_get {bs:List ByteArray}{i:Nat}(h:i<bs.length-1-1):(pL bs).getD i []=nthL bs (1+i):=by
 rw[zG (by rw[mC];exact h),nthL,zG (show 1+i<bs.length by omega)];simp[pL,Nat.add_comm]
theorem rows_one {k:Nat}{bs:List ByteArray}(h:bs.length=1):vT k (bs.map zJ)=[List.replicate k 0]++qR k (nthL bs 0) (nthL bs 0).length++[List.replicate k 0]:=by
 match bs,h with
 | [b],_=>rfl
theorem rows_more {k:Nat}{bs:List ByteArray}(h:2<=bs.length):vT k (bs.map zJ)=[List.replicate k 0]++qR k (nthL bs 0) (nthL bs 0).length++midN k (1+(nthL bs 0).length) (pL bs)++sufN k (1+(nthL bs 0).length+yQ (pL bs)) (nthL bs (bs.length-1)):=by
 match bs,h with
 | b::c::rest,_ =>
  have e:((c::rest).map zJ).getLastD []=nthL (b::c::rest) ((b::c::rest).length-1):=by
   rw[List.getLastD_eq_getLast?,List.getLast?_eq_getElem?,nthL];simp only[List.length_map,List.length_cons,List.getElem?_map];rw[show rest.length+1+1-1=rest.length+1 by omega,show rest.length+1-1=rest.length by omega];have h2:rest.length<(c::rest).length:=(by simp);rw[List.getElem?_eq_getElem h2,zG (show rest.length+1<(b::c::rest).length by simp)];rfl
  show [List.replicate k 0]++qR k (zJ b) (zJ b).length++midN k (1+(zJ b).length) ((c::rest).map zJ).dropLast++sufN k (1+(zJ b).length+yQ ((c::rest).map zJ).dropLast) (((c::rest).map zJ).getLastD [])=_;rw[e];rfl
theorem mids_sum {bs:List ByteArray}(i:Nat):yQ ((pL bs).take i)+(nthL bs 0).length<=sQ bs:=by
 rw[tQ];have h1:=pM (pL bs) i
 match bs with
 | []=>simp[pL,yQ,nthL,zJ]at h1⊢
 | b::rest =>
  have h2:yQ (pL (b::rest))<=yQ (rest.map zJ):=by
   show yQ (rest.map zJ).dropLast<=_;rw[List.dropLast_eq_take];exact pM _ _
  rw[List.map_cons,uF];show _+(zJ b).length<=_;omega
theorem BB.mat {W0 W:World}{bb k:Nat}{t:List (List Nat)}{gs:List Nat}{sn:Option Addr}{cn:Nat}(h:BB W0 W bb k t gs sn cn)(hk:k<=maxLen):Mat W.heap.size W (.slice sn t.length cn) (t.map zl):=by
 refine Mat.of_rows (B:=W.heap.size) h.own ⟨by rw[List.length_map,List.length_map,h.len],fun i h1 h2=>?_⟩ (Nat.le_refl _);have hi:i<t.length:=by simpa using h2
 have hg:i<gs.length:=by rw[h.len];exact hi
 obtain⟨ha,hl⟩:=h.row i hi;have:=(RowX.of_arr (X:=fun _=>True) ha (by rw[zW];exact hl) hk trivial).1;rw[zG hg,zG hi]at this;simp only[List.getElem_map];have e:ints (zl t[i])=nats t[i]:=by simp[ints,zl,nats]
 rw[e];exact this
structure NewD (wo W:World)(T F k RL:Nat)(sn:Option Addr)(cn:Nat):Prop where
 box:W.heap[T]?=some (.cells #[.int .i64 (k:Int),.int .i64 1,.slice (some ⟨F,0,none⟩) RL RL,.slice sn RL cn] 42 (0,0))
 arr:Arr W F 4 (bls (List.replicate RL false))
 grown:wo.grownBy W none
 lo:wo.heap.size<=T/\wo.heap.size<=F
theorem newD1 (wo:World)(k RL:Nat)(sn:Option Addr)(cn:Nat):NewD wo (((wo.alloc (.cells (madeCells #[.bool false] RL) 4)).alloc (.cells #[.int .i64 (k:Int),.int .i64 1,.slice (some ⟨wo.heap.size,0,none⟩) RL RL,.slice sn RL cn] 42)).drew) (wo.heap.size+1) wo.heap.size k RL sn cn:=by
 have a1:=Arr.new wo 4 (madeCells #[.bool false] RL);rw[qCB]at a1;exact⟨pW wo _ _,(a1.kept (Ga _ (.cells #[.int .i64 (k:Int),.int .i64 1,.slice (some ⟨wo.heap.size,0,none⟩) RL RL,.slice sn RL cn] 42) none) (by simp)).of_heap rfl,zA (vO (Ga wo _ none) _) (zO _ none) (by simp),by omega⟩
theorem newD2 (wo:World)(k RL:Nat)(sn:Option Addr)(cn:Nat):NewD wo (((wo.alloc (.cells #[.int .i64 (k:Int),.int .i64 1,.slice (some ⟨wo.heap.size+1,0,none⟩) RL RL,.slice sn RL cn] 42)).alloc (.cells (madeCells #[.bool false] RL) 4)).drew) wo.heap.size (wo.heap.size+1) k RL sn cn:=by
 have a1:=Arr.new (wo.alloc (.cells #[.int .i64 (k:Int),.int .i64 1,.slice (some ⟨wo.heap.size+1,0,none⟩) RL RL,.slice sn RL cn] 42)) 4 (madeCells #[.bool false] RL);rw[qCB,zL]at a1;exact⟨pY wo _ _,a1.of_heap rfl,zA (vO (Ga wo _ none) _) (zO _ none) (by simp),by omega⟩
theorem pat_dfaOk {W0 W:World}{bb k F RL:Nat}{bs:List ByteArray}{gs:List Nat}{sn:Option Addr}{cn:Nat}(h:BB W0 W bb k (vT k (bs.map zJ)) gs sn cn)(hk:k<=6)(hR:RL=(vT k (bs.map zJ)).length)(h0:0<RL)(ha:Arr W F 4 (bls ((List.replicate RL false).set (RL-1) true)))(hRm:RL<=maxLen):tE W.heap.size W (.agg #[.int .i64 (k:Int),.int .i64 1,.slice (some ⟨F,0,none⟩) RL RL,.slice sn RL cn]) (patD k (bs.map zJ)):=by
 have hm:=h.mat (by unfold maxLen;omega);rw[qDH,<-hR]at hm;have hl:(sE k (bs.map zJ)).length=RL:=by rw[<-qDH,List.length_map,hR]
 have hf:(List.replicate RL false).set (RL-1) true=(patD k (bs.map zJ)).final:=by
  show _=List.replicate ((sE k (bs.map zJ)).length-1) false++[true];rw[hl];obtain⟨r,rfl⟩:∃r,RL=r+1:=⟨RL-1,by omega⟩;rw[List.replicate_succ',List.set_append_right _ _ (by simp)];simp
 refine⟨_,_,rfl,?_,hm⟩;rw[<-hf];have:=(RowX.of_arr (X:=fun _=>True) ha (by rw[xC,List.length_set,List.length_replicate]) hRm trivial).1;exact this.row
theorem aU {k:Nat}{bs:List ByteArray}(hk1:1<=k)(hk6:k<=6)(h0:0<bs.length)(ht:sQ bs<=64):VD (patD k (bs.map zJ)) (vT k (bs.map zJ)).length k:=by
 match bs,h0 with
 | b::rest,_ =>
  rw[tQ,List.map_cons,uF]at ht;rw[List.map_cons,nY];exact pat_vd hk1 hk6 ht
theorem pdfa_anyT (B:Nat)(w:World)(v:Value)(bs:List ByteArray)(letters:Int)(h:Row B w v (txtV bs))(hB:B<=w.heap.size)(hs:∀i (hi:i<bs.length),bs[i].size<=maxLen):Calls Try.prog 83 #[.agg #[v],.int .i64 letters] w (dZ w (patW bs letters) (xH bs letters)):=by
 have H:=Kh h;have HS:=Kh hs;obtain⟨a,cap,rfl⟩:=h.shape;rw[yC]at H⊢
 obtain⟨b4,H0,c7,f7⟩:((w.alloc (.cells #[.slice a bs.length cap] 28)).alloc (.cells #[.int .i64 0,.int .i64 0,.slice none 0 0,.slice none 0 0] 42)).heap[w.heap.size]?=some (.cells #[.slice a bs.length cap] 28 (0,0))/\((w.alloc (.cells #[.slice a bs.length cap] 28)).alloc (.cells #[.int .i64 0,.int .i64 0,.slice none 0 0,.slice none 0 0] 42)).heap[w.heap.size+1]?=some (.cells #[.int .i64 0,.int .i64 0,.slice none 0 0,.slice none 0 0] 42 (0,0))/\w.grownBy ((w.alloc (.cells #[.slice a bs.length cap] 28)).alloc (.cells #[.int .i64 0,.int .i64 0,.slice none 0 0,.slice none 0 0] 42)) none/\((w.alloc (.cells #[.slice a bs.length cap] 28)).alloc (.cells #[.int .i64 0,.int .i64 0,.slice none 0 0,.slice none 0 0] 42)).heap.size=w.heap.size+2 :=
  ⟨pY w _ _,pW w _ _,vO (Ga w _ none) _,by rw[zL,zL]⟩
 obtain⟨wA,d9⟩:∃wA,wA=(w.alloc (.cells #[.slice a bs.length cap] 28)).alloc (.cells #[.int .i64 0,.int .i64 0,.slice none 0 0,.slice none 0 0] 42):=⟨_,rfl⟩;rw[<-d9]at b4 H0 c7 f7;obtain⟨P,hP⟩:∃P,P=w.heap.size:=⟨_,rfl⟩;obtain⟨Q,hQ⟩:∃Q,Q=w.heap.size+1:=⟨_,rfl⟩;have l1:=Kh hP;have l0:Hid (Q=P+1):=Kh (by omega);have n2:P<Q:=by omega
 have m9:Q<wA.heap.size:=by omega
 have n1:w.heap.size<=P:=by omega
 rw[<-hQ]at H0;rw[<-hP]at b4 hB;have c0:wA.cell? ⟨P,0,none⟩=some (.slice a bs.length cap):=by simpa using zI b4 0 (by simp)
 have l8:=Kh b4;have l7:=Kh H0;have l4:=Kh c7;have k6:=Kh d9;have i7:=Kh (kY B wA _ bs letters (H.out.kept c7 (by simp)) hs);rw[show Row B w (.slice a bs.length cap) (txtV bs)=Row B w (.slice a bs.length cap) (txtV bs) from rfl]at H;clear b4 H0 c7 d9 h hs hP hQ f7;go_enter Try.func83,Try.ntmps83;go_upto_region 1 with fail;rw[<-k6.out,<-l1.out,<-l0.out];go_wp2_with fail;refine i7.out.mono ?_;rintro e w1 ⟨rfl,b0⟩;have l9:=b0.size;have e8:=Kh (zA l4.out b0 (by simp));have f6:=Kh (zB l8.out b0 (by simp));have h2:=Kh (zB l7.out b0 (by simp));have q1:=zF h2.out;have f0:=zE h2.out 0;have f1:=zE h2.out 1;have f2:=zE h2.out 2;have f3:=zE h2.out 3;clear b0 i7 c0;by_cases hE:patW bs letters=0
 case neg =>
  have HD:Hid (xH bs letters=jV):=Kh (if_neg hE);obtain⟨E,e2⟩:∃E,E=patW bs letters:=⟨_,rfl⟩;rw[<-e2]at hE⊢;have e1:(E != 0)=true:=by rw[bne_iff_ne];exact hE
  obtain⟨q0,q1,q2,q3⟩:=q1;have l5:=Kh e2;clear hE e2;go_wp2;obtain⟨a2,a1⟩:=wF h2.out (.int .i64 0) (.int .i64 0) (.slice none 0 0) (.slice none 0 0);obtain⟨wz,a5⟩:∃wz,wz=(((w1.setCell ⟨Q,0,none⟩ (.int .i64 0)).setCell ⟨Q,1,none⟩ (.int .i64 0)).setCell ⟨Q,2,none⟩ (.slice none 0 0)).setCell ⟨Q,3,none⟩ (.slice none 0 0):=⟨_,rfl⟩;rw[<-a5]at a2 a1⊢;clear a5;obtain⟨r0,r1,r2,r3⟩:=zF a2;clear q0 q1 q2 q3 f0 f1 f2 f3;refine bodyPost_ret (v:=.tuple #[.agg #[.int .i64 0,.int .i64 0,.slice none 0 0,.slice none 0 0],.int .i64 E]) (by simp[results,Try.results83,go_sem,r0,r1,r2,r3]) rfl ?_;exact⟨_,_,by rw[l5.out,HD.out];rfl,by rw[HD.out];exact DfaT.zero _,zA e8.out a1 (fun k e=>by have h7:Q=k:=Oj e;omega)⟩
 rw[hE];clear q1 f0 f1 f2 f3;obtain⟨H7,H3,H6,m2,a7,f8,g2⟩:=qBO (vJ.1 hE);obtain⟨k,hk⟩:∃k:Nat,letters=(k:Int):=⟨letters.toNat,by omega⟩
 have HD:Hid (xH bs letters=minD (patD k (bs.map zJ)) k):=Kh (by
  rw[xH,if_pos hE,hk,Int.toNat_natCast])
 subst hk;have H7:1<=k:=by omega
 have H3:k<=6:=by omega
 obtain⟨b,off,_,ea,m8,k4,g8,f9⟩:=H.out.some_ (by rw[yC];exact H6);rw[yC]at ea k4;simp only[Value.slice.injEq]at ea;obtain⟨rfl,_,rfl⟩:=ea;have m7:cap<=9223372036854775807:=by unfold maxLen at g8;omega
 have a0:Hid (∀W:World,w1.grownBy W none->∀i,i<bs.length->W.cell? ⟨b,off+i,none⟩=some (.string (bs.getD i ⟨#[]⟩))):=Kh (fun W hg i hi=>vG ((f9.kept e8.out (by simp)).kept hg (by simp)) i hi)
 have b6:Hid (∀i,i<bs.length->zU (bs.getD i ⟨#[]⟩) (k:Int)=true/\(bs.getD i ⟨#[]⟩).size<=64):=Kh (fun i hi=>by
  rw[zG hi];exact⟨f8 i hi,by have:=total_get hi;omega⟩)
 have l2:Hid (∀i,i<bs.length->0<i->i+1<bs.length->0<(bs.getD i ⟨#[]⟩).size):=Kh (fun i hi h0 h1=>by rw[zG hi];exact g2 i hi h0 h1);have HE:=Kh hE;clear hE f8 g2 f9 g8;have e5:Hid (∀W:World,w1.grownBy W none->W.cell? ⟨P,0,none⟩=some (.slice (some ⟨b,off,none⟩) bs.length cap)):=Kh (fun W hg=>by simpa using zI (zB f6.out hg (by simp)) 0 (by simp));obtain⟨bb,d6⟩:∃bb,bb=w1.heap.size:=⟨_,rfl⟩;obtain⟨w2,d1⟩:∃w2,w2=w1.alloc (.cells #[.int .i64 (k:Int),.slice none 0 0] 162):=⟨_,rfl⟩;have d4:=Ga w1 (.cells #[.int .i64 (k:Int),.slice none 0 0] 162) none;have H0:=heap_alloc_new w1 (.cells #[.int .i64 (k:Int),.slice none 0 0] 162);rw[<-d1]at d4 H0;rw[<-d6]at H0;have c2:Hid (BB w1 w2 bb k [] [] none 0):=Kh (BB.start H0 (by omega) d4);have k8:=Kh d1;have j4:=Kh d6;clear d4 H0 d1 d6;have n0:Q<bb:=by have:=j4.out;omega
 go_upto_region 5 with fail;rw[<-k8.out,<-j4.out];go_wp2_with fail;refine(nD w1 w2 bb k [] [] none 0 0 c2.out H7 H3 (by simp)).mono ?_;rintro e w3 ⟨g0,sn3,cn3,rfl,c9⟩;have p3:=e5.out _ c9.grown;have s3:=a0.out _ c9.grown 0 H6;rw[Nat.add_zero]at s3;obtain⟨u0,d2⟩:∃u,u=bs.getD 0 ⟨#[]⟩:=⟨_,rfl⟩;rw[<-d2]at s3;have i8:=Kh d2;have j5:=Kh c9;clear d2 c9 c2;go_wp2_with fail;have c5:=b6.out 0 H6;rw[<-i8.out]at c5;refine(bprefix_any w1 w3 bb k _ _ sn3 cn3 u0 j5.out (by simp) H7 H3 c5.1 c5.2).mono ?_;rintro e w4 ⟨gs4,sn4,cn4,rfl,b3⟩
 have e4:[]++[List.replicate k 0]++qR k (zJ u0) u0.size=[List.replicate k 0]++qR k (nthL bs 0) (nthL bs 0).length:=by
  rw[nthL,<-i8.out,yM];rfl
 rw[e4]at b3;have p4:=e5.out _ b3.grown;have a4:=Kh b3;have j1:=Kh b3.grown;clear b3 e4 p3 s3 c5 j5
 go_upto_if 35 with fail
 go_cut [8] (fun v8 wx=>∃(gs:List Nat) (sn:Option Addr) (cn:Nat),BB w1 wx bb k (vT k (bs.map zJ)) gs sn cn)
 case first =>
  by_cases h1:bs.length=1
  ·have i6:((bs.length:Int)-1 == 0)=true:=by simp[h1]
   have H1:=Kh h1;clear h1;go_wp2_with fail
   refine(nD w1 w4 bb k _ gs4 sn4 cn4 0 a4.out H7 H3 (by
    have h9:=(b6.out 0 H6).2;have e9:([List.replicate k 0]++qR k (nthL bs 0) (nthL bs 0).length).length=1+(bs.getD 0 ⟨#[]⟩).size:=by simp[qR,nthL,yM];omega
    omega)).mono ?_
   rintro e w5 ⟨g5,sn5,cn5,rfl,h6⟩;have er:[List.replicate k 0]++qR k (nthL bs 0) (nthL bs 0).length++[List.replicate k 0]=vT k (bs.map zJ):=(rows_one H1.out).symm;rw[er]at h6;obtain⟨gs5,a9⟩:∃l,l=gs4++[g5]:=⟨_,rfl⟩;rw[<-a9]at h6;have H4:=Kh h6;clear h6 er a4 a9;go_wp2
   go_meet
   exact⟨_,_,_,H4.out⟩
  ·have i6:((bs.length:Int)-1 == 0)=false:=by rw[beq_eq_false_iff_ne];omega
   have j9:2<=bs.length:=by omega
   rw[i6];obtain⟨m,hm⟩:∃m,m=bs.length-1-1:=⟨_,rfl⟩;have HM:=Kh hm;obtain⟨c1,c8⟩:∃c,c=1+(nthL bs 0).length:=⟨_,rfl⟩;have j2:=Kh c8;have k3:c1<=65:=by rw[c8,nthL,yM];have:=(b6.out 0 H6).2;omega
   obtain⟨base,h3⟩:∃base,base=[List.replicate k 0]++qR k (nthL bs 0) (nthL bs 0).length:=⟨_,rfl⟩;have g9:base.length=c1:=by rw[h3,c8];simp[qR];omega
   rw[<-h3]at a4;have c3:=Kh h3;have f5:=Kh g9;clear h1 hm c8 h3 g9;go_wp2_with fail
   go_loopg [10,43] m (fun gh a10 i wr=>∃(j:Nat) (gs:List Nat) (sn:Option Addr) (cn:Nat),gh+j=m/\i=.int .i64 j/\BB w1 wr bb k (base++midN k c1 ((pL bs).take j)) gs sn cn)
   case atStart=>exact⟨0,gs4,sn4,cn4,rfl,rfl,by simpa [midN] using a4.out⟩
   case round =>
    clear a4 j1 p4;obtain⟨j,gs,sn,cn,g4,rfl,a3⟩:=hrel;have e7:=Kh g4;have f4:=Kh a3;clear g4
    have a8:(base++midN k c1 ((pL bs).take j)).length<=129:=by
     rw[List.length_append,f5.out,oV];have:=mids_sum (bs:=bs) j;have:=j2.out;omega
    have b8:=Kh a8;clear a8;by_cases hj:j<m
    ·have d3:1+j<bs.length:=by have:=HM.out;omega
     have k1:(j:Int)<((bs.length-1-1:Nat):Int):=(by have:=HM.out;omega);have sj:=a0.out _ a3.grown (1+j) d3;rw[<-Nat.add_assoc]at sj;obtain⟨u,hu⟩:∃u,u=bs.getD (1+j) ⟨#[]⟩:=⟨_,rfl⟩;have H5:=b6.out (1+j) d3;have g1:=l2.out (1+j) d3 (by omega) (by have:=HM.out;omega);rw[<-hu]at sj H5 g1;have HU:=Kh hu;have b7:=Kh H5;clear hu a3 H5;go_wp2_with fail;refine(dL w1 wr bb k _ gs sn cn u f4.out (by have:=b8.out;omega) H7 H3 b7.out.1 g1 b7.out.2).mono ?_;rintro e w6 ⟨gs6,sn6,cn6,rfl,d8⟩
     have l6:Hid (BB w1 w6 bb k (base++midN k c1 ((pL bs).take (j+1))) gs6 sn6 cn6):=Kh (by
      have et:(pL bs).take (j+1)=(pL bs).take j++[zJ u]:=by
       rw[zT (d:=[]) (by rw[mC];have:=HM.out;omega),midsL_get (by have:=HM.out;omega),nthL,<-HU.out]
      rw[et,qCA,<-List.append_assoc];have el:(base++midN k c1 ((pL bs).take j)).length=c1+yQ ((pL bs).take j):=by rw[List.length_append,f5.out,oV]
      rw[el]at d8
      exact d8)
     clear d8;go_wp2;go_roundg (m-(j+1))
     case measure=>have:=e7.out;omega
     case rel=>exact⟨j+1,gs6,sn6,cn6,by have:=e7.out;omega,by go_num,l6.out⟩
    ·have g3:j=m:=by have:=e7.out;omega
     have k1:¬(j:Int)<((bs.length-1-1:Nat):Int):=(by have:=HM.out;omega);have pl:=e5.out _ a3.grown;have sl:=a0.out _ a3.grown (bs.length-1) (by omega);obtain⟨u,hu⟩:∃u,u=bs.getD (bs.length-1) ⟨#[]⟩:=⟨_,rfl⟩;have H5:=b6.out (bs.length-1) (by omega);rw[<-hu]at sl H5;have HU:=Kh hu;have b7:=Kh H5;have m5:((bs.length:Int)-1).toNat=bs.length-1:=by omega
     have m4:(bs.length:Int)-1<bs.length:=(by omega);have m3:0<=(bs.length:Int)-1:=by omega
     have l3:=Kh g3;clear hu H5 a3 g3;go_wp2_with fail;refine(bsuffix_any w1 wr bb k _ gs sn cn u f4.out (by have:=b8.out;omega) H7 H3 b7.out.1 b7.out.2).mono ?_;rintro e w5 ⟨gs5,sn5,cn5,rfl,h6⟩
     have H4:Hid (BB w1 w5 bb k (vT k (bs.map zJ)) gs5 sn5 cn5):=Kh (by
      have et:(pL bs).take j=pL bs:=List.take_of_length_le (by rw[mC];have:=HM.out;have:=l3.out;omega);have el:(base++midN k c1 (pL bs)).length=c1+yQ (pL bs):=by rw[List.length_append,f5.out,oV]
      rw[et,el]at h6;rw[rows_more j9,show nthL bs (bs.length-1)=zJ u by rw[nthL,<-HU.out]];have:=c3.out;rw[this,j2.out]at h6
      exact h6)
     clear h6 f4 sl pl;go_wp2
     go_meet
     exact⟨_,_,_,H4.out⟩
 case rest =>
  obtain⟨gs5,sn5,cn5,h6⟩:=hcut;have H4:=Kh h6;clear h6 p4 a4 j1;obtain⟨w5,rfl⟩:∃w5:World,w5=wc:=⟨_,rfl⟩;obtain⟨c50,c51,c5f⟩:=H4.out.cells;have j8:=iV (k:=k) H6 a7;obtain⟨RL,e0⟩:∃RL,RL=(vT k (bs.map zJ)).length:=⟨_,rfl⟩;rw[<-e0]at c51 j8;have e3:=Kh e0;have k0:=mk_bool RL (by omega);have a2:=zK H4.out.box;obtain⟨wo,rfl⟩:∃wo:World,wo=w5:=⟨_,rfl⟩;clear e0;go_wp2_with fail
  go_region
  all_goals
   first
   |
    obtain⟨w7,a6⟩:∃w7,w7=((wo.alloc (.cells (madeCells #[.bool false] RL) 4)).alloc (.cells #[.int .i64 (k:Int),.int .i64 1,.slice (some ⟨wo.heap.size,0,none⟩) RL RL,.slice sn5 RL cn5] 42)).drew:=⟨_,rfl⟩;have h8:=newD1 wo k RL sn5 cn5;rw[<-a6]at h8⊢;obtain⟨T,hT⟩:∃T,T=wo.heap.size+1:=⟨_,rfl⟩;obtain⟨F,hF⟩:∃F,F=wo.heap.size:=⟨_,rfl⟩;rw[<-hT]at h8⊢;rw[<-hF]at h8⊢;have i1:T≠F:=(by omega);clear hT hF
   |
    obtain⟨w7,a6⟩:∃w7,w7=((wo.alloc (.cells #[.int .i64 (k:Int),.int .i64 1,.slice (some ⟨wo.heap.size+1,0,none⟩) RL RL,.slice sn5 RL cn5] 42)).alloc (.cells (madeCells #[.bool false] RL) 4)).drew:=⟨_,rfl⟩;have h8:=newD2 wo k RL sn5 cn5;rw[<-a6]at h8⊢;obtain⟨T,hT⟩:∃T,T=wo.heap.size:=⟨_,rfl⟩;obtain⟨F,hF⟩:∃F,F=wo.heap.size+1:=⟨_,rfl⟩;rw[<-hF]at h8⊢;rw[<-hT]at h8⊢;have i1:T≠F:=(by omega);clear hT hF
   have H2:=Kh h8;have k7:=Kh a6;clear h8 a6 c50 c51 c5f k0;have h4:=Kh (H4.out.grow H2.out.grown);obtain⟨b70,b71,b7f⟩:=h4.out.cells;rw[<-e3.out]at b71;obtain⟨t70,t71,t72,t73⟩:=zF H2.out.box;obtain⟨R1,i3⟩:∃R1,R1=RL-1:=⟨_,rfl⟩;have e71:(RL:Int)-1=(R1:Int):=by omega
   have e72:IntKind.i64.wrap ((RL:Int)-1)=(R1:Int):=by rw[e71];exact tW (by omega)
   have b5:R1<RL:=(by omega);have i2:(R1:Int)<RL:=(by omega);have cF:=H2.out.arr.bool R1 (by rw[List.length_replicate];exact b5);have fF:=H2.out.arr.frozen R1;have m6:(bls (List.replicate RL false)).length=RL:=by rw[xC,List.length_replicate]
   have k9:=Kh i3;clear i3;go_wp2_with fail
   go_region
   obtain⟨w8,c4⟩:∃w8,w8=(w7.setCell ⟨F,R1,none⟩ (.bool true)).drew:=⟨_,rfl⟩;have H8:w7.grownBy w8 (some F):=by rw[c4];exact zA (zC w7 ⟨F,R1,none⟩ _) (zO _ none) (by simp)
   have i0:Arr w8 F 4 (bls ((List.replicate RL false).set (RL-1) true)):=by
    rw[c4,<-k9.out];exact(H2.out.arr.bool_set R1 (by rw[List.length_replicate];exact b5) true).of_heap rfl
   have n3:w7.heap.size<=w8.heap.size:=H8.size;obtain⟨cF8,rF8,h5,_⟩:=H2.out.arr
   have d7:BB w1 w8 bb k (vT k (bs.map zJ)) gs5 sn5 cn5:=by
    refine⟨zB h4.out.box H8 ?_,h4.out.own.kept H8 (.inr (zQ h4.out.own h5 (by decide))),h4.out.len,fun i hi=>⟨(h4.out.row i hi).1.kept H8 ?_,(h4.out.row i hi).2⟩,h4.out.nd,h4.out.lo,h4.out.glo,zA h4.out.grown H8 (fun q e=>?_)⟩
    ·intro e
     have e:=Oj e;rw[e,h4.out.box]at h5;simp only[Option.some.injEq,Obj.cells.injEq]at h5;exact absurd h5.2.1 (by decide)
    ·intro e
     have e:=Oj e;obtain⟨cu,rs,d5,_⟩:=(h4.out.row i hi).1;rw[<-e,h5]at d5;simp only[Option.some.injEq,Obj.cells.injEq]at d5;exact absurd d5.2.1 (by decide)
    ·have e:F=q:=Oj e
     have:=H2.out.lo;have:=H4.out.grown.size;omega
   have b1:=pat_dfaOk d7 H3 e3.out (by omega) i0 (by unfold maxLen;omega);have c6:=aU H7 H3 H6 a7;rw[<-e3.out]at c6;have i9:=Kh (qEN w8.heap.size w8 _ (patD k (bs.map zJ)) RL k (Nat.le_refl _) b1 c6 (by omega));obtain⟨t80,t81,t82,t83⟩:=zF (zB H2.out.box H8 (fun e=>i1 (Oj e).symm));have b9:Hid (w1.grownBy w8 none):=Kh d7.grown;have e6:Hid ((minD (patD k (bs.map zJ)) k).letters=k/\(minD (patD k (bs.map zJ)) k).start=0):=Kh ⟨(eK c6).hk,rfl⟩;rw[<-c4];clear c4 H8 i0 h5 d7 b1 c6 t70 t71 t72 t73 b70 b71 b7f cF fF h4 H2 k7;go_wp2_with fail;refine i9.out.mono ?_;rintro e w9 ⟨v9,rfl,g7,g6⟩;have d0:=Kh g7;obtain⟨o9,m0,sf9,cf9,sn9,cn9,rfl,m1,b2⟩:=g7;obtain⟨R,hR⟩:∃R,R=minD (patD k (bs.map zJ)) k:=⟨_,rfl⟩;rw[<-hR]at b2 d0 e6⊢;rw[e6.out.1,e6.out.2]at d0⊢;obtain⟨FL,i5⟩:∃FL,FL=R.final.length:=⟨_,rfl⟩;obtain⟨NL,i4⟩:∃NL,NL=R.next.length:=⟨_,rfl⟩;rw[<-i5,<-i4]at d0⊢;have HR:=Kh hR;have j0:=Kh (zA b9.out g6 (by simp));have H9:=zB h2.out j0.out (by simp);have j3:=Kh H9;obtain⟨q0,q1,q2,q3⟩:=zF H9;have f0:=zE H9 0;have f1:=zE H9 1;have f2:=zE H9 2;have f3:=zE H9 3;have k5:Q<w8.heap.size:=(by have:=b9.out.size;omega);clear b2 i5 i4 hR g6 H9 t80 t81 t82 t83 i9;go_wp2;obtain⟨a2,a1⟩:=wF j3.out (.int .i64 (k:Int)) (.int .i64 0) (.slice sf9 FL cf9) (.slice sn9 NL cn9);obtain⟨wz,a5⟩:∃wz,wz=(((w9.setCell ⟨Q,0,none⟩ (.int .i64 (k:Int))).setCell ⟨Q,1,none⟩ (.int .i64 0)).setCell ⟨Q,2,none⟩ (.slice sf9 FL cf9)).setCell ⟨Q,3,none⟩ (.slice sn9 NL cn9):=⟨_,rfl⟩;rw[<-a5]at a2 a1⊢;clear a5;obtain⟨r0,r1,r2,r3⟩:=zF a2;clear q0 q1 q2 q3 f0 f1 f2 f3;refine bodyPost_ret (v:=.tuple #[.agg #[.int .i64 (k:Int),.int .i64 0,.slice sf9 FL cf9,.slice sn9 NL cn9],.int .i64 0]) (by simp[results,Try.results83,go_sem,r0,r1,r2,r3]) rfl ?_;have k2:=d0.out.far a1 j3.out k5;obtain⟨fv9,nv9,j6,j7⟩:=k2.t;refine⟨fv9,nv9,?_,?_,zA (zA e8.out j0.out (by simp)) a1 (fun q e=>by have h7:Q=q:=Oj e;omega)⟩
   ·rw[HE.out,HD.out,<-HR.out,<-j6]
   ·rw[HD.out,<-HR.out];exact j7
theorem xS {α:Type}{l m:List α}{i:Nat}{d:α}(h:i<l.length):(l++m).getD i d=l.getD i d:=by
 rw[List.getD_eq_getElem?_getD,List.getElem?_append_left h,<-List.getD_eq_getElem?_getD]
section
variable {w0 w w':World} {T F N C B k cnt c0:Nat} {p:List Nat} {fs:List Bool} {t:List (List Int)} {gs:List Nat}
end
theorem DfaT.shapes {w:World}{f nx:Value}{d:DfaV}(h:DfaT w f nx d):∃sa n1 c1 sb n2 c2,f=.slice sa n1 c1/\nx=.slice sb n2 c2:=by
 obtain⟨hs,a,b,_⟩:=h;obtain⟨sa,c1,rfl⟩:=a.shape;obtain⟨sb,c2,rfl⟩:=b.shape;exact⟨sa,_,c1,sb,_,c2,rfl,rfl⟩
def autD (ps:List (List ByteArray))(letters:Int):List DfaV:=ps.map fun p=>xH p letters
def qDA (w:World)(E:Int)(ds:List DfaV)(e:Ending)(w':World):Prop:=∃sa n sc,e=.returned (.tuple #[.slice sa n sc,.int .i64 E])/\w.grownBy w' none/\((E≠0)\/(E=0/\n=ds.length/\∃l,l.map (·.1)=ds/\DsUp w.heap.size w' (.slice sa n sc) l))
theorem automata_any (B:Nat)(w:World)(v:Value)(ps:List (List ByteArray))(letters:Int)(hB:B<=w.heap.size)(h:vS B w v ps)(hl:ps.length<=4096):Calls Try.prog 56 #[v,.int .i64 letters] w (qDA w (vI letters ps) (autD ps letters)):=by
 obtain⟨a,c,rfl⟩:=h.shape;obtain⟨n,hn⟩:∃n,n=ps.length:=⟨_,rfl⟩;have HN:=Kh hn;have H:=Kh h;rw[<-hn]at hl H⊢;clear h hn;go_enter Try.func56,Try.ntmps56;go_wp2
 go_loopg [7,8,16] n (fun gh s7 s8 i wr=>∃k:Nat,gh+k=n/\i=.int .i64 k/\vI letters (ps.drop k)=vI letters ps/\w.grownBy wr none)
 case atStart=>exact⟨0,rfl,rfl,rfl,zH _ _⟩
 case round =>
  obtain⟨k,H6,rfl,b2,hg⟩:=hrel;have h9:=Kh H6;have HG:=Kh hg;have h4:=Kh b2;clear H6 b2;by_cases hk:k<n
  ·have b5:(k:Int)<n:=by omega
   have H5:=H.out.kept hg (by simp);obtain⟨b,off,cap,e,c6,h8,a6,h3⟩:=H5.at_ (by rw[<-HN.out];omega);rw[<-HN.out]at e h8 h3;simp only[Value.slice.injEq,true_and]at e;obtain⟨rfl,rfl⟩:=e;obtain⟨sa,sc,c1,h2,H1⟩:=h3 k hk;obtain⟨q,hq⟩:∃q,q=ps.getD k []:=⟨_,rfl⟩;rw[<-hq]at c1 h2 H1;have c4:c<=9223372036854775807:=by unfold maxLen at a6;omega
   have HV:Hid (∀W:World,wr.grownBy W none->Calls Try.prog 36 #[.agg #[.slice sa q.length sc],.int .i64 letters] W fun e w'=>e=.returned (.int .i64 (patW q letters))/\w.grownBy w' none):=Kh (fun W hW=>(kY B W _ q letters (h2.kept hW (by simp)) H1).mono fun e w' ⟨he,hg'⟩=>⟨he,zA HG.out (zD hW hg') (by simp)⟩);have HQ:=Kh hq;obtain⟨E,hE⟩:∃E,E=patW q letters:=⟨_,rfl⟩;rw[<-hE]at HV;have HE:=Kh hE;obtain⟨ql,H4⟩:∃n,n=q.length:=⟨_,rfl⟩;rw[<-H4]at c1 HV;clear H5 h3 h2 H1 hq hg hE H4;go_wp2_with fail;refine(HV.out _ (Ga wr _ none)).mono ?_;rintro e w1 ⟨rfl,h7⟩;have H0:=Kh h7;clear h7 HV;by_cases hE:E=0
   ·have e1:(E != 0)=false:=by simp[hE]
    have b0:=Kh hE;clear hE;go_wp2;go_roundg (n-(k+1))
    case measure=>have:=h9.out;omega
    case rel=>exact⟨k+1,by have:=h9.out;omega,by go_num,(mU (by rw[<-HN.out];exact hk) (by rw[<-HQ.out,<-HE.out];exact b0.out)).trans h4.out,H0.out⟩
   ·have e1:(E != 0)=true:=by rw[bne_iff_ne];exact hE
    have b0:=Kh hE;have c0:Hid (vI letters ps=E):=Kh (by rw[<-h4.out,fW (by rw[<-HN.out];exact hk) (by rw[<-HQ.out,<-HE.out];exact hE),<-HQ.out,<-HE.out]);clear hE;go_wp2;refine bodyPost_ret (v:=.tuple #[.slice none 0 0,.int .i64 E]) (by simp[results,Try.results56,go_sem]) rfl ?_;exact⟨none,0,0,by rw[c0.out],H0.out,.inl (by rw[c0.out];exact b0.out)⟩
  ·have a3:k=n:=by have:=h9.out;omega
   have a8:Hid (vI letters ps=0):=Kh (by rw[<-h4.out];exact kZ (by rw[<-HN.out];exact hk));have c5:¬(k:Int)<n:=by omega
   have c8:Hid (∀j,j<n->patW (ps.getD j []) letters=0):=Kh (fun j hj=>by
    have:=uU.1 a8.out;rw[zG (by rw[<-HN.out];exact hj)]
    exact this _ (List.getElem_mem _))
   clear a3 h4 h9;obtain⟨wo,rfl⟩:∃wo:World,wo=wr:=⟨_,rfl⟩;go_wp2_with (first|(at_make;refine make0N rfl _ _ _ rfl jK .i64 .i64 _ (n+1) rfl rfl (by simp) ?m2 ?m3 ?_)|fail)
   case m2=>omega
   case m3=>unfold maxLen;omega
   intro w1 h6 h7;have b9:Hid (DsUp w.heap.size w1 (.slice (some ⟨wo.heap.size,0,none⟩) 0 (n+1)) []):=Kh ⟨yU h6 HG.out.size,fun x hx=>absurd hx (by simp)⟩;have H0:=Kh (zA HG.out h7 (by simp));clear h6 h7 hg HG;go_wp2
   go_loopg [9,11,12,13,33] n (fun gh v9 s11 s12 s13 i wr=>∃(k:Nat) (sa:Option Addr) (sc:Nat) (l:List (DfaV×Value×Value)),gh+k=n/\i=.int .i64 k/\v9=.slice sa k sc/\l.map (·.1)=autD (ps.take k) letters/\DsUp w.heap.size wr (.slice sa k sc) l/\l.length=k/\w.grownBy wr none)
   case atStart=>exact⟨0,_,_,[],rfl,rfl,rfl,rfl,b9.out,rfl,H0.out⟩
   case round =>
    clear b9 H0;obtain⟨k,sa,sc,l,H6,rfl,rfl,b4,b6,b3,hg⟩:=hrel;have h9:=Kh H6;have HG:=Kh hg;have H9:=Kh b4;have b1:=Kh b6;have H8:=Kh b3;clear H6 b4 b6 b3;by_cases hk:k<n
    ·have b5:(k:Int)<n:=by omega
     have H5:=H.out.kept hg (by simp);obtain⟨b,off,cap,e,c6,h8,a6,h3⟩:=H5.at_ (by rw[<-HN.out];omega);rw[<-HN.out]at e h8 h3;simp only[Value.slice.injEq,true_and]at e;obtain⟨rfl,rfl⟩:=e;obtain⟨ea,ec,c1,h2,H1⟩:=h3 k hk;have a2:=c8.out k hk
     have a7:Hid (autD (ps.take (k+1)) letters=autD (ps.take k) letters++[xH (ps.getD k []) letters]):=Kh (by
      rw[zT (d:=[]) (by rw[<-HN.out];exact hk),autD,List.map_append];rfl)
     obtain⟨q,hq⟩:∃q,q=ps.getD k []:=⟨_,rfl⟩;rw[<-hq]at c1 h2 H1 a2 a7;have c4:c<=9223372036854775807:=by unfold maxLen at a6;omega
     have HV:Hid (∀W:World,wr.grownBy W none->Calls Try.prog 83 #[.agg #[.slice ea q.length ec],.int .i64 letters] W (dZ W 0 (xH q letters))):=Kh (fun W hW=>by
      have:=pdfa_anyT B W _ q letters (h2.kept hW (by simp)) (by have:=hW.size;have:=HG.out.size;omega) H1;rw[a2]at this
      exact this)
     obtain⟨ql,H4⟩:∃n,n=q.length:=⟨_,rfl⟩;obtain⟨D,hD⟩:∃D,D=xH q letters:=⟨_,rfl⟩;rw[<-H4]at c1 HV;rw[<-hD]at HV a7;have d9:=hg.size;clear H5 h3 h2 H1 hq hg H4 a2 hD;go_wp2_with fail;refine(HV.out _ (Ga wr _ none)).mono ?_;rintro e w1 ⟨f1,x1,rfl,a1,h7⟩;obtain⟨fa1,fl1,fc1,na1,nl1,nc1,rfl,rfl⟩:=a1.shapes;have H0:=Kh (zA (Ga wr (.cells #[.slice ea ql ec] 28) none) h7 (by simp));have b8:=Kh a1;obtain⟨dl,a5⟩:∃x,x=D.letters:=⟨_,rfl⟩;obtain⟨dst,H2⟩:∃x,x=D.start:=⟨_,rfl⟩;rw[<-a5,<-H2];have d7:=Kh a5;have d6:=Kh H2;clear h7 a1 HV c1 a5 H2;obtain⟨w2,a0⟩:∃w2,w2=w1.alloc (.cells #[.int .i64 dl,.int .i64 dst,.slice fa1 fl1 fc1,.slice na1 nl1 nc1] 42):=⟨_,rfl⟩;have H7:=Ga w1 (.cells #[.int .i64 dl,.int .i64 dst,.slice fa1 fl1 fc1,.slice na1 nl1 nc1] 42) none;have h8:=heap_alloc_new w1 (.cells #[.int .i64 dl,.int .i64 dst,.slice fa1 fl1 fc1,.slice na1 nl1 nc1] 42);obtain⟨R,hR⟩:∃R,R=w1.heap.size:=⟨_,rfl⟩;rw[<-a0]at H7 h8;rw[<-hR]at h8;have c9:=Kh (b8.out.grow H7);have a9:=Kh (zA H0.out H7 (by simp));have H3:=Kh (b1.out.grow a9.out);have c7:=Kh a0;have d4:=Kh hR;obtain⟨d0,d1,d2,d3⟩:=zF h8;have e0:=a9.out.size;clear a0 hR H7 h8 b1 H0 b8;go_upto_region 13 with fail;rw[<-c7.out,<-d4.out];go_wp2_with (first|(at_builtin;refine dR rfl _ _ _ rfl jK w.heap.size (.slice sa k sc) k (kI l) rfl ?h0 [.int .i64 dl,.int .i64 dst,.slice fa1 fl1 fc1,.slice na1 nl1 nc1] rfl rfl ?h1 ?c1 ?c2 ?c3 ?_)|fail)
     case h0=>have:=H3.out.own;rw[H8.out]at this;exact this
     case h1=>intro u hu;simp at hu;rcases hu with rfl|rfl|rfl|rfl<;>rfl
     case c1=>unfold maxLen;omega
     case c2=>omega
     case c3=>have:=HG.out.size;omega
     intro sa' sc' w3 h5 a4;have b7:=H3.out.push (v':=.slice sa' (k+1) sc') (x:=(D,.slice fa1 fl1 fc1,.slice na1 nl1 nc1)) c9.out (by rw[H8.out];unfold dval;rw[<-d7.out,<-d6.out];exact h5) a4;have d8:=Kh b7;have d5:Hid (w.grownBy w3 none):=Kh (zA (zA HG.out a9.out (by simp)) a4 (fun x e=>(H3.out.own.lt x e).1));clear h5 a4 b7;go_wp2;go_roundg (n-(k+1))
     case measure=>have:=h9.out;omega
     case rel=>exact⟨k+1,sa',sc',l++[(D,.slice fa1 fl1 fc1,.slice na1 nl1 nc1)],by have:=h9.out;omega,by go_num,rfl,by rw[a7.out,List.map_append,H9.out];rfl,d8.out,by rw[List.length_append,H8.out];rfl,d5.out⟩
    ·have a3:k=n:=by have:=h9.out;omega
     have b5:¬(k:Int)<n:=(by omega);have HE:Hid (ps.take k=ps):=Kh (List.take_of_length_le (by rw[<-HN.out];omega));rw[HE.out]at H9;clear hg a3;go_wp2;refine bodyPost_ret (v:=.tuple #[.slice sa k sc,.int .i64 0]) (by simp[results,Try.results56,go_sem]) rfl ?_;exact⟨sa,k,sc,by rw[a8.out],HG.out,.inr ⟨a8.out,by rw[<-H9.out,List.length_map,H8.out],l,H9.out,b1.out⟩⟩
open Go.Maps
theorem DsO.dfa {B:Nat}{w:World}{g off k:Nat}{ds:List DfaV}(h:DsO B w g off ds)(hok:OkT ds k){i:Nat}(hi:i<ds.length):∃n fb fo fc b of2 cap RB RO RC,VD (ds.getD i dN) n k/\n<=512/\w.cell? ⟨g,off+i*4,none⟩=some (.int .i64 (k:Int))/\w.cell? ⟨g,off+i*4+1,none⟩=some (.int .i64 ((st0 (ds.getD i dN):Nat):Int))/\w.cell? ⟨g,off+i*4+2,none⟩=some (.slice (some ⟨fb,fo,none⟩) n fc)/\w.cell? ⟨g,off+i*4+3,none⟩=some (.slice (some ⟨b,of2,none⟩) n cap)/\DAt B w (ds.getD i dN) n k fb fo fc b of2 cap RB RO RC:=by
 obtain⟨n,hv,h5⟩:=hok i hi;obtain⟨f,nx,h1,h2,h3,h4,hd⟩:=h.at_ i hi;obtain⟨fb,fo,fc,b,of2,cap,RB,RO,RC,e,h0⟩:=hd.at hv;rw[dAgg]at e;simp only[Value.agg.injEq]at e;have e:=congrArg Array.toList e;simp only[List.cons.injEq,and_true]at e;obtain⟨e1,e2,e3,e4⟩:=e;exact⟨n,fb,fo,fc,b,of2,cap,RB,RO,RC,hv,h5,by rw[h1,e1],by rw[h2,e2],by rw[h3,e3],by rw[h4,e4],h0⟩
theorem qHY {X:Nat->Prop}{w:World}{g n:Nat}{f:List Nat}(h:Arr w g 3 (nats f))(hn:f.length=n)(hm:n<=maxLen)(hX:X g):RowX X 3 w (.slice (some ⟨g,0,none⟩) n n) (nats f):=RowX.of_new h hn (Nat.le_refl _) hm hX
theorem prod_start {w wr:World}{G np k:Nat}{pv:Value}{x0:List Nat}(hg:w.grownBy wr none)(hG:Arr wr G 3 (nats x0))(hGl:w.heap.size<=G)(hx:x0.length=np)(hnp:np<=4096){w5:World}(hw5:w5=(((wr.alloc (.cells #[.slice (some ⟨G,0,none⟩) np np] 34)).alloc (.cells #[.int .i64 0] 3)).alloc (.cells #[.int .i64 0] 3)).alloc (.cells #[.int .i64 (k:Int),pv,.slice (some ⟨wr.heap.size,0,none⟩) 1 1,.slice none 0 0,.slice (some ⟨wr.heap.size+1,0,none⟩) 1 1,.slice (some ⟨wr.heap.size+1+1,0,none⟩) 1 1] 111)):BoxS w.heap.size (fun q=>q=G) (wr.heap.size+1+1+1) 111 w w5 (⟨w.heap.size,34,.slice (some ⟨wr.heap.size,0,none⟩) 1 1,1,[.slice (some ⟨G,0,none⟩) np np],1⟩::⟨w.heap.size,3,.slice none 0 0,0,nats [],1⟩::⟨w.heap.size,3,.slice (some ⟨wr.heap.size+1,0,none⟩) 1 1,1,nats [0],1⟩::⟨w.heap.size,3,.slice (some ⟨wr.heap.size+1+1,0,none⟩) 1 1,1,nats [0],1⟩::[]) #[.int .i64 (k:Int),pv,.slice (some ⟨wr.heap.size,0,none⟩) 1 1,.slice none 0 0,.slice (some ⟨wr.heap.size+1,0,none⟩) 1 1,.slice (some ⟨wr.heap.size+1+1,0,none⟩) 1 1] w5/\uP (fun q=>q=G) 3 nats w5 [.slice (some ⟨G,0,none⟩) np np] [x0]/\w.grownBy w5 none:=by
 obtain⟨w2,h2⟩:∃w2,w2=wr.alloc (.cells #[.slice (some ⟨G,0,none⟩) np np] 34):=⟨_,rfl⟩;obtain⟨w3,h1⟩:∃w3,w3=w2.alloc (.cells #[.int .i64 0] 3):=⟨_,rfl⟩;obtain⟨w4,h0⟩:∃w4,w4=w3.alloc (.cells #[.int .i64 0] 3):=⟨_,rfl⟩;have h4:w2.heap.size=wr.heap.size+1:=by rw[h2,zL]
 have h3:w3.heap.size=wr.heap.size+1+1:=by rw[h1,zL,h4]
 have h8:w4.heap.size=wr.heap.size+1+1+1:=by rw[h0,zL,h3]
 rw[<-h2,<-h1,<-h0]at hw5;have g2:wr.grownBy w2 none:=by rw[h2];exact Ga _ _ _
 have g3:w2.grownBy w3 none:=by rw[h1];exact Ga _ _ _
 have g4:w3.grownBy w4 none:=by rw[h0];exact Ga _ _ _
 have g5:w4.grownBy w5 none:=by rw[hw5];exact Ga _ _ _
 have h7:=hg.size;have h5:1<=maxLen:=by unfold maxLen;omega
 have o2:w2.ownsRow wr.heap.size 34 1 (.slice (some ⟨wr.heap.size,0,none⟩) 1 1) 1 [.slice (some ⟨G,0,none⟩) np np]:=by rw[h2];exact World.ownsRow_lit wr #[_] 1 (Nat.le_refl _) h5 rfl
 have o3:w3.ownsRow w2.heap.size 3 1 (.slice (some ⟨wr.heap.size+1,0,none⟩) 1 1) 1 (nats [0]):=by rw[h1,<-h4];exact World.ownsRow_lit w2 #[_] 1 (Nat.le_refl _) h5 rfl
 have o4:w4.ownsRow w3.heap.size 3 1 (.slice (some ⟨wr.heap.size+1+1,0,none⟩) 1 1) 1 (nats [0]):=by rw[h0,<-h3];exact World.ownsRow_lit w3 #[_] 1 (Nat.le_refl _) h5 rfl
 have m0:EMem (fun q=>q=G) wr []:=⟨fun r hr=>by simp at hr,List.Pairwise.nil,fun r hr=>by simp at hr,fun k hk=>by subst hk;exact hG.lt⟩;have m1:=m0.add g2 (r:=⟨w.heap.size,34,.slice (some ⟨wr.heap.size,0,none⟩) 1 1,1,[.slice (some ⟨G,0,none⟩) np np],1⟩) (yU (base':=w.heap.size) o2 h7) (fun k hk=>(o2.lt k hk).1);have m2:=m1.add (zH w2 none) (r:=⟨w.heap.size,3,.slice none 0 0,0,nats [],1⟩) (World.ownsRow_nil _ _ _ _) (fun k hk=>by simp[Value.ownBlock]at hk);have m3:=m2.add g3 (r:=⟨w.heap.size,3,.slice (some ⟨wr.heap.size+1,0,none⟩) 1 1,1,nats [0],1⟩) (yU (base':=w.heap.size) o3 (by rw[h4];omega)) (fun k hk=>(o3.lt k hk).1);have m4:=m3.add g4 (r:=⟨w.heap.size,3,.slice (some ⟨wr.heap.size+1+1,0,none⟩) 1 1,1,nats [0],1⟩) (yU (base':=w.heap.size) o4 (by rw[h3];omega)) (fun k hk=>(o4.lt k hk).1);have h9:=zA (zA (zA hg g2 (by simp)) g3 (by simp)) g4 (by simp);have h6:=zA h9 g5 (by simp)
 have H0:w5.heap[wr.heap.size+1+1+1]?=some (.cells #[.int .i64 (k:Int),pv,.slice (some ⟨wr.heap.size,0,none⟩) 1 1,.slice none 0 0,.slice (some ⟨wr.heap.size+1,0,none⟩) 1 1,.slice (some ⟨wr.heap.size+1+1,0,none⟩) 1 1] 111 (0,0)):=by
  rw[hw5,<-h8];exact heap_alloc_new w4 _
 have H1:=((((hG.kept g2 (by simp)).kept g3 (by simp)).kept g4 (by simp)).kept g5 (by simp));have H2:=hG.lt;refine⟨⟨m4.grow g5,fun r hr=>?_,H0,fun e=>by have e:wr.heap.size+1+1+1=G:=e;omega,Nat.le_refl _,by omega,by have:=g5.size;omega,h6,uN.refl _ _,Nat.le_refl _⟩,uP.nil.snoc (qHY H1 hx (by unfold maxLen;omega) rfl),h6⟩;simp only[List.nil_append,List.append_assoc,List.cons_append,List.mem_cons,List.not_mem_nil,or_false]at hr;have d1:(34:Nat)≠111:=by decide
 have d2:(3:Nat)≠111:=by decide
 rcases hr with rfl|rfl|rfl|rfl
 ·exact⟨rfl,d1⟩
 ·exact⟨rfl,d2⟩
 ·exact⟨rfl,d2⟩
 ·exact⟨rfl,d2⟩
section
variable {α:Type} {mt kt:TypeId} {V:α->Prop} {kv:α->Value} {w:World}
theorem MapK.upd [DecidableEq α]{w:World}{b n c:Nat}{f:α->Option Nat}(h:MapK kt V kv w b n c f)(K:KeyK mt kt V kv){z:α}{y:Nat}(hn:n<maxLen)(hz:V z)(hy:y<4611686018427387904):∃w' r,(Instr.mapUpdate mt (.map (some b)) (kv z) (.int .i64 (y:Int))).run Try.prog w=.ok r w'/\MapK kt V kv w' b (n+1) (if (f z).isSome then c else c+1) (fun q=>if q=z then some y else f q)/\w.grownBy w' (some b):=by
 obtain⟨D,h1,h2,h3⟩:=h;obtain⟨kl,h0⟩:=Option.isSome_iff_exists.1 (K.of z hz);obtain⟨w',h4,h5,h7⟩:=h1.update K.key K.und hn h0 (plainElem_int sG (qBZ (x:=(y:Int)) ⟨by omega,by omega⟩));refine⟨w',_,h4,⟨_,h5,?_,fun q ql hq hql=>?_⟩,h7⟩
 ·rw[size_put (h1.tidy K.key),(h3 z kl hz h0).1,h2]
 ·by_cases e:q=z
  ·subst e
   rw[h0]at hql;cases hql;refine⟨by rw[has_put_same h1.isMap (K.key.key h0)];simp,?_⟩;simp only[if_pos];rw[atKey_put_same h1.isMap (K.key.key h0)];rfl
  ·have h6:ql≠kl:=fun h=>e (K.inj q z hq hz (K.key.inj (hql.trans (congrArg some h)) h0))
   obtain⟨e1,e2⟩:=h3 q ql hq hql;simp only[if_neg e];exact⟨by rw[has_put_other h6,e1],by rw[atKey_put_other h6,e2]⟩
end
section
variable {X:Nat->Prop} {B o ty:Nat} {w0 wk w w':World} {rs:List RowS} {c:Array Value}
theorem BoxS.retire {r:RowS}(h:BoxS B X o ty w0 wk (rs++[r]) c w):BoxS B (fun k=>X k\/r.v.ownBlock=some k) o ty w0 w rs c w :=
 ⟨h.mem.retire,fun s hs=>h.typ s (List.mem_append_left _ hs),h.box,fun e=>by
  rcases e with e|e
  ·exact h.off e
  ·exact absurd e (zQ (h.mem.own r (by simp)) h.box (h.typ r (by simp)).2),h.size,h.old,Nat.le_trans h.base h.wk,h.grown,uN.refl _ _,Nat.le_refl _⟩
end
section
variable {w0 w w':World} {B o mb k np m q rb:Nat} {pv:Value} {L:List (List Nat)} {nxl fr bl xs:List Nat}
theorem ProdS.open_ (h:ProdS w0 B o mb k np pv L nxl fr bl m q (⟨B,3,.slice (some ⟨rb,0,none⟩) np np,np,nats xs,1⟩::[]) w)(hg:w.grownBy w' (some mb))(hb:∃es clock,w'.heap[mb]?=some (.map es clock)):∃X hs sS sN sF sB cS cN cF cB,BoxS B (fun j=>X j\/j=mb) o 111 w0 w' (⟨B,34,.slice sS m cS,m,hs,1⟩::⟨B,3,.slice sN q cN,q,nats nxl,1⟩::⟨B,3,.slice sF m cF,m,nats fr,1⟩::⟨B,3,.slice sB m cB,m,nats bl,1⟩::[]) #[.int .i64 (k:Int),pv,.slice sS m cS,.slice sN q cN,.slice sF m cF,.slice sB m cB] w'/\uP X 3 nats w' (hs++[.slice (some ⟨rb,0,none⟩) np np]) (L++[xs])/\uP X 3 nats w' hs L/\¬X mb/\w0.heap.size<=mb/\(L.length=m/\nxl.length=q/\fr.length=m/\bl.length=m)/\hs.length=m:=by
 obtain⟨X,hs,sS,sN,sF,sB,cS,cN,cF,cB,u,c,hB,hE,hM,h4,h5,hu,hl,H0⟩:=h
 have h1:o≠mb:=fun e=>by
  obtain⟨es,clock,hb⟩:=hM.obj;have:=hB.box;rw[e,hb]at this;simp at this
 have h0:=hB.far hg (fun r hr=>yL (es:=#[]) (clock:=0) (hB.mem.own r hr) hM.obj) h4 h1 h5;have h9:=h0.kept;have h3:=h0.wk;have h2:=h0.rebase;have H2:RowX (fun j=>X j\/(Value.slice (some ⟨rb,0,none⟩) np np).ownBlock=some j) 3 w' (.slice (some ⟨rb,0,none⟩) np np) (nats xs):=RowX.of_owns (h2.own (r:=⟨B,3,.slice (some ⟨rb,0,none⟩) np np,np,nats xs,1⟩) (by simp)) (fun j hj=>.inr hj);have h6:=BoxS.retire (rs:=(⟨B,34,.slice sS m cS,m,hs,1⟩::⟨B,3,.slice sN q cN,q,nats nxl,1⟩::⟨B,3,.slice sF m cF,m,nats fr,1⟩::⟨B,3,.slice sB m cB,m,nats bl,1⟩::[])) (r:=⟨B,3,.slice (some ⟨rb,0,none⟩) np np,np,nats xs,1⟩) h2;have h8:mb<w'.heap.size:=Nat.lt_of_lt_of_le hM.lt h3;have H1:=h6.stand h8 (fun r hr=>yL (es:=#[]) (clock:=0) (h6.mem.own r hr) hb) h1;have h7:=(hE.kept h9 h3).mono (X':=fun j=>X j\/(Value.slice (some ⟨rb,0,none⟩) np np).ownBlock=some j) (fun j hj=>.inl hj);refine⟨_,hs,sS,sN,sF,sB,cS,cN,cF,cB,H1,h7.snoc H2,h7,fun e=>?_,h5,hl,H0⟩;rcases e with e|e
 ·exact h4 e
 ·exact yL (es:=#[]) (clock:=0) (h2.own (r:=⟨B,3,.slice (some ⟨rb,0,none⟩) np np,np,nats xs,1⟩) (by simp)) hb e
theorem bD {X:Nat->Prop}{wk:World}{hs:List Value}{sS sN sF sB:Option Addr}{cS cN cF cB u c:Nat}(hB:BoxS B (fun j=>X j\/j=mb) o 111 w0 wk (⟨B,34,.slice sS m cS,m,hs,1⟩::⟨B,3,.slice sN q cN,q,nats nxl,1⟩::⟨B,3,.slice sF m cF,m,nats fr,1⟩::⟨B,3,.slice sB m cB,m,nats bl,1⟩::[]) #[.int .i64 (k:Int),pv,.slice sS m cS,.slice sN q cN,.slice sF m cF,.slice sB m cB] w)(hE:uP X 3 nats wk hs L)(hM:MapK 9 (qM np) (fun l=>.string (txtT (kb l))) wk mb u c (numE L))(hmx:¬X mb)(hmb:w0.heap.size<=mb)(hu:u<=m)(hl:L.length=m/\nxl.length=q/\fr.length=m/\bl.length=m)(hhs:hs.length=m):ProdS w0 B o mb k np pv L nxl fr bl m q [] w :=
 ⟨X,hs,sS,sN,sF,sB,cS,cN,cF,cB,u,c,(hB.less (fun j h=>.inl h)).rebase,hE.kept (fun j hj=>hB.kept j (.inl hj)) hB.wk,hM.of_block (hB.kept mb (.inr rfl)),hmx,hmb,hu,hl,hhs⟩
end
abbrev KR (l:List Nat):Value:=.string (txtT (kbR l))
inductive RPr (w0:World)(B o mb np:Nat)(pv:Value)(L T:List (List Nat))(m q:Nat)(tl:List RowS)(w:World):Prop
 | mk (X:Nat->Prop) (hs hn:List Value) (sS sN:Option Addr) (cS cN u c:Nat)
  (hB:BoxS B X o 88 w0 w (⟨B,34,.slice sS m cS,m,hs,1⟩::⟨B,34,.slice sN q cN,q,hn,1⟩::tl) #[pv,.slice sS m cS,.slice sN q cN] w)
  (hE:uP X 3 nats w hs L) (hN:uP X 3 nats w hn T) (hM:MapK 9 (qM np) KR w mb u c (numE L)) (hmx:¬X mb) (hmb:w0.heap.size<=mb) (hu:u<=2*m)
  (hl:L.length=m/\T.length=q) (hhs:hs.length=m/\hn.length=q) (hlo:∀j,X j->B<=j)
section
variable {w0 w w' w1:World} {B o mb np m q:Nat} {pv:Value} {L T:List (List Nat)} {tl:List RowS}
theorem RPr.grow (h:RPr w0 B o mb np pv L T m q tl w)(hg:w.grownBy w' none):RPr w0 B o mb np pv L T m q tl w':=by
 obtain⟨X,hs,hn,sS,sN,cS,cN,u,c,hB,hE,hN,hM,h1,h2,hu,hl,h4,h3⟩:=h;have h0:=hB.mem.keep hg;exact⟨X,hs,hn,sS,sN,cS,cN,u,c,(hB.grow hg).rebase,hE.kept h0 hg.size,hN.kept h0 hg.size,hM.kept hg (by simp),h1,h2,hu,hl,h4,h3⟩
theorem RPr.facts (h:RPr w0 B o mb np pv L T m q tl w):w0.grownBy w none/\B<=w.heap.size/\w0.heap.size<=B/\w0.heap.size<=o/\o<w.heap.size/\L.length=m/\T.length=q:=by
 obtain⟨X,hs,hn,sS,sN,cS,cN,u,c,hB,hE,hN,hM,h0,h1,hu,hl,h3,h2⟩:=h;exact⟨hB.grown,Nat.le_trans hB.base hB.wk,hB.size,hB.old,zK hB.box,hl.1,hl.2⟩
theorem RPr.map (h:RPr w0 B o mb np pv L T m q tl w):∃u c,u<=2*m/\MapK 9 (qM np) KR w mb u c (numE L):=by
 obtain⟨X,hs,hn,sS,sN,cS,cN,u,c,hB,hE,hN,hM,h0,h1,hu,hl,h3,h2⟩:=h;exact⟨u,c,hu,hM⟩
theorem RPr.cells (h:RPr w0 B o mb np pv L T m q tl w):∃sS cS sN cN,w.heap[o]?=some (.cells #[pv,.slice sS m cS,.slice sN q cN] 88 (0,0))/\(0<m->∃sb,sS=some ⟨sb,0,none⟩/\m<=cS/\cS<=maxLen/\∀i,i<m->L.getD i []≠[]->∃g off cap,w.cell? ⟨sb,i,none⟩=some (.slice (some ⟨g,off,none⟩) (L.getD i []).length cap)/\(L.getD i []).length<=cap/\cap<=maxLen/\∀j,j<(L.getD i []).length->w.cell? ⟨g,off+j,none⟩=some (.int .i64 (((L.getD i []).getD j 0:Nat):Int))):=by
 obtain⟨X,hs,hn,sS,sN,cS,cN,u,c,hB,hE,hN,hM,h9,H0,hu,hl,H2,H1⟩:=h;refine⟨sS,cS,sN,cN,hB.box,fun h0=>?_⟩;have ho:=hB.own (r:=⟨B,34,.slice sS m cS,m,hs,1⟩) (by simp);simp only at ho;obtain⟨sb,rfl,h1,h2,ha⟩:=yG ho h0;refine⟨sb,rfl,h1,h2,fun i hi hne=>?_⟩;have h4:i<hs.length:=by omega
 have hr:=hE.2 i h4 (by omega);have h6:L.getD i []=L[i]'(by omega):=zG (by omega)
 have h3:0<(nats (L[i]'(by omega))).length:=by
  rw[zW,<-h6];exact List.length_pos_iff.2 hne
 rw[h6];obtain⟨g,off,cap,e,H3,h5,h8,h7⟩:=hr.1.row.some_ h3;rw[zW]at e h5;refine⟨g,off,cap,?_,h5,h8,fun j hj=>h7.nat j hj⟩;rw[ha.cell i h4,e]
theorem RPr.addRow (h:RPr w0 B o mb np pv L T m q tl w)(hg:w.grownBy w' none){e sz n:Nat}{v:Value}{xs:List Value}(ho:w'.ownsRow w.heap.size e sz v n xs)(he:e≠88):RPr w0 B o mb np pv L T m q (tl++[⟨B,e,v,n,xs,sz⟩]) w':=by
 obtain⟨X,hs,hn,sS,sN,cS,cN,u,c,hB,hE,hN,hM,h1,h2,hu,hl,h4,h3⟩:=h;have h0:=hB.mem.keep hg;exact⟨X,hs,hn,sS,sN,cS,cN,u,c,(hB.add hg ho he).rebase,hE.kept h0 hg.size,hN.kept h0 hg.size,hM.kept hg (by simp),h1,h2,hu,hl,h4,h3⟩
theorem RPr.own (h:RPr w0 B o mb np pv L T m q tl w){r:RowS}(hr:r∈tl):w.ownsRow r.base r.e r.sz r.v r.n r.xs:=by
 obtain⟨X,hs,hn,sS,sN,cS,cN,u,c,hB,hE,hN,hM,h0,h1,hu,hl,h3,h2⟩:=h;exact hB.own (List.mem_cons_of_mem _ (List.mem_cons_of_mem _ hr))
theorem RPr.app (h:RPr w0 B o mb np pv L T m q tl w){j:Nat}{r:RowS}(hr:tl[j]?=some r){v':Value}{n':Nat}{us:List Value}(ho:w'.ownsRow r.base r.e r.sz v' n' (r.xs++us))(hg:w.grownBy w' r.v.ownBlock)(hm:qS w w' r.v v'):RPr w0 B o mb np pv L T m q (tl.set j ⟨r.base,r.e,v',n',r.xs++us,r.sz⟩) w':=by
 obtain⟨X,hs,hn,sS,sN,cS,cN,u,c,hB,hE,hN,hM,h3,h4,hu,hl,h6,h5⟩:=h;have h0:=List.mem_of_getElem? hr;have h1:r.v.ownBlock≠some mb:=yL (es:=#[]) (clock:=0) (hB.own (List.mem_cons_of_mem _ (List.mem_cons_of_mem _ h0))) hM.obj;have h2:=hB.appAt (j:=j+2) hr ho hg hm;exact⟨X,hs,hn,sS,sN,cS,cN,u,c,h2.rebase,hE.kept h2.kept h2.wk,hN.kept h2.kept h2.wk,hM.kept hg h1,h3,h4,hu,hl,h6,h5⟩
theorem RPr.off (h:RPr w0 B o mb np pv L T m q tl w):o≠mb:=by
 obtain⟨X,hs,hn,sS,sN,cS,cN,u,c,hB,hE,hN,hM,h0,h1,hu,hl,h3,h2⟩:=h;intro e;obtain⟨es,clock,hb⟩:=hM.obj;have:=hB.box;rw[e,hb]at this;simp at this
theorem RPr.pushS {r:RowS}{v:Value}{xs:List Nat}{n u c:Nat}(h:RPr w0 B o mb np pv L T m q (r::⟨B,3,v,n,nats xs,1⟩::[]) w)(hg:w.grownBy w1 (some mb))(hM1:MapK 9 (qM np) KR w1 mb u c (numE (L++[xs])))(hu1:u<=2*m+1):∃hs sS cS,w1.ownsRow B 34 1 (.slice sS m cS) m hs/\w1.cell? ⟨o,1,none⟩=some (.slice sS m cS)/\B<=w1.heap.size/\∀w2 s' c',w2.ownsRow B 34 1 (.slice s' (m+1) c') (m+1) (hs++[v])->w1.grownBy w2 (Value.slice sS m cS).ownBlock->qS w1 w2 (.slice sS m cS) (.slice s' (m+1) c')->w2.cell? ⟨o,1,none⟩=some (.slice sS m cS)/\w2.frozen? ⟨o,1,none⟩=false/\RPr w0 B o mb np pv (L++[xs]) T (m+1) q (r::[]) (w2.setCell ⟨o,1,none⟩ (.slice s' (m+1) c')):=by
 have h2:=h.off;obtain⟨X,hs,hn,sS,sN,cS,cN,u0,c0,hB,hE,hN,hM,h5,h6,hu,hl,h7,H3⟩:=h;have h0:=hB.far hg (fun r hr=>yL (es:=#[]) (clock:=0) (hB.mem.own r hr) hM.obj) h5 h2 h6;have H1:=h0.rebase;have H8:=hE.kept h0.kept h0.wk;have H6:=hN.kept h0.kept h0.wk;have h1:=H1.own (r:=⟨B,3,v,n,nats xs,1⟩) (by simp);have H2:v.ownBlock≠some mb:=yL (es:=#[]) (clock:=0) h1 hM1.obj
 have h3:∀j,(X j\/v.ownBlock=some j)->B<=j:=fun j hj=>by
  rcases hj with hj|hj
  ·exact H3 j hj
  ·exact(h1.lt j hj).1
 have hR:=BoxS.retire (rs:=(⟨B,34,.slice sS m cS,m,hs,1⟩::⟨B,34,.slice sN q cN,q,hn,1⟩::r::[])) (r:=⟨B,3,v,n,nats xs,1⟩) H1;have h8:=zI hR.box 1 (by simp);simp only[List.getElem_toArray,List.getElem_cons_zero,List.getElem_cons_succ]at h8;have H5:RowX (fun j=>X j\/v.ownBlock=some j) 3 w1 v (nats xs):=RowX.of_owns h1 (fun j hj=>.inr hj);have h4:=hR.own (r:=⟨B,34,.slice sS m cS,m,hs,1⟩) (by simp);have H4:(Value.slice sS m cS).ownBlock≠some mb:=yL (es:=#[]) (clock:=0) h4 hM1.obj;refine⟨hs,sS,cS,h4,h8,Nat.le_trans hR.base hR.wk,fun w2 s' c' hown hg2 hmv=>?_⟩;have hA:=hR.appAt (j:=0) rfl hown hg2 hmv;have h9:=zI hA.box 1 (by simp);simp only[List.getElem_toArray,List.getElem_cons_zero,List.getElem_cons_succ]at h9;have hZ:=hA.set 1 (.slice s' (m+1) c');have H0:=fun j hj=>hZ.kept j hj;have H7:=(hM1.kept hg2 H4).kept (zC w2 ⟨o,1,none⟩ (.slice s' (m+1) c')) (fun e=>h2 (Oj e));refine⟨h9,zE hA.box 1,⟨_,hs++[v],hn,s',sN,c',cN,u,c,hZ.rebase,((H8.mono (fun j hj=>.inl hj)).snoc H5).kept H0 hZ.wk,(H6.mono (fun j hj=>.inl hj)).kept H0 hZ.wk,H7,fun e=>?_,h6,by omega,⟨by rw[List.length_append,hl.1];rfl,hl.2⟩,⟨by rw[List.length_append,h7.1];rfl,h7.2⟩,h3⟩⟩;rcases e with e|e
 ·exact h5 e
 ·exact H2 e
theorem RPr.pushN {v:Value}{xs:List Nat}{n:Nat}(h:RPr w0 B o mb np pv L T m q (⟨B,3,v,n,nats xs,1⟩::[]) w):∃hs sN cN,w.ownsRow B 34 1 (.slice sN q cN) q hs/\w.cell? ⟨o,2,none⟩=some (.slice sN q cN)/\B<=w.heap.size/\∀w2 s' c',w2.ownsRow B 34 1 (.slice s' (q+1) c') (q+1) (hs++[v])->w.grownBy w2 (Value.slice sN q cN).ownBlock->qS w w2 (.slice sN q cN) (.slice s' (q+1) c')->w2.cell? ⟨o,2,none⟩=some (.slice sN q cN)/\w2.frozen? ⟨o,2,none⟩=false/\RPr w0 B o mb np pv L (T++[xs]) m (q+1) [] (w2.setCell ⟨o,2,none⟩ (.slice s' (q+1) c')):=by
 have h1:=h.off;obtain⟨X,hs,hn,sS,sN,cS,cN,u,c,hB,hE,hN,hM,h9,H0,hu,hl,h4,H1⟩:=h;have h0:=hB.own (r:=⟨B,3,v,n,nats xs,1⟩) (by simp);have h8:v.ownBlock≠some mb:=yL (es:=#[]) (clock:=0) h0 hM.obj
 have h2:∀j,(X j\/v.ownBlock=some j)->B<=j:=fun j hj=>by
  rcases hj with hj|hj
  ·exact H1 j hj
  ·exact(h0.lt j hj).1
 have hR:=BoxS.retire (rs:=(⟨B,34,.slice sS m cS,m,hs,1⟩::⟨B,34,.slice sN q cN,q,hn,1⟩::[])) (r:=⟨B,3,v,n,nats xs,1⟩) hB;have h5:=zI hR.box 2 (by simp);simp only[List.getElem_toArray,List.getElem_cons_zero,List.getElem_cons_succ]at h5;have H2:RowX (fun j=>X j\/v.ownBlock=some j) 3 w v (nats xs):=RowX.of_owns h0 (fun j hj=>.inr hj);have h3:=hR.own (r:=⟨B,34,.slice sN q cN,q,hn,1⟩) (by simp);have H3:(Value.slice sN q cN).ownBlock≠some mb:=yL (es:=#[]) (clock:=0) h3 hM.obj;refine⟨hn,sN,cN,h3,h5,Nat.le_trans hR.base hR.wk,fun w2 s' c' hown hg2 hmv=>?_⟩;have hA:=hR.appAt (j:=1) rfl hown hg2 hmv;have h6:=zI hA.box 2 (by simp);simp only[List.getElem_toArray,List.getElem_cons_zero,List.getElem_cons_succ]at h6;have hZ:=hA.set 2 (.slice s' (q+1) c');have h7:=fun j hj=>hZ.kept j hj;have H4:=(hM.kept hg2 H3).kept (zC w2 ⟨o,2,none⟩ (.slice s' (q+1) c')) (fun e=>h1 (Oj e));refine⟨h6,zE hA.box 2,⟨_,hs,hn++[v],sS,s',cS,c',u,c,hZ.rebase,(hE.mono (fun j hj=>.inl hj)).kept h7 hZ.wk,((hN.mono (fun j hj=>.inl hj)).snoc H2).kept h7 hZ.wk,H4,fun e=>?_,H0,hu,⟨hl.1,by rw[List.length_append,hl.2];rfl⟩,⟨h4.1,by rw[List.length_append,h4.2];rfl⟩,h2⟩⟩;rcases e with e|e
 ·exact h9 e
 ·exact h8 e
theorem RPr.drop {r:RowS}(h:RPr w0 B o mb np pv L T m q (tl++[r]) w):RPr w0 B o mb np pv L T m q tl w:=by
 obtain⟨X,hs,hn,sS,sN,cS,cN,u,c,hB,hE,hN,hM,h3,h4,hu,hl,h6,h5⟩:=h;have h0:=hB.own (r:=r) (by simp);have h2:r.v.ownBlock≠some mb:=yL (es:=#[]) (clock:=0) h0 hM.obj
 have h1:∀j,(X j\/r.v.ownBlock=some j)->B<=j:=fun j hj=>by
  rcases hj with hj|hj
  ·exact h5 j hj
  ·rw[<-(hB.typ r (by simp)).1];exact(h0.lt j hj).1
 have hR:=BoxS.retire (rs:=(⟨B,34,.slice sS m cS,m,hs,1⟩::⟨B,34,.slice sN q cN,q,hn,1⟩::tl)) (r:=r) hB;refine⟨_,hs,hn,sS,sN,cS,cN,u,c,hR,hE.mono (fun j hj=>.inl hj),hN.mono (fun j hj=>.inl hj),hM,fun e=>?_,h4,hu,hl,h6,h1⟩;rcases e with e|e
 ·exact h3 e
 ·exact h2 e
def dW (B:Nat)(w:World)(v pv:Value)(L T:List (List Nat)):Prop:=∃sS sN cS cN hs hn,v=.agg #[pv,.slice sS L.length cS,.slice sN T.length cN]/\w.ownsRow B 34 1 (.slice sS L.length cS) L.length hs/\w.ownsRow B 34 1 (.slice sN T.length cN) T.length hn/\wK w.heap.size 3 nats w hs L/\wK w.heap.size 3 nats w hn T
theorem RPr.val (h:RPr w0 B o mb np pv L T m q tl w):∃sS sN cS cN,w.heap[o]?=some (.cells #[pv,.slice sS L.length cS,.slice sN T.length cN] 88 (0,0))/\∀w2 row,w.grownBy w2 row->(∀j,row=some j->j<B)->dW B w2 (.agg #[pv,.slice sS L.length cS,.slice sN T.length cN]) pv L T:=by
 obtain⟨X,hs,hn,sS,sN,cS,cN,u,c,hB,hE,hN,hM,h1,h2,hu,⟨rfl,rfl⟩,h3,h0⟩:=h;refine⟨sS,sN,cS,cN,hB.box,fun w2 row hg hr=>?_⟩;have hk:uN X w w2:=uN.of_grown hB.mem.lt hg (fun j e hx=>by have:=hr j e;have:=h0 j hx;omega);exact⟨sS,sN,cS,cN,hs,hn,rfl,zY (hB.own (r:=⟨B,34,.slice sS L.length cS,L.length,hs,1⟩) (by simp)) hg hr,zY (hB.own (r:=⟨B,34,.slice sN T.length cN,T.length,hn,1⟩) (by simp)) hg hr,(hE.kept hk hg.size).rowsT,(hN.kept hk hg.size).rowsT⟩
end
theorem rbox_start {w0 wa:World}{o np:Nat}{pv:Value}{s:Option Addr}{c:Nat}{x0:List Nat}(hg:w0.grownBy wa none)(hown:wa.ownsRow w0.heap.size 3 1 (.slice s np c) np (nats x0))(hb:wa.heap[o]?=some (.cells #[pv,.slice none 0 0,.slice none 0 0] 88 (0,0)))(ho:w0.heap.size<=o){w2:World}(hw2:w2=(wa.alloc (.cells #[.slice s np c] 34)).setCell ⟨o,1,none⟩ (.slice (some ⟨wa.heap.size,0,none⟩) 1 1)):∃X,BoxS w0.heap.size X o 88 w0 w2 (⟨w0.heap.size,34,.slice (some ⟨wa.heap.size,0,none⟩) 1 1,1,[.slice s np c],1⟩::⟨w0.heap.size,34,.slice none 0 0,0,[],1⟩::[]) #[pv,.slice (some ⟨wa.heap.size,0,none⟩) 1 1,.slice none 0 0] w2/\uP X 3 nats w2 [.slice s np c] [x0]/\(∀j,X j->w0.heap.size<=j/\j<w2.heap.size):=by
 obtain⟨w1,h1⟩:∃w1,w1=wa.alloc (.cells #[.slice s np c] 34):=⟨_,rfl⟩;rw[<-h1]at hw2;have g1:wa.grownBy w1 none:=by rw[h1];exact Ga _ _ _
 have h3:1<=maxLen:=by unfold maxLen;omega
 have o1:w1.ownsRow wa.heap.size 34 1 (.slice (some ⟨wa.heap.size,0,none⟩) 1 1) 1 [.slice s np c]:=by rw[h1];exact World.ownsRow_lit wa #[_] 1 (Nat.le_refl _) h3 rfl
 have d1:(34:Nat)≠88:=by decide
 have d2:(3:Nat)≠88:=by decide
 have h2:(Value.slice s np c).ownBlock≠some o:=zQ hown hb d2;have h0:=zY hown g1 (by simp);have m0:EMem (fun j=>(Value.slice s np c).ownBlock=some j) wa []:=⟨fun r hr=>by simp at hr,List.Pairwise.nil,fun r hr=>by simp at hr,fun k hk=>(hown.lt k hk).2⟩;have m1:=m0.add g1 (r:=⟨w0.heap.size,34,.slice (some ⟨wa.heap.size,0,none⟩) 1 1,1,[.slice s np c],1⟩) (yU (base':=w0.heap.size) o1 hg.size) (fun k hk=>(o1.lt k hk).1);have m2:=m1.add (zH w1 none) (r:=⟨w0.heap.size,34,.slice none 0 0,0,[],1⟩) (World.ownsRow_nil _ _ _ _) (fun k hk=>by simp[Value.ownBlock]at hk)
 have hB:BoxS w0.heap.size (fun j=>(Value.slice s np c).ownBlock=some j) o 88 w0 w1 (⟨w0.heap.size,34,.slice (some ⟨wa.heap.size,0,none⟩) 1 1,1,[.slice s np c],1⟩::⟨w0.heap.size,34,.slice none 0 0,0,[],1⟩::[]) #[pv,.slice none 0 0,.slice none 0 0] w1:=by
  refine⟨m2,fun r hr=>?_,zB hb g1 (by simp),h2,Nat.le_refl _,ho,Nat.le_trans hg.size g1.size,zA hg g1 (by simp),uN.refl _ _,Nat.le_refl _⟩;simp only[List.nil_append,List.cons_append,List.mem_cons,List.not_mem_nil,or_false]at hr;rcases hr with rfl|rfl
  ·exact⟨rfl,d1⟩
  ·exact⟨rfl,d1⟩
 have hS:=hB.set 1 (.slice (some ⟨wa.heap.size,0,none⟩) 1 1);rw[<-hw2]at hS;exact⟨_,hS.rebase,(uP.nil.snoc (RowX.of_owns h0 (fun k hk=>hk))).kept hS.kept hS.wk,fun j hj=>⟨(hown.lt j hj).1,hS.mem.lt j hj⟩⟩
theorem rpr_start {w0 w2 w8:World}{X:Nat->Prop}{o mb np u c:Nat}{pv:Value}{rs:Value}{sb:Nat}{x0:List Nat}(hB:BoxS w0.heap.size X o 88 w0 w2 (⟨w0.heap.size,34,.slice (some ⟨sb,0,none⟩) 1 1,1,[rs],1⟩::⟨w0.heap.size,34,.slice none 0 0,0,[],1⟩::[]) #[pv,.slice (some ⟨sb,0,none⟩) 1 1,.slice none 0 0] w2)(hE:uP X 3 nats w2 [rs] [x0])(hX:∀j,X j->w0.heap.size<=j/\j<w2.heap.size)(hmb:w2.heap.size<=mb)(hg:w2.grownBy w8 (some mb))(hM:MapK 9 (qM np) KR w8 mb u c (numE [x0]))(hu:u<=2):RPr w0 w0.heap.size o mb np pv [x0] [] 1 0 [] w8:=by
 have h1:=zK hB.box;have h0:¬X mb:=fun e=>by have:=(hX mb e).2;omega
 have h8:=hB.far hg (fun r hr e=>by have:=(hB.mem.own r hr).lt mb e;omega) h0 (by omega) (by have:=hB.grown.size;omega);exact⟨X,[rs],[],_,_,_,_,u,c,h8.rebase,hE.kept h8.kept h8.wk,uP.nil,hM,h0,by have:=hB.grown.size;omega,by omega,⟨rfl,rfl⟩,⟨rfl,rfl⟩,fun j hj=>(hX j hj).1⟩
def LRow (w:World)(sb i:Nat)(x:List Nat):Prop:=∃g off cap,w.cell? ⟨sb,i,none⟩=some (.slice (some ⟨g,off,none⟩) x.length cap)/\x.length<=cap/\cap<=maxLen/\∀j,j<x.length->w.cell? ⟨g,off+j,none⟩=some (.int .i64 ((x.getD j 0:Nat):Int))
theorem LRow.grow {w w':World}{sb i:Nat}{x:List Nat}(h:LRow w sb i x)(hg:w.grownBy w' none):LRow w' sb i x:=by
 obtain⟨g,off,cap,h1,h2,h3,h4⟩:=h;exact⟨g,off,cap,xK h1 hg,h2,h3,fun j hj=>xK (h4 j hj) hg⟩
structure ProdV (w:World)(o k:Nat)(pv:Value)(L:List (List Nat))(nxl fr bl:List Nat)(sb sc nb nc fb fc bb bc:Nat):Prop where
 box:w.heap[o]?=some (.cells #[.int .i64 (k:Int),pv,.slice (some ⟨sb,0,none⟩) L.length sc,.slice (some ⟨nb,0,none⟩) (L.length*k) nc,.slice (some ⟨fb,0,none⟩) L.length fc,.slice (some ⟨bb,0,none⟩) L.length bc] 111 (0,0))
 caps:L.length<=sc/\sc<=maxLen/\L.length*k<=nc/\nc<=maxLen/\L.length<=fc/\fc<=maxLen/\L.length<=bc/\bc<=maxLen
 row:∀i,i<L.length->L.getD i []≠[]->LRow w sb i (L.getD i [])
 nx:∀i,i<L.length*k->w.cell? ⟨nb,i,none⟩=some (.int .i64 ((nxl.getD i 0:Nat):Int))
 fr:∀i,i<L.length->w.cell? ⟨fb,i,none⟩=some (.int .i64 ((fr.getD i 0:Nat):Int))
 by_:∀i,i<L.length->w.cell? ⟨bb,i,none⟩=some (.int .i64 ((bl.getD i 0:Nat):Int))
 nlt:nb<w.heap.size
section
variable {w w':World} {o k:Nat} {pv:Value} {L:List (List Nat)} {nxl fr bl:List Nat} {sb sc nb nc fb fc bb bc:Nat}
theorem ProdV.grow (h:ProdV w o k pv L nxl fr bl sb sc nb nc fb fc bb bc)(hg:w.grownBy w' none):ProdV w' o k pv L nxl fr bl sb sc nb nc fb fc bb bc :=
 ⟨zB h.box hg (by simp),h.caps,fun i hi hn=>(h.row i hi hn).grow hg,fun i hi=>xK (h.nx i hi) hg,fun i hi=>xK (h.fr i hi) hg,fun i hi=>xK (h.by_ i hi) hg,Nat.lt_of_lt_of_le h.nlt hg.size⟩
theorem ProdV.cells (h:ProdV w o k pv L nxl fr bl sb sc nb nc fb fc bb bc):w.cell? ⟨o,0,none⟩=some (.int .i64 (k:Int))/\w.cell? ⟨o,1,none⟩=some pv/\w.cell? ⟨o,2,none⟩=some (.slice (some ⟨sb,0,none⟩) L.length sc)/\w.cell? ⟨o,3,none⟩=some (.slice (some ⟨nb,0,none⟩) (L.length*k) nc)/\w.cell? ⟨o,4,none⟩=some (.slice (some ⟨fb,0,none⟩) L.length fc)/\w.cell? ⟨o,5,none⟩=some (.slice (some ⟨bb,0,none⟩) L.length bc):=by
 have c0:=zI h.box 0 (by simp);have c1:=zI h.box 1 (by simp);have c2:=zI h.box 2 (by simp);have c3:=zI h.box 3 (by simp);have c4:=zI h.box 4 (by simp);have c5:=zI h.box 5 (by simp);simp only[List.getElem_toArray,List.getElem_cons_zero,List.getElem_cons_succ]at c0 c1 c2 c3 c4 c5;exact⟨c0,c1,c2,c3,c4,c5⟩
theorem ProdS.view {w0:World}{B mb np m q:Nat}(h:ProdS w0 B o mb k np pv L nxl fr bl m q [] w)(h0:0<m)(hq:q=m*k)(hk:0<k):∃sb sc nb nc fb fc bb bc,ProdV w o k pv L nxl fr bl sb sc nb nc fb fc bb bc:=by
 obtain⟨sS',cS',sN',cN',sF',cF',sB',cB',h6,h5⟩:=h.cells;obtain⟨X,hs,sS,sN,sF,sB,cS,cN,cF,cB,u,c,hB,hE,hM,h8,h9,hu,⟨rfl,H2,H1,H0⟩,H3⟩:=h;have h7:0<q:=by rw[hq];exact Nat.mul_pos h0 hk
 obtain⟨sb,e,h1,h2,h3⟩:=h5 h0;have h4:=hB.box;rw[h6]at h4;simp only[Option.some.injEq,Obj.cells.injEq,and_true]at h4;have h4:=congrArg Array.toList h4;simp only[List.cons.injEq,and_true,true_and,Value.slice.injEq]at h4;obtain⟨⟨rfl,rfl⟩,⟨rfl,rfl⟩,⟨rfl,rfl⟩,⟨rfl,rfl⟩⟩:=h4;subst e;obtain⟨nb,rfl,n1,n2,na⟩:=yG (hB.own (r:=⟨B,3,.slice sN' q cN',q,nats nxl,1⟩) (by simp)) h7;obtain⟨fb,rfl,f1,f2,fa⟩:=yG (hB.own (r:=⟨B,3,.slice sF' L.length cF',L.length,nats fr,1⟩) (by simp)) h0;obtain⟨bb,rfl,b1,b2,ba⟩:=yG (hB.own (r:=⟨B,3,.slice sB' L.length cB',L.length,nats bl,1⟩) (by simp)) h0;subst hq;exact⟨sb,cS',nb,cN',fb,cF',bb,cB',h6,⟨h1,h2,n1,n2,f1,f2,b1,b2⟩,fun i hi hne=>h3 i hi hne,fun i hi=>na.nat i (by omega),fun i hi=>fa.nat i (by omega),fun i hi=>ba.nat i (by omega),na.lt⟩
end
theorem paccepts_any (Bd:Nat)(w:World)(o k:Nat)(pv:Value)(ds:List DfaV)(L:List (List Nat))(nxl fr bl:List Nat)(sb sc nb nc fb fc bb bc s i:Nat)(h:ProdV w o k pv L nxl fr bl sb sc nb nc fb fc bb bc)(hd:DsIn Bd w pv ds)(hok:OkT ds k)(hs:s<L.length)(hi:i<ds.length)(hin:InT ds (L.getD s []))(hl:ds.length<=400)(hL:L.length<=4000):Calls Try.prog 69 #[.pointer (some ⟨o,0,none⟩),.int .i64 (s:Int),.int .i64 (i:Int)] w fun e w'=>e=.returned (.bool (accT ds (L.getD s []) i))/\w.grownBy w' none:=by
 obtain⟨b,off,cap,rfl,h9,h7,hd⟩:=hd.head (by omega);obtain⟨n,gb,go,gc,nb2,no2,nc2,RB,RO,RC,hv,h5,c1,c2,c3,c4,h2⟩:=hd.dfa hok hi;obtain⟨x0,x1,x2,x3,x4,x5⟩:=h.cells;have h4:L.getD s []≠[]:=fun e=>by have:=hin.1;rw[e]at this;simp at this;omega
 obtain⟨g,ro,rc,r1,r2,r3,r4⟩:=h.row s hs h4;have h1:=h.caps;rw[hin.1]at r1 r2 r4;have r5:=r4 i hi;have hq:=hin.2 i hi;rw[hv.hn]at hq;obtain⟨q,h0⟩:∃q,q=(L.getD s []).getD i 0:=⟨_,rfl⟩;have c5:=h2.fin (q:=q) (by rw[h0];exact hq);have h6:=h2.fcap;have hA:accT ds (L.getD s []) i=(ds.getD i dN).final.getD q false:=by rw[accT,h0]
 rw[hA];rw[<-h0]at r5 hq;obtain⟨np,h3⟩:∃n,n=ds.length:=⟨_,rfl⟩;obtain⟨m,hm⟩:∃m,m=L.length:=⟨_,rfl⟩;obtain⟨bo,h8⟩:∃x,x=(ds.getD i dN).final.getD q false:=⟨_,rfl⟩;rw[<-h3]at x1 r1 r2 hi h9 hl;rw[<-hm]at x2 x4 x5 hs hL h1;rw[<-h8]at c5⊢;have k1:cap<=9223372036854775807:=by unfold maxLen at h7;omega
 have k2:sc<=9223372036854775807:=by have:=h1.2.1;unfold maxLen at this;omega
 have k3:rc<=9223372036854775807:=by unfold maxLen at r3;omega
 have k4:gc<=9223372036854775807:=by have:=h6.2;unfold maxLen at this;omega
 have H0:(s:Int)<m:=by omega
 have H2:(i:Int)<np:=by omega
 have H1:(q:Int)<n:=by omega
 clear h hd hv h2 hA h0 h3 hm h8 r4 hin h4 x0 x3 x4 x5 c1 c2 c4 h1 h6 h7 r3 hok;go_enter Try.func69,Try.ntmps69;go_upto_region 1 with fail
 go_quiet (fail)
 go_wp2;go_ret
 first|exact⟨rfl,zM _ _ _⟩|exact⟨rfl,zO _ _⟩
structure PrV (w:World)(v pv:Value)(L T:List (List Nat))(sb sc:Nat)(nv:Value):Prop where
 val:v=.agg #[pv,.slice (some ⟨sb,0,none⟩) L.length sc,nv]
 cap:L.length<=sc/\sc<=maxLen
 row:∀i,i<L.length->L.getD i []≠[]->LRow w sb i (L.getD i [])
theorem PrV.grow {w w':World}{v pv nv:Value}{L T:List (List Nat)}{sb sc:Nat}(h:PrV w v pv L T sb sc nv)(hg:w.grownBy w' none):PrV w' v pv L T sb sc nv:=⟨h.val,h.cap,fun i hi hn=>(h.row i hi hn).grow hg⟩
theorem dW.view {B:Nat}{w:World}{v pv:Value}{L T:List (List Nat)}(h:dW B w v pv L T)(h0:0<L.length):∃sb sc nv,PrV w v pv L T sb sc nv:=by
 obtain⟨sS,sN,cS,cN,hs,hn,rfl,ho,_,hr,_⟩:=h;obtain⟨sb,rfl,h1,h2,ha⟩:=yG ho h0;refine⟨sb,cS,_,rfl,⟨h1,h2⟩,fun i hi hne=>?_⟩;have h4:i<hs.length:=by have:=hr.1;omega
 have h7:=hr.2 i h4 hi;have h6:L.getD i []=L[i]:=zG hi;rw[h6];have h3:0<(nats L[i]).length:=by rw[zW,<-h6];exact List.length_pos_iff.2 hne
 obtain⟨g,off,cap,e,H0,h5,h9,h8⟩:=h7.row.some_ h3;rw[zW]at e h5;exact⟨g,off,cap,by rw[ha.cell i h4,e],h5,h9,fun j hj=>h8.nat j hj⟩
theorem fP (Bd:Nat)(w:World)(k0:Nat)(v pv nv:Value)(ds:List DfaV)(L T:List (List Nat))(sb sc i:Nat)(hB:Bd<=w.heap.size)(h:PrV w v pv L T sb sc nv)(hd:DsIn Bd w pv ds)(hok:OkT ds k0)(hi:i<L.length)(hin:InT ds (L.getD i []))(hl:ds.length<=400)(hl0:0<ds.length)(hL:L.length<=4000):Calls Try.prog 53 #[v,.int .i64 (i:Int)] w fun e w'=>∃sa sc,e=.returned (.slice sa ds.length sc)/\w'.ownsRow w.heap.size 4 1 (.slice sa ds.length sc) ds.length (bls (mtsT ds ds.length (L.getD i [])))/\w.grownBy w' none:=by
 obtain⟨rfl,h4,h1⟩:=h;obtain⟨b,off,cap,rfl,d6,c0,b9⟩:=hd.head hl0;obtain⟨g,ro,rc,H8,b5,b4,H7⟩:=h1 i hi (fun e=>by have:=hin.1;rw[e]at this;simp at this;omega);rw[hin.1]at H8 b5 H7;obtain⟨np,a1⟩:∃n,n=ds.length:=⟨_,rfl⟩;obtain⟨m,hm⟩:∃m,m=L.length:=⟨_,rfl⟩;have H2:=Kh a1;have f0:=Kh b9;have e6:=Kh hok;have e7:=Kh hin;have c9:=Kh H7;have a7:=Kh H8;rw[<-a1]at d6 hl hl0 a7 b5⊢;rw[<-hm]at h4 hi hL⊢;have k1:cap<=9223372036854775807:=by unfold maxLen at c0;omega
 have k2:sc<=9223372036854775807:=by have:=h4.2;unfold maxLen at this;omega
 have k3:rc<=9223372036854775807:=by unfold maxLen at b4;omega
 obtain⟨wA,a5⟩:∃wA,wA=w.alloc (.cells #[.slice (some ⟨b,off,none⟩) np cap,.slice (some ⟨sb,0,none⟩) m sc,nv] 88):=⟨_,rfl⟩;have a3:=Ga w (.cells #[.slice (some ⟨b,off,none⟩) np cap,.slice (some ⟨sb,0,none⟩) m sc,nv] 88) none;have h8:=heap_alloc_new w (.cells #[.slice (some ⟨b,off,none⟩) np cap,.slice (some ⟨sb,0,none⟩) m sc,nv] 88);obtain⟨P,hP⟩:∃P,P=w.heap.size:=⟨_,rfl⟩;rw[<-a5]at a3 h8;rw[<-hP]at h8;obtain⟨p0,p1,p2⟩:=zN h8;have d8:=Kh a5;have e3:=Kh hP;have b0:=Kh a3;have d2:=Kh h8;clear a1 hm b9 hok hin H7 H8 a5 a3 h8 hP h1 h4 c0 b4 hd;go_enter Try.func53,Try.ntmps53;go_upto_region 1 with fail;rw[<-d8.out,<-e3.out];go_wp2;clear p0 p1 p2
 go_loopg [5,6,11] np (fun gh v5 v6 v11 wr=>∃(k:Nat) (sa:Option Addr) (sd:Nat),gh+k=np/\v11=.int .i64 k/\v5=.slice sa k sd/\wr.ownsRow wA.heap.size 4 1 (.slice sa k sd) k (bls (mtsT ds k (L.getD i [])))/\wA.grownBy wr none)
 case atStart=>exact⟨0,none,0,rfl,rfl,rfl,World.ownsRow_nil _ _ _ _,zH _ _⟩
 case round =>
  obtain⟨k,sa,sd,b7,rfl,rfl,h0,hg⟩:=hrel;have a9:=Kh b7;have HO:=Kh h0;have HG:=Kh hg;have H3:=Kh (zA b0.out hg (by simp));clear b7 h0;by_cases hk:k<np
  ·have d5:(k:Int)<np:=by omega
   obtain⟨n,gb,go,gc,nb2,no2,nc2,RB,RO,RC,hv,h5,c1,c2,c3,c4,H1⟩:=(f0.out.kept H3.out (by simp)).dfa e6.out (by rw[<-H2.out];exact hk);have hq:=e7.out.2 k (by rw[<-H2.out];exact hk);rw[hv.hn]at hq;have r5:=xK (c9.out k (by rw[<-H2.out];exact hk)) H3.out;have r1:=xK a7.out H3.out;obtain⟨q,H9⟩:∃q,q=(L.getD i []).getD k 0:=⟨_,rfl⟩;rw[<-H9]at hq r5;have c5:=H1.fin (q:=q) hq;have b8:=H1.fcap
   have c8:Hid (bls (mtsT ds (k+1) (L.getD i []))=bls (mtsT ds k (L.getD i []))++[.bool ((ds.getD k dN).final.getD q false)]):=Kh (by
    rw[mtsT,List.range_succ,List.map_append,List.map_singleton,accT,<-H9];simp[bls,mtsT])
   obtain⟨bo,c6⟩:∃x,x=(ds.getD k dN).final.getD q false:=⟨_,rfl⟩;rw[<-c6]at c5 c8;obtain⟨x0,b2⟩:∃x:Int,x=((st0 (ds.getD k dN):Nat):Int):=⟨_,rfl⟩;rw[<-b2]at c2;have k4:gc<=9223372036854775807:=by have:=b8.2;unfold maxLen at this;omega
   have f5:(q:Int)<n:=(by omega);have f6:(i:Int)<m:=(by omega);have H0:=heap_alloc_new wr (.cells #[.int .i64 (k0:Int),.int .i64 x0,.slice (some ⟨gb,go,none⟩) n gc,.slice (some ⟨nb2,no2,none⟩) n nc2] 42);have h3:=Ga wr (.cells #[.int .i64 (k0:Int),.int .i64 x0,.slice (some ⟨gb,go,none⟩) n gc,.slice (some ⟨nb2,no2,none⟩) n nc2] 42) none;obtain⟨wR,H5⟩:∃wR,wR=wr.alloc (.cells #[.int .i64 (k0:Int),.int .i64 x0,.slice (some ⟨gb,go,none⟩) n gc,.slice (some ⟨nb2,no2,none⟩) n nc2] 42):=⟨_,rfl⟩;obtain⟨R,hR⟩:∃R,R=wr.heap.size:=⟨_,rfl⟩;rw[<-H5]at H0 h3;rw[<-hR]at H0;have d7:=Kh H5;have e0:=Kh hR;have f2:=Kh H0;have d0:=Kh (zA HG.out h3 (by simp));have e4:=Kh (zP HO.out h3);have f3:=Kh (zB d2.out d0.out (by simp));have e9:Hid (gb<w.heap.size):=Kh (Nat.lt_of_lt_of_le H1.flt hB);have f1:=Kh (xK c5 h3);have e1:=Kh (xK r5 h3);have a6:=Kh (xK r1 h3);clear hv H1 H9 c6 b2 b8 H5 hR H0 h3 r5 r1 c5 hg;go_upto_region 5 with fail;rw[<-d7.out,<-e0.out];clear c1 c2 c3 c4;obtain⟨w5,H6⟩:∃w5,w5=wR.drew:=⟨_,rfl⟩;have h2:wR.grownBy w5 none:=(by rw[H6];exact zO wR none);have d9:=Kh H6;have d1:=Kh (zA d0.out h2 (by simp));have a8:=Kh (zP e4.out h2)
   have b1:Hid (∀(W:World) (row:Option Nat),w5.grownBy W row->(∀j,row=some j->(Value.slice sa k sd).ownBlock=some j)->W.cell? ⟨R,2,none⟩=some (.slice (some ⟨gb,go,none⟩) n gc)/\W.cell? ⟨P,1,none⟩=some (.slice (some ⟨sb,0,none⟩) m sc)/\W.cell? ⟨sb,i,none⟩=some (.slice (some ⟨g,ro,none⟩) np rc)/\W.cell? ⟨g,ro+k,none⟩=some (.int .i64 (q:Int))/\W.cell? ⟨gb,go+q,none⟩=some (.bool bo)):=Kh (fun W row hW h1=>by
    have b6:∀(p:Addr) (u:Value),w5.cell? p=some u->(∀j,(Value.slice sa k sd).ownBlock=some j->p.block≠j)->W.cell? p=some u:=fun p u hp hj=>by
     refine(World.cell?_of_block (hW.block p.block (World.block_lt_of_cell? w5 p hp) (fun e=>?_))).trans hp;exact hj p.block (h1 _ e.symm) rfl
    have hold:∀(p:Addr) (u:Value),w5.cell? p=some u->p.block<wA.heap.size->W.cell? p=some u:=fun p u hp hlt=>b6 p u hp (fun j hj e=>by have:=(a8.out.lt j hj).1;omega);have hz:w.heap.size<=wA.heap.size:=b0.out.size;have h7:=zB f2.out h2 (by simp);have a4:=zB f3.out h2 (by simp);have e2:=zI h7 2 (by simp);simp only[List.getElem_toArray,List.getElem_cons_zero,List.getElem_cons_succ]at e2;refine⟨b6 _ _ e2 (fun j hj e=>?_),hold _ _ (zN a4).2.1 ?_,?_,?_,?_⟩
    ·exact zQ a8.out h7 (by decide) (by rw[hj];exact congrArg some e.symm)
    ·exact zK d2.out
    ·exact hold _ _ (xK a6.out h2) (Nat.lt_of_lt_of_le (World.block_lt_of_cell? w _ a7.out) hz)
    ·exact hold _ _ (xK e1.out h2) (Nat.lt_of_lt_of_le (World.block_lt_of_cell? w _ (c9.out k (by rw[<-H2.out];exact hk))) hz)
    ·exact hold _ _ (xK f1.out h2) (Nat.lt_of_lt_of_le e9.out hz))
   have C5:=Kh (b1.out w5 none (zH _ _) (by simp));have f4:=d1.out.size;clear h2 H6;refine wp_region_noPanic ?_;refine yY (G:=uI 100 (fun W=>W.cell? ⟨R,2,none⟩=some (.slice (some ⟨gb,go,none⟩) n gc)/\W.cell? ⟨P,1,none⟩=some (.slice (some ⟨sb,0,none⟩) m sc)/\W.cell? ⟨sb,i,none⟩=some (.slice (some ⟨g,ro,none⟩) np rc)/\W.cell? ⟨g,ro+k,none⟩=some (.int .i64 (q:Int))/\W.cell? ⟨gb,go+q,none⟩=some (.bool bo)) (fun _=>True)) (by kernel_rfl) ?_;rw[<-d9.out];refine zV 0 ⟨C5.out,fun _=>trivial⟩ ?_;refine zV 1 ⟨C5.out,fun _=>trivial⟩ ?_;refine zV 2 ⟨C5.out,fun _=>trivial⟩ ?_;refine zV 3 ⟨C5.out,fun _=>trivial⟩ ?_;refine zV 4 ⟨C5.out,fun _=>trivial⟩ ?_;refine zV 5 ⟨C5.out,fun _=>trivial⟩ ?_;refine zV 6 ⟨C5.out,fun _=>trivial⟩ ?_;refine zV 7 ⟨C5.out,fun _=>trivial⟩ ?_;refine zV 8 ⟨C5.out,fun _=>trivial⟩ ?_;refine zV 9 ⟨C5.out,fun _=>trivial⟩ ?_;refine zV 10 ⟨C5.out,fun _=>trivial⟩ ?_;refine zV 11 ⟨C5.out,fun _=>trivial⟩ ?_;refine zV 12 ⟨C5.out,fun _=>trivial⟩ ?_;refine oneG (i:=13) (by kernel_rfl) rfl (fun K hK=>?_);go_simp;have h9:=heap_alloc_new w5 (.cells #[Value.bool bo] 4);have h6:=Ga w5 (.cells #[Value.bool bo] 4) none;have H4:=zL w5 (.cells #[Value.bool bo] 4);obtain⟨R6,c7⟩:∃R,R=w5.heap.size:=⟨_,rfl⟩;obtain⟨w6,b3⟩:∃w6,w6=w5.alloc (.cells #[Value.bool bo] 4):=⟨_,rfl⟩;rw[<-b3]at h9 h6 H4⊢;rw[<-c7]at h9⊢;refine hK.out _ _ ⟨b1.out w6 none h6 (by simp),fun _=>trivial⟩ ?_;clear hK K
   try simp only[Act.put,sPa,sPb,sPc]
   have a0:=zP a8.out h6;refine oneG (i:=14) (by kernel_rfl) rfl (fun K hK=>?_);refine tY rfl (.tmp 16) (.tmp 29) 39 rfl xJ.toN wA.heap.size (.slice sa k sd) k _ rfl a0 [.bool bo] R6 rfl (0,0) rfl h9 ?z1 ?z2 ?z3 ?z4 ?_
   case z1=>intro v hv;simp only[List.mem_cons,List.not_mem_nil,or_false]at hv;subst hv;rfl
   case z2=>unfold maxLen;omega
   case z3=>show (k+1)*1<=140737488355328;omega
   case z4=>rw[H4];omega
   intro sN cN wM h0 a2 d3;have e5:Hid (wM.ownsRow wA.heap.size 4 1 (.slice sN (k+1) cN) (k+1) (bls (mtsT ds (k+1) (L.getD i [])))):=Kh (by rw[c8.out];exact h0);have e8:=Kh (zA (zA d1.out h6 (by simp)) a2 (fun j e=>(a0.lt j e).1));have CM:=b1.out wM _ (xZ h6 a2 (.inl rfl) (.inr (.inl rfl))) (fun j e=>e);refine hK.out _ _ ⟨CM,fun _=>trivial⟩ ?_;clear hK K h0 a2 d3 a0 h9 h6 H4 b3 c7 C5
   try simp only[Act.put,sPa,sPb,sPc]
   refine oneG (i:=15) (by kernel_rfl) rfl (fun K hK=>?_);go_simp;refine hK.out _ _ ⟨CM,fun _=>trivial⟩ ?_;clear hK K
   try simp only[Act.put,sPa,sPb,sPc]
   refine rP (by kernel_rfl) ?_ _;refine NoPanic.normal ?_;go_wp2;go_roundg (np-(k+1))
   case measure=>have:=a9.out;omega
   case rel=>exact⟨k+1,sN,cN,by have:=a9.out;omega,by go_num,rfl,e5.out,e8.out⟩
  ·have d4:k=np:=by have:=a9.out;omega
   have d5:¬(k:Int)<np:=(by omega);subst d4;go_wp2;go_ret;refine⟨sa,sd,rfl,?_,H3.out⟩;exact yU HO.out b0.out.size
end Go.Proofs.Ytjfdomfendbhfaa
namespace Go.Proofs.Ytjfdomfendbhfaa
open Go.RowKit
theorem validRef_any (B:Nat)(w:World)(pv cv:Value)(root:Int)(cs:List ChoV)(i:Nat)(r:Int)(h:qP B w cv cs)(hi:i<cs.length):Calls Try.prog 37 #[.agg #[pv,cv,.int .i64 root],.int .i64 (i:Int),.int .i64 r] w fun e w'=>e=.returned (.bool (refB cs i (cs.getD i default).p r))/\w.grownBy w' none:=by
 obtain⟨b,off,cap,rfl,hb,hc,hm,h9⟩:=h.at_ (by omega);have H6:cap<=9223372036854775807:=by unfold maxLen at hm;omega
 obtain⟨n,hn⟩:∃n,n=cs.length:=⟨_,rfl⟩;have HN:=Kh hn;have h8:=hi;rw[<-hn]at hc hi⊢;have h4:=Ga w (.cells #[pv,.slice (some ⟨b,off,none⟩) n cap,.int .i64 root] 25) none;have h5:=heap_alloc_new w (.cells #[pv,.slice (some ⟨b,off,none⟩) n cap,.int .i64 root] 25);obtain⟨wA,h7⟩:∃w1,w1=w.alloc (.cells #[pv,.slice (some ⟨b,off,none⟩) n cap,.int .i64 root] 25):=⟨_,rfl⟩;obtain⟨P,hP⟩:∃P,P=w.heap.size:=⟨_,rfl⟩;rw[<-h7]at h4 h5;rw[<-hP]at h5;have h3:=h9.kept h4 (by simp);obtain⟨p0,p1,p2⟩:=zN h5;have c1:=h3.p i h8;have H2:=Kh h3;have H0:=Kh h7;have H1:=Kh hP;have h6:=Kh h4;obtain⟨x,hx⟩:∃x,x=(cs.getD i default).p:=⟨_,rfl⟩;have HX:=Kh hx;rw[<-hx]at c1;rw[<-hx];have H5:(i:Int)<n:=by omega
 have H4:(0:Int)<=i:=by omega
 clear h h9 h3 h4 h5 h7 hP hx hn h8;go_enter Try.func37,Try.ntmps37;go_upto_region 1 with fail;rw[<-H0.out,<-H1.out];by_cases h0:r<0
 ·have HR:Hid (refB cs i x r=false):=Kh (by simp[refB];omega)
  go_wp2;go_ret;exact⟨yA HR.out.symm,h6.out⟩
 by_cases h1:1+(i:Int)<r
 ·have HR:Hid (refB cs i x r=false):=Kh (by simp[refB];omega)
  go_wp2;go_ret;exact⟨yA HR.out.symm,h6.out⟩
 by_cases h2:r<2
 ·have HR:Hid (refB cs i x r=true):=Kh (by simp[refB];omega)
  have hd:decide (r<2)=true:=by simpa using h2
  go_wp2
  go_quiet (fail)
  go_wp2;go_ret;exact⟨yA (by rw[HR.out]),zA h6.out (by first|exact zO _ none|exact zM _ _ none) (by simp)⟩
 ·have hd:decide (r<2)=false:=by simpa using h2
  obtain⟨q,rfl⟩:∃q:Nat,r=(q:Int)+2:=⟨(r-2).toNat,by omega⟩;have c2:=H2.out.p q (by have:=HN.out;omega);have e2:IntKind.i64.wrap ((q:Int)+2-2)=(q:Int):=by rw[show (q:Int)+2-2=q by omega];exact tW (by unfold maxLen at hm;omega)
  have e3:(q:Int)+2-2=(q:Int):=by omega
  have hq:q<n:=by omega
  have H3:(q:Int)<n:=by omega
  obtain⟨y,hy⟩:∃y,y=(cs.getD q default).p:=⟨_,rfl⟩;rw[<-hy]at c2
  have HR:Hid (refB cs i x ((q:Int)+2)=decide (x<y)):=Kh (by
   have e:((q:Int)+2).toNat-2=q:=by omega
   simp only[refB,e,<-hy];rw[Bool.eq_iff_iff];simp only[Bool.and_eq_true,decide_eq_true_eq]
   omega)
  clear hy;go_wp2
  go_quiet (fail)
  go_wp2;go_ret;exact⟨yA (by rw[HR.out]),zA h6.out (by first|exact zO _ none|exact zM _ _ none) (by simp)⟩
end Go.Proofs.Ytjfdomfendbhfaa
