/- Part 9 of the proof. -/
import Derived.Test.YtjfdomfendbhfaaQg8
import Derived.StringKeys
set_option linter.unusedVariables false
set_option linter.unusedSimpArgs false
set_option maxRecDepth 100000
set_option maxHeartbeats 16000000
namespace Go.Proofs.Ytjfdomfendbhfaa
open Go.RowKit
def oneB (u:List Int):List (List Int):=[u]
def sufB (u:List Int):List (List Int):=[[],u]
def preB (u:List Int):List (List Int):=[u,[]]
def facB (u:List Int):List (List Int):=[[],u,[]]
theorem pW {letters k:Nat}(h:1<=letters):1<=(upTo letters (k+1)).length:=by
 rw[xK,List.length_append,vN];have:=Nat.one_le_pow k letters (by omega);omega
theorem mD {letters k:Nat}(h:1<=letters)(hk:1<=k):2<=(upTo letters (k+1)).length:=by
 obtain⟨k',rfl⟩:∃ k',k=k'+1:=⟨k - 1,by omega⟩;rw[xK,xK,List.length_append,List.length_append,vN,vN];have:=Nat.one_le_pow k' letters (by omega);have:=Nat.one_le_pow (k'+1) letters (by omega);omega
theorem wI {letters n:Nat}(hn:n<=9){u:List Int}(hu:u∈upTo letters n):u.length<=8:=by
 simp only[upTo,List.mem_flatMap,List.mem_range]at hu;obtain⟨m,hm,hu⟩:=hu;rw[(sM hu).1];omega
theorem yC {α β:Type}(f:α->β)(l:List α)(j:Nat)(h:j<l.length):(l.take (j+1)).map f=(l.take j).map f++[f l[j]]:=by
 rw[List.take_succ_eq_append_getElem h,List.map_append];rfl
theorem ends1_any (letters k:Nat)(w:World)(h1:1<=letters)(h6:letters<=6)(hk:k<=8):Calls Try.prog 94 #[.int .i64 1,.int .i64 letters,.int .i64 (k:Int)] w (sE w ([]++((upTo letters (k+1)).drop 0).map oneB)):=by
 obtain⟨wa,h4⟩:∃ wa,wa=upTo letters (k+1):=⟨_,rfl⟩;have a4:1<=wa.length:=by rw[h4];exact pW h1
 have a5:wa.length<=20000000:=by rw[h4];have:=xR letters h6 (k+1) (by omega);omega
 rw[<- h4];have h7:=Kh h4;have H1:=Kh (uI letters k w h1 h6 (by omega));rw[<- h4]at H1;clear h4;go_enter Try.func94,Try.ntmps94;go_wp2_with fail;refine H1.out.mono ?_;rintro e w1 ⟨sa,sc,rfl,h3,H0⟩;obtain⟨b,off,rfl,a6,H9⟩:=wS h3 (by omega);have H6:=Kh H0.size;clear H1;unfold maxLen at H9;go_wp2
 go_loopw [8,27] (fun v i wr=>∃ (sl:Option Addr) (c j:Nat) (svs:List Value),i=.int .i64 j/\j<=wa.length/\v=.slice sl j c /\
   PatsUp w1.heap.size wr v j svs ([]++((wa.drop 0).take j).map oneB)/\RowT w1.heap.size 9 wr (.slice (some ⟨b,off,none⟩) wa.length sc) (strs wa)/\w.grownBy wr none/\w1.heap.size<=wr.heap.size)
  (fun _ i _=>wa.length - (intOf i).toNat)
 case atStart=>exact⟨_,_,0,_,rfl,Nat.zero_le _,rfl,by simpa using PatsUp.nil _ _,h3,H0,Nat.le_refl _⟩
 case round =>
  clear h3 H0;obtain⟨sl,c,j,svs,rfl,hj,rfl,H2,hT,hg,hs⟩:=hrel;have h5:=Kh H2;clear H2;by_cases hlt:j<wa.length
  ·have H7:(j:Int)<((wa.length:Nat):Int):=by omega
   have h2:wr.cell? ⟨b,off+j,none⟩=some (.string (strOfNums wa[j])):=by
    have:=xJ hT (i:=j) (by omega);exact this
   have hu:=wI (letters:=letters) (n:=k+1) (by omega) (u:=wa[j]) (by rw[<- h7.out];exact List.getElem_mem (by omega));obtain⟨u,h9⟩:∃ u,u=wa[j]:=⟨_,rfl⟩;have HU:=Kh h9;rw[<- h9]at hu h2;clear h9;have H4:=h5.out.own.alloc (.cells #[.string (strOfNums u)] 9);go_wp2_with (at_builtin;refine app1 rfl (.tmp 31) (.tmp 35) _ rfl xZ w1.heap.size _ j svs rfl H4 _ (by rw[zJ];rfl) rfl ?c1 ?c2 ?c3 ?_)
   case c1=>unfold maxLen;omega
   case c2=>omega
   case c3=>rw[zJ];have:=hg.size;have:=H6.out;omega
   intro sl' c' w3 h0 H5 _;obtain⟨H3,h8⟩:=h5.out.push (us:=oneB u) (cs:=#[.string (strOfNums u)]) (q:=1) rfl rfl (by unfold maxLen;omega) h0 H5;have a0:=fun q (e:(Value.slice sl j c).ownBlock=some q)=>(h5.out.own.lt q e).1;have a1:=hT.kept h8 (fun q e=>.inr (zS h5.out.own (by decide) q e));have H8:=zA hg h8 (fun q e=>by have:=a0 q e;have:=H6.out;omega);have a3:=h8.size;have a2:=Kh H3;clear h0 H5 H4 h2 h8 H3 hT;go_wp2;go_roundw
   case rel =>
    refine⟨sl',c',j+1,svs++[Value.slice (some ⟨wr.heap.size,0,none⟩) 1 1],by go_num,by omega,rfl,?_,a1,H8,by omega⟩
    have e7:[]++((wa.drop 0).take (j+1)).map oneB=([]++((wa.drop 0).take j).map oneB)++[oneB u]:=by
     have e9:(wa.drop 0)[j]'(by rw[List.length_drop];omega)=u:=by rw[HU.out];simp
     rw[yC oneB _ j (by rw[List.length_drop];omega),e9];simp only[List.append_assoc]
    rw[e7];exact a2.out
   case measure=>simp[intOf];omega
  ·obtain rfl:j=wa.length:=by omega
   have e8:[]++((wa.drop 0).take (wa.length)).map oneB=[]++(wa.drop 0).map oneB:=by rw[List.take_of_length_le (by rw[List.length_drop];omega)]
   rw[e8]at h5;clear e8 hlt;go_wp2;go_ret;exact h5.out.listed hg (by simp<;>omega)
theorem ends2_any (letters k kk:Nat)(w:World)(h1:1<=letters)(h6:letters<=6)(hk:k<=7)(hkk:kk=k+1):Calls Try.prog 94 #[.int .i64 2,.int .i64 letters,.int .i64 (kk:Int)] w (sE w (([]++((upTo letters (k+1)).drop 0).map oneB)++((upTo letters (kk+1)).drop 1).map preB)):=by
 obtain⟨wa,H0⟩:∃ wa,wa=upTo letters (k+1):=⟨_,rfl⟩;have b7:1<=wa.length:=by rw[H0];exact pW h1
 have b9:wa.length<=20000000:=by rw[H0];have:=xR letters h6 (k+1) (by omega);omega
 rw[<- H0];have H8:=Kh H0;have a8:=Kh (uI letters k w h1 h6 (by omega));rw[<- H0]at a8;clear H0;obtain⟨wb,h9⟩:∃ wb,wb=upTo letters (kk+1):=⟨_,rfl⟩;have b6:2<=wb.length:=by rw[h9];exact mD h1 (by omega)
 have b8:wb.length<=20000000:=by rw[h9];have:=xR letters h6 (kk+1) (by omega);omega
 rw[<- h9];have H7:=Kh h9;have b5:Hid (∀ W,Calls Try.prog 117 #[.int .i64 letters,.int .i64 (kk:Int)] W (eZ W wb)):=Kh (fun W=>by rw[h9];exact uI letters kk W h1 h6 (by omega));clear h9;have c0:(kk:Int) - 1=(k:Int):=by omega
 have b1:kk<=8:=by omega
 clear hkk;go_enter Try.func94,Try.ntmps94;go_wp2_with fail;refine a8.out.mono ?_;rintro e w1 ⟨sa,sc,rfl,h8,a4⟩;obtain⟨b,off,rfl,c6,b4⟩:=wS h8 (by omega);have a1:=Kh a4.size;clear a8;unfold maxLen at b4;go_wp2
 go_loopw [8,27] (fun v i wr=>∃ (sl:Option Addr) (c j:Nat) (svs:List Value),i=.int .i64 j/\j<=wa.length/\v=.slice sl j c /\
   PatsUp w1.heap.size wr v j svs ([]++((wa.drop 0).take j).map oneB)/\RowT w1.heap.size 9 wr (.slice (some ⟨b,off,none⟩) wa.length sc) (strs wa)/\w.grownBy wr none/\w1.heap.size<=wr.heap.size)
  (fun _ i _=>wa.length - (intOf i).toNat)
 case atStart=>exact⟨_,_,0,_,rfl,Nat.zero_le _,rfl,by simpa using PatsUp.nil _ _,h8,a4,Nat.le_refl _⟩
 case round =>
  clear h8 a4;obtain⟨sl,c,j,svs,rfl,hj,rfl,H2,hT,hg,hs⟩:=hrel;have h3:=Kh H2;clear H2;by_cases hlt:j<wa.length
  ·have a2:(j:Int)<((wa.length:Nat):Int):=by omega
   have h2:wr.cell? ⟨b,off+j,none⟩=some (.string (strOfNums wa[j])):=by
    have:=xJ hT (i:=j) (by omega);exact this
   have hu:=wI (letters:=letters) (n:=k+1) (by omega) (u:=wa[j]) (by rw[<- H8.out];exact List.getElem_mem (by omega));obtain⟨u,h7⟩:∃ u,u=wa[j]:=⟨_,rfl⟩;have HU:=Kh h7;rw[<- h7]at hu h2;clear h7;have H4:=h3.out.own.alloc (.cells #[.string (strOfNums u)] 9);go_wp2_with (at_builtin;refine app1 rfl (.tmp 31) (.tmp 35) _ rfl xZ w1.heap.size _ j svs rfl H4 _ (by rw[zJ];rfl) rfl ?c1 ?c2 ?c3 ?_)
   case c1=>unfold maxLen;omega
   case c2=>omega
   case c3=>rw[zJ];have:=hg.size;have:=a1.out;omega
   intro sl' c' w3 h0 H6 _;obtain⟨H3,h5⟩:=h3.out.push (us:=oneB u) (cs:=#[.string (strOfNums u)]) (q:=1) rfl rfl (by unfold maxLen;omega) h0 H6;have a5:=fun q (e:(Value.slice sl j c).ownBlock=some q)=>(h3.out.own.lt q e).1;have a6:=hT.kept h5 (fun q e=>.inr (zS h3.out.own (by decide) q e));have a3:=zA hg h5 (fun q e=>by have:=a5 q e;have:=a1.out;omega);have b0:=h5.size;have a7:=Kh H3;clear h0 H6 H4 h2 h5 H3 hT;go_wp2;go_roundw
   case rel =>
    refine⟨sl',c',j+1,svs++[Value.slice (some ⟨wr.heap.size,0,none⟩) 1 1],by go_num,by omega,rfl,?_,a6,a3,by omega⟩
    have e7:[]++((wa.drop 0).take (j+1)).map oneB=([]++((wa.drop 0).take j).map oneB)++[oneB u]:=by
     have e9:(wa.drop 0)[j]'(by rw[List.length_drop];omega)=u:=by rw[HU.out];simp
     rw[yC oneB _ j (by rw[List.length_drop];omega),e9];simp only[List.append_assoc]
    rw[e7];exact a7.out
   case measure=>simp[intOf];omega
  ·obtain rfl:j=wa.length:=by omega
   have e8:[]++((wa.drop 0).take (wa.length)).map oneB=[]++(wa.drop 0).map oneB:=by rw[List.take_of_length_le (by rw[List.length_drop];omega)]
   rw[e8]at h3;clear e8 hlt;go_wp2_with fail;refine(b5.out _).mono ?_;rintro e w2 ⟨sa2,sc2,rfl,h4,a0⟩;have H1:=h3.out.kept a0 (by simp);have H5:=zA hg a0 (by simp);obtain⟨b2,off2,rfl,c5,b3⟩:=wS h4 (by omega);have c4:(1:Int)<sc2:=(by omega);have a9:w1.heap.size<=w2.heap.size:=Nat.le_trans hs a0.size;unfold maxLen at b3;clear hT hg a0 h3 hs;have H9:=Kh H1;clear H1;go_wp2
   go_loopw [8,64] (fun v i wr=>∃ (sl:Option Addr) (c j:Nat) (svs:List Value),i=.int .i64 j/\j<=wb.length - 1/\v=.slice sl ((wa.length)+j) c /\
     PatsUp w1.heap.size wr v ((wa.length)+j) svs (([]++(wa.drop 0).map oneB)++((wb.drop 1).take j).map preB)/\RowT w2.heap.size 9 wr (.slice (some ⟨b2,off2,none⟩) wb.length sc2) (strs wb)/\w.grownBy wr none/\w2.heap.size<=wr.heap.size)
    (fun _ i _=>wb.length - 1 - (intOf i).toNat)
   case atStart=>exact⟨_,_,0,_,rfl,Nat.zero_le _,rfl,by simpa using H9.out,h4,H5,Nat.le_refl _⟩
   case round =>
    clear h4 H5 H9;obtain⟨sl,c,j,svs,rfl,hj,rfl,H2,hT,hg,hs⟩:=hrel;have h3:=Kh H2;clear H2;by_cases hlt:j<wb.length - 1
    ·have a2:(j:Int)<((wb.length - 1:Nat):Int):=by omega
     have h2:wr.cell? ⟨b2,off2+1+j,none⟩=some (.string (strOfNums wb[1+j])):=by
      have:=xJ hT (i:=1+j) (by omega)
      rwa [<- Nat.add_assoc]at this
     have hu:=wI (letters:=letters) (n:=kk+1) (by omega) (u:=wb[1+j]) (by rw[<- H7.out];exact List.getElem_mem (by omega));obtain⟨u,h7⟩:∃ u,u=wb[1+j]:=⟨_,rfl⟩;have HU:=Kh h7;rw[<- h7]at hu h2;clear h7;have H4:=h3.out.own.alloc (.cells #[.string (strOfNums u),.string ⟨#[]⟩] 9);go_wp2_with (at_builtin;refine app1 rfl (.tmp 68) (.tmp 72) _ rfl xZ w1.heap.size _ ((wa.length)+j) svs rfl H4 _ (by rw[zJ];rfl) rfl ?c1 ?c2 ?c3 ?_)
     case c1=>unfold maxLen;omega
     case c2=>omega
     case c3=>rw[zJ];have:=hg.size;have:=a1.out;omega
     intro sl' c' w3 h0 H6 _;obtain⟨H3,h5⟩:=h3.out.push (us:=preB u) (cs:=#[.string (strOfNums u),.string ⟨#[]⟩]) (q:=2) rfl rfl (by unfold maxLen;omega) h0 H6;have a5:=fun q (e:(Value.slice sl ((wa.length)+j) c).ownBlock=some q)=>(h3.out.own.lt q e).1;have a6:=hT.kept h5 (fun q e=>.inr (zS h3.out.own (by decide) q e));have a3:=zA hg h5 (fun q e=>by have:=a5 q e;have:=a1.out;omega);have b0:=h5.size;have a7:=Kh H3;clear h0 H6 H4 h2 h5 H3 hT;go_wp2;go_roundw
     case rel =>
      refine⟨sl',c',j+1,svs++[Value.slice (some ⟨wr.heap.size,0,none⟩) 2 2],by go_num,by omega,rfl,?_,a6,a3,by omega⟩
      have e7:([]++(wa.drop 0).map oneB)++((wb.drop 1).take (j+1)).map preB=(([]++(wa.drop 0).map oneB)++((wb.drop 1).take j).map preB)++[preB u]:=by
       have e9:(wb.drop 1)[j]'(by rw[List.length_drop];omega)=u:=by rw[HU.out];simp[Nat.add_comm]
       rw[yC preB _ j (by rw[List.length_drop];omega),e9];simp only[List.append_assoc]
      rw[e7];exact a7.out
     case measure=>simp[intOf];omega
    ·obtain rfl:j=wb.length - 1:=by omega
     have e8:([]++(wa.drop 0).map oneB)++((wb.drop 1).take (wb.length - 1)).map preB=([]++(wa.drop 0).map oneB)++(wb.drop 1).map preB:=by rw[List.take_of_length_le (by rw[List.length_drop];omega)]
     rw[e8]at h3;clear e8 hlt;go_wp2;go_ret;exact h3.out.listed hg (by simp<;>omega)
theorem ends3_any (letters k kk:Nat)(w:World)(h1:1<=letters)(h6:letters<=6)(hk:k<=7)(hkk:kk=k+1):Calls Try.prog 94 #[.int .i64 3,.int .i64 letters,.int .i64 (kk:Int)] w (sE w (([]++((upTo letters (k+1)).drop 0).map oneB)++((upTo letters (kk+1)).drop 1).map sufB)):=by
 obtain⟨wa,H0⟩:∃ wa,wa=upTo letters (k+1):=⟨_,rfl⟩;have b7:1<=wa.length:=by rw[H0];exact pW h1
 have b9:wa.length<=20000000:=by rw[H0];have:=xR letters h6 (k+1) (by omega);omega
 rw[<- H0];have H8:=Kh H0;have a8:=Kh (uI letters k w h1 h6 (by omega));rw[<- H0]at a8;clear H0;obtain⟨wb,h9⟩:∃ wb,wb=upTo letters (kk+1):=⟨_,rfl⟩;have b6:2<=wb.length:=by rw[h9];exact mD h1 (by omega)
 have b8:wb.length<=20000000:=by rw[h9];have:=xR letters h6 (kk+1) (by omega);omega
 rw[<- h9];have H7:=Kh h9;have b5:Hid (∀ W,Calls Try.prog 117 #[.int .i64 letters,.int .i64 (kk:Int)] W (eZ W wb)):=Kh (fun W=>by rw[h9];exact uI letters kk W h1 h6 (by omega));clear h9;have c0:(kk:Int) - 1=(k:Int):=by omega
 have b1:kk<=8:=by omega
 clear hkk;go_enter Try.func94,Try.ntmps94;go_wp2_with fail;refine a8.out.mono ?_;rintro e w1 ⟨sa,sc,rfl,h8,a4⟩;obtain⟨b,off,rfl,c6,b4⟩:=wS h8 (by omega);have a1:=Kh a4.size;clear a8;unfold maxLen at b4;go_wp2
 go_loopw [8,27] (fun v i wr=>∃ (sl:Option Addr) (c j:Nat) (svs:List Value),i=.int .i64 j/\j<=wa.length/\v=.slice sl j c /\
   PatsUp w1.heap.size wr v j svs ([]++((wa.drop 0).take j).map oneB)/\RowT w1.heap.size 9 wr (.slice (some ⟨b,off,none⟩) wa.length sc) (strs wa)/\w.grownBy wr none/\w1.heap.size<=wr.heap.size)
  (fun _ i _=>wa.length - (intOf i).toNat)
 case atStart=>exact⟨_,_,0,_,rfl,Nat.zero_le _,rfl,by simpa using PatsUp.nil _ _,h8,a4,Nat.le_refl _⟩
 case round =>
  clear h8 a4;obtain⟨sl,c,j,svs,rfl,hj,rfl,H2,hT,hg,hs⟩:=hrel;have h3:=Kh H2;clear H2;by_cases hlt:j<wa.length
  ·have a2:(j:Int)<((wa.length:Nat):Int):=by omega
   have h2:wr.cell? ⟨b,off+j,none⟩=some (.string (strOfNums wa[j])):=by
    have:=xJ hT (i:=j) (by omega);exact this
   have hu:=wI (letters:=letters) (n:=k+1) (by omega) (u:=wa[j]) (by rw[<- H8.out];exact List.getElem_mem (by omega));obtain⟨u,h7⟩:∃ u,u=wa[j]:=⟨_,rfl⟩;have HU:=Kh h7;rw[<- h7]at hu h2;clear h7;have H4:=h3.out.own.alloc (.cells #[.string (strOfNums u)] 9);go_wp2_with (at_builtin;refine app1 rfl (.tmp 31) (.tmp 35) _ rfl xZ w1.heap.size _ j svs rfl H4 _ (by rw[zJ];rfl) rfl ?c1 ?c2 ?c3 ?_)
   case c1=>unfold maxLen;omega
   case c2=>omega
   case c3=>rw[zJ];have:=hg.size;have:=a1.out;omega
   intro sl' c' w3 h0 H6 _;obtain⟨H3,h5⟩:=h3.out.push (us:=oneB u) (cs:=#[.string (strOfNums u)]) (q:=1) rfl rfl (by unfold maxLen;omega) h0 H6;have a5:=fun q (e:(Value.slice sl j c).ownBlock=some q)=>(h3.out.own.lt q e).1;have a6:=hT.kept h5 (fun q e=>.inr (zS h3.out.own (by decide) q e));have a3:=zA hg h5 (fun q e=>by have:=a5 q e;have:=a1.out;omega);have b0:=h5.size;have a7:=Kh H3;clear h0 H6 H4 h2 h5 H3 hT;go_wp2;go_roundw
   case rel =>
    refine⟨sl',c',j+1,svs++[Value.slice (some ⟨wr.heap.size,0,none⟩) 1 1],by go_num,by omega,rfl,?_,a6,a3,by omega⟩
    have e7:[]++((wa.drop 0).take (j+1)).map oneB=([]++((wa.drop 0).take j).map oneB)++[oneB u]:=by
     have e9:(wa.drop 0)[j]'(by rw[List.length_drop];omega)=u:=by rw[HU.out];simp
     rw[yC oneB _ j (by rw[List.length_drop];omega),e9];simp only[List.append_assoc]
    rw[e7];exact a7.out
   case measure=>simp[intOf];omega
  ·obtain rfl:j=wa.length:=by omega
   have e8:[]++((wa.drop 0).take (wa.length)).map oneB=[]++(wa.drop 0).map oneB:=by rw[List.take_of_length_le (by rw[List.length_drop];omega)]
   rw[e8]at h3;clear e8 hlt;go_wp2_with fail;refine(b5.out _).mono ?_;rintro e w2 ⟨sa2,sc2,rfl,h4,a0⟩;have H1:=h3.out.kept a0 (by simp);have H5:=zA hg a0 (by simp);obtain⟨b2,off2,rfl,c5,b3⟩:=wS h4 (by omega);have c4:(1:Int)<sc2:=(by omega);have a9:w1.heap.size<=w2.heap.size:=Nat.le_trans hs a0.size;unfold maxLen at b3;clear hT hg a0 h3 hs;have H9:=Kh H1;clear H1;go_wp2
   go_loopw [8,49] (fun v i wr=>∃ (sl:Option Addr) (c j:Nat) (svs:List Value),i=.int .i64 j/\j<=wb.length - 1/\v=.slice sl ((wa.length)+j) c /\
     PatsUp w1.heap.size wr v ((wa.length)+j) svs (([]++(wa.drop 0).map oneB)++((wb.drop 1).take j).map sufB)/\RowT w2.heap.size 9 wr (.slice (some ⟨b2,off2,none⟩) wb.length sc2) (strs wb)/\w.grownBy wr none/\w2.heap.size<=wr.heap.size)
    (fun _ i _=>wb.length - 1 - (intOf i).toNat)
   case atStart=>exact⟨_,_,0,_,rfl,Nat.zero_le _,rfl,by simpa using H9.out,h4,H5,Nat.le_refl _⟩
   case round =>
    clear h4 H5 H9;obtain⟨sl,c,j,svs,rfl,hj,rfl,H2,hT,hg,hs⟩:=hrel;have h3:=Kh H2;clear H2;by_cases hlt:j<wb.length - 1
    ·have a2:(j:Int)<((wb.length - 1:Nat):Int):=by omega
     have h2:wr.cell? ⟨b2,off2+1+j,none⟩=some (.string (strOfNums wb[1+j])):=by
      have:=xJ hT (i:=1+j) (by omega)
      rwa [<- Nat.add_assoc]at this
     have hu:=wI (letters:=letters) (n:=kk+1) (by omega) (u:=wb[1+j]) (by rw[<- H7.out];exact List.getElem_mem (by omega));obtain⟨u,h7⟩:∃ u,u=wb[1+j]:=⟨_,rfl⟩;have HU:=Kh h7;rw[<- h7]at hu h2;clear h7;have H4:=h3.out.own.alloc (.cells #[.string ⟨#[]⟩,.string (strOfNums u)] 9);go_wp2_with (at_builtin;refine app1 rfl (.tmp 53) (.tmp 57) _ rfl xZ w1.heap.size _ ((wa.length)+j) svs rfl H4 _ (by rw[zJ];rfl) rfl ?c1 ?c2 ?c3 ?_)
     case c1=>unfold maxLen;omega
     case c2=>omega
     case c3=>rw[zJ];have:=hg.size;have:=a1.out;omega
     intro sl' c' w3 h0 H6 _;obtain⟨H3,h5⟩:=h3.out.push (us:=sufB u) (cs:=#[.string ⟨#[]⟩,.string (strOfNums u)]) (q:=2) rfl rfl (by unfold maxLen;omega) h0 H6;have a5:=fun q (e:(Value.slice sl ((wa.length)+j) c).ownBlock=some q)=>(h3.out.own.lt q e).1;have a6:=hT.kept h5 (fun q e=>.inr (zS h3.out.own (by decide) q e));have a3:=zA hg h5 (fun q e=>by have:=a5 q e;have:=a1.out;omega);have b0:=h5.size;have a7:=Kh H3;clear h0 H6 H4 h2 h5 H3 hT;go_wp2;go_roundw
     case rel =>
      refine⟨sl',c',j+1,svs++[Value.slice (some ⟨wr.heap.size,0,none⟩) 2 2],by go_num,by omega,rfl,?_,a6,a3,by omega⟩
      have e7:([]++(wa.drop 0).map oneB)++((wb.drop 1).take (j+1)).map sufB=(([]++(wa.drop 0).map oneB)++((wb.drop 1).take j).map sufB)++[sufB u]:=by
       have e9:(wb.drop 1)[j]'(by rw[List.length_drop];omega)=u:=by rw[HU.out];simp[Nat.add_comm]
       rw[yC sufB _ j (by rw[List.length_drop];omega),e9];simp only[List.append_assoc]
      rw[e7];exact a7.out
     case measure=>simp[intOf];omega
    ·obtain rfl:j=wb.length - 1:=by omega
     have e8:([]++(wa.drop 0).map oneB)++((wb.drop 1).take (wb.length - 1)).map sufB=([]++(wa.drop 0).map oneB)++(wb.drop 1).map sufB:=by rw[List.take_of_length_le (by rw[List.length_drop];omega)]
     rw[e8]at h3;clear e8 hlt;go_wp2;go_ret;exact h3.out.listed hg (by simp<;>omega)
theorem ends4_any (letters k kk:Nat)(w:World)(h1:1<=letters)(h6:letters<=6)(hk:k<=7)(hkk:kk=k+1):Calls Try.prog 94 #[.int .i64 4,.int .i64 letters,.int .i64 (kk:Int)] w (sE w ((([]++((upTo letters (k+1)).drop 0).map oneB)++((upTo letters (kk+1)).drop 1).map sufB)++((upTo letters (kk+1)).drop 1).map preB)):=by
 obtain⟨wa,H8⟩:∃ wa,wa=upTo letters (k+1):=⟨_,rfl⟩;have b9:1<=wa.length:=by rw[H8];exact pW h1
 have c4:wa.length<=20000000:=by rw[H8];have:=xR letters h6 (k+1) (by omega);omega
 rw[<- H8];have a4:=Kh H8;have a8:=Kh (uI letters k w h1 h6 (by omega));rw[<- H8]at a8;clear H8;obtain⟨wb,H7⟩:∃ wb,wb=upTo letters (kk+1):=⟨_,rfl⟩;have b8:2<=wb.length:=by rw[H7];exact mD h1 (by omega)
 have c0:wb.length<=20000000:=by rw[H7];have:=xR letters h6 (kk+1) (by omega);omega
 rw[<- H7];have H5:=Kh H7;have b7:Hid (∀ W,Calls Try.prog 117 #[.int .i64 letters,.int .i64 (kk:Int)] W (eZ W wb)):=Kh (fun W=>by rw[H7];exact uI letters kk W h1 h6 (by omega));clear H7;have c5:(kk:Int) - 1=(k:Int):=by omega
 have b4:kk<=8:=by omega
 clear hkk;go_enter Try.func94,Try.ntmps94;go_wp2_with fail;refine a8.out.mono ?_;rintro e w1 ⟨sa,sc,rfl,H6,a7⟩;obtain⟨b,off,rfl,c8,b6⟩:=wS H6 (by omega);have H9:=Kh a7.size;clear a8;unfold maxLen at b6;go_wp2
 go_loopw [8,27] (fun v i wr=>∃ (sl:Option Addr) (c j:Nat) (svs:List Value),i=.int .i64 j/\j<=wa.length/\v=.slice sl j c /\
   PatsUp w1.heap.size wr v j svs ([]++((wa.drop 0).take j).map oneB)/\RowT w1.heap.size 9 wr (.slice (some ⟨b,off,none⟩) wa.length sc) (strs wa)/\w.grownBy wr none/\w1.heap.size<=wr.heap.size)
  (fun _ i _=>wa.length - (intOf i).toNat)
 case atStart=>exact⟨_,_,0,_,rfl,Nat.zero_le _,rfl,by simpa using PatsUp.nil _ _,H6,a7,Nat.le_refl _⟩
 case round =>
  clear H6 a7;obtain⟨sl,c,j,svs,rfl,hj,rfl,H1,hT,hg,hs⟩:=hrel;have h3:=Kh H1;clear H1;by_cases hlt:j<wa.length
  ·have a0:(j:Int)<((wa.length:Nat):Int):=by omega
   have h2:wr.cell? ⟨b,off+j,none⟩=some (.string (strOfNums wa[j])):=by
    have:=xJ hT (i:=j) (by omega);exact this
   have hu:=wI (letters:=letters) (n:=k+1) (by omega) (u:=wa[j]) (by rw[<- a4.out];exact List.getElem_mem (by omega));obtain⟨u,h5⟩:∃ u,u=wa[j]:=⟨_,rfl⟩;have HU:=Kh h5;rw[<- h5]at hu h2;clear h5;have H3:=h3.out.own.alloc (.cells #[.string (strOfNums u)] 9);go_wp2_with (at_builtin;refine app1 rfl (.tmp 31) (.tmp 35) _ rfl xZ w1.heap.size _ j svs rfl H3 _ (by rw[zJ];rfl) rfl ?c1 ?c2 ?c3 ?_)
   case c1=>unfold maxLen;omega
   case c2=>omega
   case c3=>rw[zJ];have:=hg.size;have:=H9.out;omega
   intro sl' c' w3 h0 H4 _;obtain⟨H2,h4⟩:=h3.out.push (us:=oneB u) (cs:=#[.string (strOfNums u)]) (q:=1) rfl rfl (by unfold maxLen;omega) h0 H4;have a2:=fun q (e:(Value.slice sl j c).ownBlock=some q)=>(h3.out.own.lt q e).1;have a3:=hT.kept h4 (fun q e=>.inr (zS h3.out.own (by decide) q e));have a1:=zA hg h4 (fun q e=>by have:=a2 q e;have:=H9.out;omega);have a9:=h4.size;have a5:=Kh H2;clear h0 H4 H3 h2 h4 H2 hT;go_wp2;go_roundw
   case rel =>
    refine⟨sl',c',j+1,svs++[Value.slice (some ⟨wr.heap.size,0,none⟩) 1 1],by go_num,by omega,rfl,?_,a3,a1,by omega⟩
    have e7:[]++((wa.drop 0).take (j+1)).map oneB=([]++((wa.drop 0).take j).map oneB)++[oneB u]:=by
     have e9:(wa.drop 0)[j]'(by rw[List.length_drop];omega)=u:=by rw[HU.out];simp
     rw[yC oneB _ j (by rw[List.length_drop];omega),e9];simp only[List.append_assoc]
    rw[e7];exact a5.out
   case measure=>simp[intOf];omega
  ·obtain rfl:j=wa.length:=by omega
   have e8:[]++((wa.drop 0).take (wa.length)).map oneB=[]++(wa.drop 0).map oneB:=by rw[List.take_of_length_le (by rw[List.length_drop];omega)]
   rw[e8]at h3;clear e8 hlt;go_wp2_with fail;refine(b7.out _).mono ?_;rintro e w2 ⟨sa2,sc2,rfl,h7,a6⟩;have h8:=h3.out.kept a6 (by simp);have h9:=zA hg a6 (by simp);obtain⟨b2,off2,rfl,c7,b5⟩:=wS h7 (by omega);have c6:(1:Int)<sc2:=(by omega);have b1:w1.heap.size<=w2.heap.size:=Nat.le_trans hs a6.size;unfold maxLen at b5;clear hT hg a6 h3 hs;have H0:=Kh h8;clear h8;go_wp2
   go_loopw [8,49] (fun v i wr=>∃ (sl:Option Addr) (c j:Nat) (svs:List Value),i=.int .i64 j/\j<=wb.length - 1/\v=.slice sl ((wa.length)+j) c /\
     PatsUp w1.heap.size wr v ((wa.length)+j) svs (([]++(wa.drop 0).map oneB)++((wb.drop 1).take j).map sufB)/\RowT w2.heap.size 9 wr (.slice (some ⟨b2,off2,none⟩) wb.length sc2) (strs wb)/\w.grownBy wr none/\w2.heap.size<=wr.heap.size)
    (fun _ i _=>wb.length - 1 - (intOf i).toNat)
   case atStart=>exact⟨_,_,0,_,rfl,Nat.zero_le _,rfl,by simpa using H0.out,h7,h9,Nat.le_refl _⟩
   case round =>
    clear h7 h9 H0;obtain⟨sl,c,j,svs,rfl,hj,rfl,H1,hT,hg,hs⟩:=hrel;have h3:=Kh H1;clear H1;by_cases hlt:j<wb.length - 1
    ·have a0:(j:Int)<((wb.length - 1:Nat):Int):=by omega
     have h2:wr.cell? ⟨b2,off2+1+j,none⟩=some (.string (strOfNums wb[1+j])):=by
      have:=xJ hT (i:=1+j) (by omega)
      rwa [<- Nat.add_assoc]at this
     have hu:=wI (letters:=letters) (n:=kk+1) (by omega) (u:=wb[1+j]) (by rw[<- H5.out];exact List.getElem_mem (by omega));obtain⟨u,h5⟩:∃ u,u=wb[1+j]:=⟨_,rfl⟩;have HU:=Kh h5;rw[<- h5]at hu h2;clear h5;have H3:=h3.out.own.alloc (.cells #[.string ⟨#[]⟩,.string (strOfNums u)] 9);go_wp2_with (at_builtin;refine app1 rfl (.tmp 53) (.tmp 57) _ rfl xZ w1.heap.size _ ((wa.length)+j) svs rfl H3 _ (by rw[zJ];rfl) rfl ?c1 ?c2 ?c3 ?_)
     case c1=>unfold maxLen;omega
     case c2=>omega
     case c3=>rw[zJ];have:=hg.size;have:=H9.out;omega
     intro sl' c' w3 h0 H4 _;obtain⟨H2,h4⟩:=h3.out.push (us:=sufB u) (cs:=#[.string ⟨#[]⟩,.string (strOfNums u)]) (q:=2) rfl rfl (by unfold maxLen;omega) h0 H4;have a2:=fun q (e:(Value.slice sl ((wa.length)+j) c).ownBlock=some q)=>(h3.out.own.lt q e).1;have a3:=hT.kept h4 (fun q e=>.inr (zS h3.out.own (by decide) q e));have a1:=zA hg h4 (fun q e=>by have:=a2 q e;have:=H9.out;omega);have a9:=h4.size;have a5:=Kh H2;clear h0 H4 H3 h2 h4 H2 hT;go_wp2;go_roundw
     case rel =>
      refine⟨sl',c',j+1,svs++[Value.slice (some ⟨wr.heap.size,0,none⟩) 2 2],by go_num,by omega,rfl,?_,a3,a1,by omega⟩
      have e7:([]++(wa.drop 0).map oneB)++((wb.drop 1).take (j+1)).map sufB=(([]++(wa.drop 0).map oneB)++((wb.drop 1).take j).map sufB)++[sufB u]:=by
       have e9:(wb.drop 1)[j]'(by rw[List.length_drop];omega)=u:=by rw[HU.out];simp[Nat.add_comm]
       rw[yC sufB _ j (by rw[List.length_drop];omega),e9];simp only[List.append_assoc]
      rw[e7];exact a5.out
     case measure=>simp[intOf];omega
    ·obtain rfl:j=wb.length - 1:=by omega
     have e8:([]++(wa.drop 0).map oneB)++((wb.drop 1).take (wb.length - 1)).map sufB=([]++(wa.drop 0).map oneB)++(wb.drop 1).map sufB:=by rw[List.take_of_length_le (by rw[List.length_drop];omega)]
     rw[e8]at h3;clear e8 hlt;have h8:=h3.out;have H0:=Kh h8;have b0:=hT;have h9:=hg;have b3:=hs;clear hT hg h3 hs h8;go_wp2
     go_loopw [8,64] (fun v i wr=>∃ (sl:Option Addr) (c j:Nat) (svs:List Value),i=.int .i64 j/\j<=wb.length - 1/\v=.slice sl ((wa.length+(wb.length - 1))+j) c /\
       PatsUp w1.heap.size wr v ((wa.length+(wb.length - 1))+j) svs ((([]++(wa.drop 0).map oneB)++(wb.drop 1).map sufB)++((wb.drop 1).take j).map preB)/\RowT w2.heap.size 9 wr (.slice (some ⟨b2,off2,none⟩) wb.length sc2) (strs wb)/\w.grownBy wr none/\w2.heap.size<=wr.heap.size)
      (fun _ i _=>wb.length - 1 - (intOf i).toNat)
     case atStart=>exact⟨_,_,0,_,rfl,Nat.zero_le _,rfl,by simpa using H0.out,b0,h9,b3⟩
     case round =>
      clear b0 h9 H0;obtain⟨sl,c,j,svs,rfl,hj,rfl,H1,hT,hg,hs⟩:=hrel;have h3:=Kh H1;clear H1;by_cases hlt:j<wb.length - 1
      ·have a0:(j:Int)<((wb.length - 1:Nat):Int):=by omega
       have h2:wr.cell? ⟨b2,off2+1+j,none⟩=some (.string (strOfNums wb[1+j])):=by
        have:=xJ hT (i:=1+j) (by omega)
        rwa [<- Nat.add_assoc]at this
       have hu:=wI (letters:=letters) (n:=kk+1) (by omega) (u:=wb[1+j]) (by rw[<- H5.out];exact List.getElem_mem (by omega));obtain⟨u,h5⟩:∃ u,u=wb[1+j]:=⟨_,rfl⟩;have HU:=Kh h5;rw[<- h5]at hu h2;clear h5;have H3:=h3.out.own.alloc (.cells #[.string (strOfNums u),.string ⟨#[]⟩] 9);go_wp2_with (at_builtin;refine app1 rfl (.tmp 68) (.tmp 72) _ rfl xZ w1.heap.size _ ((wa.length+(wb.length - 1))+j) svs rfl H3 _ (by rw[zJ];rfl) rfl ?c1 ?c2 ?c3 ?_)
       case c1=>unfold maxLen;omega
       case c2=>omega
       case c3=>rw[zJ];have:=hg.size;have:=H9.out;omega
       intro sl' c' w3 h0 H4 _;obtain⟨H2,h4⟩:=h3.out.push (us:=preB u) (cs:=#[.string (strOfNums u),.string ⟨#[]⟩]) (q:=2) rfl rfl (by unfold maxLen;omega) h0 H4;have a2:=fun q (e:(Value.slice sl ((wa.length+(wb.length - 1))+j) c).ownBlock=some q)=>(h3.out.own.lt q e).1;have a3:=hT.kept h4 (fun q e=>.inr (zS h3.out.own (by decide) q e));have a1:=zA hg h4 (fun q e=>by have:=a2 q e;have:=H9.out;omega);have a9:=h4.size;have a5:=Kh H2;clear h0 H4 H3 h2 h4 H2 hT;go_wp2;go_roundw
       case rel =>
        refine⟨sl',c',j+1,svs++[Value.slice (some ⟨wr.heap.size,0,none⟩) 2 2],by go_num,by omega,rfl,?_,a3,a1,by omega⟩
        have e7:(([]++(wa.drop 0).map oneB)++(wb.drop 1).map sufB)++((wb.drop 1).take (j+1)).map preB=((([]++(wa.drop 0).map oneB)++(wb.drop 1).map sufB)++((wb.drop 1).take j).map preB)++[preB u]:=by
         have e9:(wb.drop 1)[j]'(by rw[List.length_drop];omega)=u:=by rw[HU.out];simp[Nat.add_comm]
         rw[yC preB _ j (by rw[List.length_drop];omega),e9];simp only[List.append_assoc]
        rw[e7];exact a5.out
       case measure=>simp[intOf];omega
      ·obtain rfl:j=wb.length - 1:=by omega
       have e8:(([]++(wa.drop 0).map oneB)++(wb.drop 1).map sufB)++((wb.drop 1).take (wb.length - 1)).map preB=(([]++(wa.drop 0).map oneB)++(wb.drop 1).map sufB)++(wb.drop 1).map preB:=by rw[List.take_of_length_le (by rw[List.length_drop];omega)]
       rw[e8]at h3;clear e8 hlt;go_wp2;go_ret;exact h3.out.listed hg (by simp<;>omega)
theorem ends5_any (letters k kk:Nat)(w:World)(h1:1<=letters)(h6:letters<=6)(hk:k<=7)(hkk:kk=k+1):Calls Try.prog 94 #[.int .i64 5,.int .i64 letters,.int .i64 (kk:Int)] w (sE w (((([]++((upTo letters (k+1)).drop 0).map oneB)++((upTo letters (kk+1)).drop 1).map sufB)++((upTo letters (kk+1)).drop 1).map preB)++((upTo letters (kk+1)).drop 1).map facB)):=by
 obtain⟨wa,a4⟩:∃ wa,wa=upTo letters (k+1):=⟨_,rfl⟩;have b9:1<=wa.length:=by rw[a4];exact pW h1
 have c4:wa.length<=20000000:=by rw[a4];have:=xR letters h6 (k+1) (by omega);omega
 rw[<- a4];have a6:=Kh a4;have b1:=Kh (uI letters k w h1 h6 (by omega));rw[<- a4]at b1;clear a4;obtain⟨wb,a3⟩:∃ wb,wb=upTo letters (kk+1):=⟨_,rfl⟩;have b8:2<=wb.length:=by rw[a3];exact mD h1 (by omega)
 have c0:wb.length<=20000000:=by rw[a3];have:=xR letters h6 (kk+1) (by omega);omega
 rw[<- a3];have H5:=Kh a3;have b7:Hid (∀ W,Calls Try.prog 117 #[.int .i64 letters,.int .i64 (kk:Int)] W (eZ W wb)):=Kh (fun W=>by rw[a3];exact uI letters kk W h1 h6 (by omega));clear a3;have c5:(kk:Int) - 1=(k:Int):=by omega
 have b4:kk<=8:=by omega
 clear hkk;go_enter Try.func94,Try.ntmps94;go_wp2_with fail;refine b1.out.mono ?_;rintro e w1 ⟨sa,sc,rfl,H7,b0⟩;obtain⟨b,off,rfl,c8,b6⟩:=wS H7 (by omega);have H6:=Kh b0.size;clear b1;unfold maxLen at b6;go_wp2
 go_loopw [8,27] (fun v i wr=>∃ (sl:Option Addr) (c j:Nat) (svs:List Value),i=.int .i64 j/\j<=wa.length/\v=.slice sl j c /\
   PatsUp w1.heap.size wr v j svs ([]++((wa.drop 0).take j).map oneB)/\RowT w1.heap.size 9 wr (.slice (some ⟨b,off,none⟩) wa.length sc) (strs wa)/\w.grownBy wr none/\w1.heap.size<=wr.heap.size)
  (fun _ i _=>wa.length - (intOf i).toNat)
 case atStart=>exact⟨_,_,0,_,rfl,Nat.zero_le _,rfl,by simpa using PatsUp.nil _ _,H7,b0,Nat.le_refl _⟩
 case round =>
  clear H7 b0;obtain⟨sl,c,j,svs,rfl,hj,rfl,H1,hT,hg,hs⟩:=hrel;have h3:=Kh H1;clear H1;by_cases hlt:j<wa.length
  ·have H8:(j:Int)<((wa.length:Nat):Int):=by omega
   have h2:wr.cell? ⟨b,off+j,none⟩=some (.string (strOfNums wa[j])):=by
    have:=xJ hT (i:=j) (by omega);exact this
   have hu:=wI (letters:=letters) (n:=k+1) (by omega) (u:=wa[j]) (by rw[<- a6.out];exact List.getElem_mem (by omega));obtain⟨u,h9⟩:∃ u,u=wa[j]:=⟨_,rfl⟩;have HU:=Kh h9;rw[<- h9]at hu h2;clear h9;have H3:=h3.out.own.alloc (.cells #[.string (strOfNums u)] 9);go_wp2_with (at_builtin;refine app1 rfl (.tmp 31) (.tmp 35) _ rfl xZ w1.heap.size _ j svs rfl H3 _ (by rw[zJ];rfl) rfl ?c1 ?c2 ?c3 ?_)
   case c1=>unfold maxLen;omega
   case c2=>omega
   case c3=>rw[zJ];have:=hg.size;have:=H6.out;omega
   intro sl' c' w3 h0 H4 _;obtain⟨H2,h4⟩:=h3.out.push (us:=oneB u) (cs:=#[.string (strOfNums u)]) (q:=1) rfl rfl (by unfold maxLen;omega) h0 H4;have a0:=fun q (e:(Value.slice sl j c).ownBlock=some q)=>(h3.out.own.lt q e).1;have a1:=hT.kept h4 (fun q e=>.inr (zS h3.out.own (by decide) q e));have H9:=zA hg h4 (fun q e=>by have:=a0 q e;have:=H6.out;omega);have a8:=h4.size;have a2:=Kh H2;clear h0 H4 H3 h2 h4 H2 hT;go_wp2;go_roundw
   case rel =>
    refine⟨sl',c',j+1,svs++[Value.slice (some ⟨wr.heap.size,0,none⟩) 1 1],by go_num,by omega,rfl,?_,a1,H9,by omega⟩
    have e7:[]++((wa.drop 0).take (j+1)).map oneB=([]++((wa.drop 0).take j).map oneB)++[oneB u]:=by
     have e9:(wa.drop 0)[j]'(by rw[List.length_drop];omega)=u:=by rw[HU.out];simp
     rw[yC oneB _ j (by rw[List.length_drop];omega),e9];simp only[List.append_assoc]
    rw[e7];exact a2.out
   case measure=>simp[intOf];omega
  ·obtain rfl:j=wa.length:=by omega
   have e8:[]++((wa.drop 0).take (wa.length)).map oneB=[]++(wa.drop 0).map oneB:=by rw[List.take_of_length_le (by rw[List.length_drop];omega)]
   rw[e8]at h3;clear e8 hlt;go_wp2_with fail;refine(b7.out _).mono ?_;rintro e w2 ⟨sa2,sc2,rfl,H0,a7⟩;have h5:=h3.out.kept a7 (by simp);have h7:=zA hg a7 (by simp);obtain⟨b2,off2,rfl,c7,b5⟩:=wS H0 (by omega);have c6:(1:Int)<sc2:=(by omega);have b3:w1.heap.size<=w2.heap.size:=Nat.le_trans hs a7.size;unfold maxLen at b5;clear hT hg a7 h3 hs;have h8:=Kh h5;clear h5;go_wp2
   go_loopw [8,49] (fun v i wr=>∃ (sl:Option Addr) (c j:Nat) (svs:List Value),i=.int .i64 j/\j<=wb.length - 1/\v=.slice sl ((wa.length)+j) c /\
     PatsUp w1.heap.size wr v ((wa.length)+j) svs (([]++(wa.drop 0).map oneB)++((wb.drop 1).take j).map sufB)/\RowT w2.heap.size 9 wr (.slice (some ⟨b2,off2,none⟩) wb.length sc2) (strs wb)/\w.grownBy wr none/\w2.heap.size<=wr.heap.size)
    (fun _ i _=>wb.length - 1 - (intOf i).toNat)
   case atStart=>exact⟨_,_,0,_,rfl,Nat.zero_le _,rfl,by simpa using h8.out,H0,h7,Nat.le_refl _⟩
   case round =>
    clear H0 h7 h8;obtain⟨sl,c,j,svs,rfl,hj,rfl,H1,hT,hg,hs⟩:=hrel;have h3:=Kh H1;clear H1;by_cases hlt:j<wb.length - 1
    ·have H8:(j:Int)<((wb.length - 1:Nat):Int):=by omega
     have h2:wr.cell? ⟨b2,off2+1+j,none⟩=some (.string (strOfNums wb[1+j])):=by
      have:=xJ hT (i:=1+j) (by omega)
      rwa [<- Nat.add_assoc]at this
     have hu:=wI (letters:=letters) (n:=kk+1) (by omega) (u:=wb[1+j]) (by rw[<- H5.out];exact List.getElem_mem (by omega));obtain⟨u,h9⟩:∃ u,u=wb[1+j]:=⟨_,rfl⟩;have HU:=Kh h9;rw[<- h9]at hu h2;clear h9;have H3:=h3.out.own.alloc (.cells #[.string ⟨#[]⟩,.string (strOfNums u)] 9);go_wp2_with (at_builtin;refine app1 rfl (.tmp 53) (.tmp 57) _ rfl xZ w1.heap.size _ ((wa.length)+j) svs rfl H3 _ (by rw[zJ];rfl) rfl ?c1 ?c2 ?c3 ?_)
     case c1=>unfold maxLen;omega
     case c2=>omega
     case c3=>rw[zJ];have:=hg.size;have:=H6.out;omega
     intro sl' c' w3 h0 H4 _;obtain⟨H2,h4⟩:=h3.out.push (us:=sufB u) (cs:=#[.string ⟨#[]⟩,.string (strOfNums u)]) (q:=2) rfl rfl (by unfold maxLen;omega) h0 H4;have a0:=fun q (e:(Value.slice sl ((wa.length)+j) c).ownBlock=some q)=>(h3.out.own.lt q e).1;have a1:=hT.kept h4 (fun q e=>.inr (zS h3.out.own (by decide) q e));have H9:=zA hg h4 (fun q e=>by have:=a0 q e;have:=H6.out;omega);have a8:=h4.size;have a2:=Kh H2;clear h0 H4 H3 h2 h4 H2 hT;go_wp2;go_roundw
     case rel =>
      refine⟨sl',c',j+1,svs++[Value.slice (some ⟨wr.heap.size,0,none⟩) 2 2],by go_num,by omega,rfl,?_,a1,H9,by omega⟩
      have e7:([]++(wa.drop 0).map oneB)++((wb.drop 1).take (j+1)).map sufB=(([]++(wa.drop 0).map oneB)++((wb.drop 1).take j).map sufB)++[sufB u]:=by
       have e9:(wb.drop 1)[j]'(by rw[List.length_drop];omega)=u:=by rw[HU.out];simp[Nat.add_comm]
       rw[yC sufB _ j (by rw[List.length_drop];omega),e9];simp only[List.append_assoc]
      rw[e7];exact a2.out
     case measure=>simp[intOf];omega
    ·obtain rfl:j=wb.length - 1:=by omega
     have e8:([]++(wa.drop 0).map oneB)++((wb.drop 1).take (wb.length - 1)).map sufB=([]++(wa.drop 0).map oneB)++(wb.drop 1).map sufB:=by rw[List.take_of_length_le (by rw[List.length_drop];omega)]
     rw[e8]at h3;clear e8 hlt;have h5:=h3.out;have h8:=Kh h5;have a5:=hT;have h7:=hg;have a9:=hs;clear hT hg h3 hs h5;go_wp2
     go_loopw [8,64] (fun v i wr=>∃ (sl:Option Addr) (c j:Nat) (svs:List Value),i=.int .i64 j/\j<=wb.length - 1/\v=.slice sl ((wa.length+(wb.length - 1))+j) c /\
       PatsUp w1.heap.size wr v ((wa.length+(wb.length - 1))+j) svs ((([]++(wa.drop 0).map oneB)++(wb.drop 1).map sufB)++((wb.drop 1).take j).map preB)/\RowT w2.heap.size 9 wr (.slice (some ⟨b2,off2,none⟩) wb.length sc2) (strs wb)/\w.grownBy wr none/\w2.heap.size<=wr.heap.size)
      (fun _ i _=>wb.length - 1 - (intOf i).toNat)
     case atStart=>exact⟨_,_,0,_,rfl,Nat.zero_le _,rfl,by simpa using h8.out,a5,h7,a9⟩
     case round =>
      clear a5 h7 h8;obtain⟨sl,c,j,svs,rfl,hj,rfl,H1,hT,hg,hs⟩:=hrel;have h3:=Kh H1;clear H1;by_cases hlt:j<wb.length - 1
      ·have H8:(j:Int)<((wb.length - 1:Nat):Int):=by omega
       have h2:wr.cell? ⟨b2,off2+1+j,none⟩=some (.string (strOfNums wb[1+j])):=by
        have:=xJ hT (i:=1+j) (by omega)
        rwa [<- Nat.add_assoc]at this
       have hu:=wI (letters:=letters) (n:=kk+1) (by omega) (u:=wb[1+j]) (by rw[<- H5.out];exact List.getElem_mem (by omega));obtain⟨u,h9⟩:∃ u,u=wb[1+j]:=⟨_,rfl⟩;have HU:=Kh h9;rw[<- h9]at hu h2;clear h9;have H3:=h3.out.own.alloc (.cells #[.string (strOfNums u),.string ⟨#[]⟩] 9);go_wp2_with (at_builtin;refine app1 rfl (.tmp 68) (.tmp 72) _ rfl xZ w1.heap.size _ ((wa.length+(wb.length - 1))+j) svs rfl H3 _ (by rw[zJ];rfl) rfl ?c1 ?c2 ?c3 ?_)
       case c1=>unfold maxLen;omega
       case c2=>omega
       case c3=>rw[zJ];have:=hg.size;have:=H6.out;omega
       intro sl' c' w3 h0 H4 _;obtain⟨H2,h4⟩:=h3.out.push (us:=preB u) (cs:=#[.string (strOfNums u),.string ⟨#[]⟩]) (q:=2) rfl rfl (by unfold maxLen;omega) h0 H4;have a0:=fun q (e:(Value.slice sl ((wa.length+(wb.length - 1))+j) c).ownBlock=some q)=>(h3.out.own.lt q e).1;have a1:=hT.kept h4 (fun q e=>.inr (zS h3.out.own (by decide) q e));have H9:=zA hg h4 (fun q e=>by have:=a0 q e;have:=H6.out;omega);have a8:=h4.size;have a2:=Kh H2;clear h0 H4 H3 h2 h4 H2 hT;go_wp2;go_roundw
       case rel =>
        refine⟨sl',c',j+1,svs++[Value.slice (some ⟨wr.heap.size,0,none⟩) 2 2],by go_num,by omega,rfl,?_,a1,H9,by omega⟩
        have e7:(([]++(wa.drop 0).map oneB)++(wb.drop 1).map sufB)++((wb.drop 1).take (j+1)).map preB=((([]++(wa.drop 0).map oneB)++(wb.drop 1).map sufB)++((wb.drop 1).take j).map preB)++[preB u]:=by
         have e9:(wb.drop 1)[j]'(by rw[List.length_drop];omega)=u:=by rw[HU.out];simp[Nat.add_comm]
         rw[yC preB _ j (by rw[List.length_drop];omega),e9];simp only[List.append_assoc]
        rw[e7];exact a2.out
       case measure=>simp[intOf];omega
      ·obtain rfl:j=wb.length - 1:=by omega
       have e8:(([]++(wa.drop 0).map oneB)++(wb.drop 1).map sufB)++((wb.drop 1).take (wb.length - 1)).map preB=(([]++(wa.drop 0).map oneB)++(wb.drop 1).map sufB)++(wb.drop 1).map preB:=by rw[List.take_of_length_le (by rw[List.length_drop];omega)]
       rw[e8]at h3;clear e8 hlt;have h5:=h3.out;have h8:=Kh h5;have a5:=hT;have h7:=hg;have a9:=hs;clear hT hg h3 hs h5;go_wp2
       go_loopw [8,79] (fun v i wr=>∃ (sl:Option Addr) (c j:Nat) (svs:List Value),i=.int .i64 j/\j<=wb.length - 1/\v=.slice sl ((wa.length+(wb.length - 1)+(wb.length - 1))+j) c /\
         PatsUp w1.heap.size wr v ((wa.length+(wb.length - 1)+(wb.length - 1))+j) svs (((([]++(wa.drop 0).map oneB)++(wb.drop 1).map sufB)++(wb.drop 1).map preB)++((wb.drop 1).take j).map facB)/\RowT w2.heap.size 9 wr (.slice (some ⟨b2,off2,none⟩) wb.length sc2) (strs wb)/\w.grownBy wr none/\w2.heap.size<=wr.heap.size)
        (fun _ i _=>wb.length - 1 - (intOf i).toNat)
       case atStart=>exact⟨_,_,0,_,rfl,Nat.zero_le _,rfl,by simpa using h8.out,a5,h7,a9⟩
       case round =>
        clear a5 h7 h8;obtain⟨sl,c,j,svs,rfl,hj,rfl,H1,hT,hg,hs⟩:=hrel;have h3:=Kh H1;clear H1;by_cases hlt:j<wb.length - 1
        ·have H8:(j:Int)<((wb.length - 1:Nat):Int):=by omega
         have h2:wr.cell? ⟨b2,off2+1+j,none⟩=some (.string (strOfNums wb[1+j])):=by
          have:=xJ hT (i:=1+j) (by omega)
          rwa [<- Nat.add_assoc]at this
         have hu:=wI (letters:=letters) (n:=kk+1) (by omega) (u:=wb[1+j]) (by rw[<- H5.out];exact List.getElem_mem (by omega));obtain⟨u,h9⟩:∃ u,u=wb[1+j]:=⟨_,rfl⟩;have HU:=Kh h9;rw[<- h9]at hu h2;clear h9;have H3:=h3.out.own.alloc (.cells #[.string ⟨#[]⟩,.string (strOfNums u),.string ⟨#[]⟩] 9);go_wp2_with (at_builtin;refine app1 rfl (.tmp 83) (.tmp 87) _ rfl xZ w1.heap.size _ ((wa.length+(wb.length - 1)+(wb.length - 1))+j) svs rfl H3 _ (by rw[zJ];rfl) rfl ?c1 ?c2 ?c3 ?_)
         case c1=>unfold maxLen;omega
         case c2=>omega
         case c3=>rw[zJ];have:=hg.size;have:=H6.out;omega
         intro sl' c' w3 h0 H4 _;obtain⟨H2,h4⟩:=h3.out.push (us:=facB u) (cs:=#[.string ⟨#[]⟩,.string (strOfNums u),.string ⟨#[]⟩]) (q:=3) rfl rfl (by unfold maxLen;omega) h0 H4;have a0:=fun q (e:(Value.slice sl ((wa.length+(wb.length - 1)+(wb.length - 1))+j) c).ownBlock=some q)=>(h3.out.own.lt q e).1;have a1:=hT.kept h4 (fun q e=>.inr (zS h3.out.own (by decide) q e));have H9:=zA hg h4 (fun q e=>by have:=a0 q e;have:=H6.out;omega);have a8:=h4.size;have a2:=Kh H2;clear h0 H4 H3 h2 h4 H2 hT;go_wp2;go_roundw
         case rel =>
          refine⟨sl',c',j+1,svs++[Value.slice (some ⟨wr.heap.size,0,none⟩) 3 3],by go_num,by omega,rfl,?_,a1,H9,by omega⟩
          have e7:((([]++(wa.drop 0).map oneB)++(wb.drop 1).map sufB)++(wb.drop 1).map preB)++((wb.drop 1).take (j+1)).map facB=(((([]++(wa.drop 0).map oneB)++(wb.drop 1).map sufB)++(wb.drop 1).map preB)++((wb.drop 1).take j).map facB)++[facB u]:=by
           have e9:(wb.drop 1)[j]'(by rw[List.length_drop];omega)=u:=by rw[HU.out];simp[Nat.add_comm]
           rw[yC facB _ j (by rw[List.length_drop];omega),e9];simp only[List.append_assoc]
          rw[e7];exact a2.out
         case measure=>simp[intOf];omega
        ·obtain rfl:j=wb.length - 1:=by omega
         have e8:((([]++(wa.drop 0).map oneB)++(wb.drop 1).map sufB)++(wb.drop 1).map preB)++((wb.drop 1).take (wb.length - 1)).map facB=((([]++(wa.drop 0).map oneB)++(wb.drop 1).map sufB)++(wb.drop 1).map preB)++(wb.drop 1).map facB:=by rw[List.take_of_length_le (by rw[List.length_drop];omega)]
         rw[e8]at h3;clear e8 hlt;go_wp2;go_ret;exact h3.out.listed hg (by simp<;>omega)
theorem qIG {P:Program}{w:World}{ops:Array Oper}{rest:List Oper}{o:Oper}{a:Act}{Q:Exit->Act->World->Prop}(hgd:o.guard=none)(l c:Operand)(t:TypeId)(ho:o.op=.makeSlice t l c){e:TypeId}{z:Value}{bytes:Nat}(E:ElemOk P t e z bytes)(kl kc:IntKind)(C:Int)(n:Nat)(hl:a.eval l=.int kl 0)(hc:a.eval c=.int kc C)(hC:C=(n:Int))(hb:bytes * n<=281474976710656)(h63:n<=maxLen)(h:∀ w',w'.ownsRow w.heap.size e 1 (.slice (some ⟨w.heap.size,0,none⟩) 0 n) 0 []->w.grownBy w' none->wpList P ops Q rest (a.put o.dst (.slice (some ⟨w.heap.size,0,none⟩) 0 n)) w'):wpList P ops Q (o::rest) a w:=by
 obtain⟨i,hi,h0,h1,h2⟩:=info_parts E.hi;exact wpList_make_own w hgd l c t ho w.heap.size e i z 1 E.ht hi h0 h1 kl kc C n hl hc hC (by rw[h2];exact hb) h63 (Nat.le_refl _) h
theorem gM (bs:List (List Int))(u:List Int):strs bs++[Value.string (strOfNums u)]=strs (bs++[u]):=by rw[tH];rfl
def gD (w:World)(bs:List (List Int))(u:List Int)(e:Ending)(w':World):Prop :=
 ∃ (sa:Option Addr) (sc:Nat),e=.returned (.slice sa (bs.length+1) sc)/\w'.ownsRow w.heap.size 9 1 (.slice sa (bs.length+1) sc) (bs.length+1) (strs (bs++[u]))/\w.grownBy w' none
theorem iO (B:Nat)(w:World)(v:Value)(bs:List (List Int))(u:List Int)(h:Row B w v (strs bs))(hl:bs.length<=100):Calls Try.prog 118 #[v,.string (strOfNums u)] w (gD w bs u):=by
 have H:=Kh h;obtain⟨va,vc,rfl⟩:=h.shape;rw[yT]at H ⊢;obtain⟨n,hn⟩:∃ n,n=bs.length:=⟨_,rfl⟩;rw[<- hn]at H hl;have HN:=Kh hn
 have h4:∀ x∈strs bs,x.oneCell'=true:=fun x hx=>by
  obtain⟨y,_,rfl⟩:=List.mem_map.1 hx;rfl
 have h6:=Kh h4;unfold gD;rw[<- hn];clear h hn h4;go_enter Try.func118,Try.ntmps118;go_wp2_with (at_make;refine qIG rfl _ _ _ rfl uO .i64 .i64 _ (n+1) rfl rfl ?m1 ?m2 ?m3 ?_)
 case m1=>omega
 case m2=>omega
 case m3=>unfold maxLen;omega
 intro w1 h2 h5;have h7:=H.out.kept h5 (by simp);go_wp2_with (at_builtin;refine appR rfl (.tmp 8) (.tmp 9) _ rfl uO w.heap.size _ 0 [] rfl h2 _ (strs bs) rfl ⟨_,h7⟩ h6.out n ?a1 ?a2 ?a3 ?a4 ?_)
 case a1=>rw[yT,<- HN.out];omega
 case a2=>unfold maxLen;omega
 case a3=>omega
 case a4=>exact h5.size
 intro s2 c2 w2 h1 h9;have H1:=fun q (e:(Value.slice (some ⟨w.heap.size,0,none⟩) 0 (n+1)).ownBlock=some q)=>(h2.lt q e).1;have h3:=zA h5 h9 H1;go_wp2_with (at_builtin;refine app1 rfl (.tmp 10) (.tmp 12) _ rfl uO w.heap.size _ n (strs bs) rfl h1 _ rfl rfl ?c1 ?c2 ?c3 ?_)
 case c1=>unfold maxLen;omega
 case c2=>omega
 case c3=>exact h3.size
 intro s3 c3 w3 h0 h8 _;have H0:=fun q (e:(Value.slice s2 n c2).ownBlock=some q)=>(h1.lt q e).1;rw[gM]at h0;have H2:=Kh h0;have H3:=Kh (zA h3 h8 H0);clear h2 h1 h0 h5 h9 h8 H1 H0 h3 h7;go_wp2;go_ret;exact⟨s3,c3,rfl,H2.out,H3.out⟩
open Go.Maps
theorem qN:Try.prog.underlying 129=some (.map 9 3):=by kernel_rfl
theorem nF:Try.prog.underlying 9=some .string:=by kernel_rfl
theorem mL:Keyed Try.prog 9:=string_keyed nF
def kb (l:List Nat):List Nat:=l.flatMap fun q=>[q / 256,q % 256]
def kbR (l:List Nat):List Nat:=l.flatMap fun q=>[q % 256,q / 256]
theorem kb_length (l:List Nat):(kb l).length=2 * l.length:=by
 induction l with
 | nil=>rfl
 | cons x l ih=>simp only[kb,List.flatMap_cons,List.length_append,List.length_cons,List.length_nil]at ih ⊢;omega
theorem bH (l:List Nat):(kbR l).length=2 * l.length:=by
 induction l with
 | nil=>rfl
 | cons x l ih=>simp only[kbR,List.flatMap_cons,List.length_append,List.length_cons,List.length_nil]at ih ⊢;omega
theorem kb_snoc (l:List Nat)(x:Nat):kb (l++[x])=kb l++[x / 256,x % 256]:=by simp[kb]
theorem kbR_snoc (l:List Nat)(x:Nat):kbR (l++[x])=kbR l++[x % 256,x / 256]:=by simp[kbR]
theorem qHR:∀ {l m:List Nat},kb l=kb m->l=m
 | [],[],_=>rfl
 | [],y::m,h=>by simp[kb]at h
 | x::l,[],h=>by simp[kb]at h
 | x::l,y::m,h=>by
  simp only[kb,List.flatMap_cons,List.cons_append,List.nil_append,List.cons.injEq]at h
  obtain⟨h1,h2,h3⟩:=h
  rw[qHR (l:=l) (m:=m) h3,show x=y by omega]
theorem qGF:∀ {l m:List Nat},kbR l=kbR m->l=m
 | [],[],_=>rfl
 | [],y::m,h=>by simp[kbR]at h
 | x::l,[],h=>by simp[kbR]at h
 | x::l,y::m,h=>by
  simp only[kbR,List.flatMap_cons,List.cons_append,List.nil_append,List.cons.injEq]at h
  obtain⟨h1,h2,h3⟩:=h
  rw[qGF (l:=l) (m:=m) h3,show x=y by omega]
def qD (n:Nat)(l:List Nat):Prop:=l.length=n/\∀ x∈l,x<512
theorem qEG {n:Nat}{l:List Nat}(h:qD n l):∀ x∈kb l,x<256:=by
 intro x hx;simp only[kb,List.mem_flatMap,List.mem_cons,List.not_mem_nil,or_false]at hx;obtain⟨q,hq,hx⟩:=hx;have:=h.2 q hq;omega
theorem qBL {n:Nat}{l:List Nat}(h:qD n l):∀ x∈kbR l,x<256:=by
 intro x hx;simp only[kbR,List.mem_flatMap,List.mem_cons,List.not_mem_nil,or_false]at hx;obtain⟨q,hq,hx⟩:=hx;have:=h.2 q hq;omega
theorem pH (l:List Nat):(txtT l).size=l.length:=by
 have:(txtT l).size=(txtT l).data.toList.length:=by rw[Array.length_toList];rfl
 rw[this];unfold txtT;rw[strOfNums_data];simp[zb]
theorem key_kb {n:Nat}(h:n<=400):KeyK 129 9 (qD n) (fun l=>.string (txtT (kb l))) where
 key:=mL
 und:=qN
 of:=fun a ha=>by rw[Go.WideMaps.keyOf_string_mk nF (by rw[pH,kb_length,ha.1];unfold maxLen;omega)];rfl
 inj:=fun a b ha hb e=>qHR (qCZ (qEG ha) (qEG hb) (by simpa using e))
theorem key_kbR {n:Nat}(h:n<=400):KeyK 129 9 (qD n) (fun l=>.string (txtT (kbR l))) where
 key:=mL
 und:=qN
 of:=fun a ha=>by rw[Go.WideMaps.keyOf_string_mk nF (by rw[pH,bH,ha.1];unfold maxLen;omega)];rfl
 inj:=fun a b ha hb e=>qGF (qCZ (qBL ha) (qBL hb) (by simpa using e))
theorem u8s_append (l m:List Nat):u8s (l++m)=u8s l++u8s m:=by simp[u8s,zb]
theorem rowLit {w:World}{b e n:Nat}{cs:Array Value}{m:Nat×Nat}(h:w.heap[b]?=some (.cells cs e m))(hn:cs.size=n)(hm:n<=maxLen):Row (b+1) w (.slice (some ⟨b,0,none⟩) n n) cs.toList :=
 .inr ⟨b,0,n,by simp[hn],by omega,by simp[hn],hm,zK h,fun i hi=>by
  rw[Nat.zero_add,cell_of_row w b i _ _ _ h]
  have:i<cs.size:=by simpa using hi
  simp[this]⟩
theorem qEU (B:Nat)(w:World)(v:Value)(l:List Nat)(n:Nat)(hB:B<=w.heap.size)(h:Row B w v (nats l))(hs:qD n l)(hn:n<=400):
  Calls Try.prog 84 #[v] w fun e w'=>e=.returned (.string (txtT (kb l)))/\w.grownBy w' none:=by
 obtain⟨a,c,rfl⟩:=h.shape;have H7:=h.len_le;rw[zT,hs.1]at H7 ⊢;have H:=Kh h;have HS:=Kh hs;clear h hs;go_enter Try.func84,Try.ntmps84;go_wp2_with (first|(at_make;refine qIG rfl _ _ _ rfl qCR .i64 .i64 _ (2 * n) rfl rfl ?m1 ?m2 ?m3 ?_)|fail)
 case m1=>omega
 case m2=>omega
 case m3=>unfold maxLen;omega
 intro w1 h1 H0;have H1:=Kh h1;have H3:=Kh H0;clear h1 H0;go_wp2
 go_loopg [3,5,12] n (fun gh v3 a5 i wr=>∃ (k:Nat) (sa:Option Addr) (sc:Nat),gh+k=n/\i=.int .i64 k/\v3=.slice sa (2 * k) sc/\wr.ownsRow w.heap.size 5 1 (.slice sa (2 * k) sc) (2 * k) (u8s (kb (l.take k)))/\w.grownBy wr none)
 case atStart=>exact⟨0,_,_,rfl,rfl,rfl,H1.out,H3.out⟩
 case round =>
  clear H1 H3;obtain⟨k,sa,sc,hg,rfl,rfl,h2,h3⟩:=hrel;have HG:=Kh hg;have HO:=Kh h2;have H2:=Kh h3;clear hg h2;by_cases hk:k<n
  ·have H5:(k:Int)<n:=by omega
   obtain⟨kb_,ko,kc,e,_,h8,h7,h5⟩:=(H.out.kept h3 (by simp)).some_ (by rw[zT,HS.out.1];omega);rw[zT,HS.out.1]at e h8;simp only[Value.slice.injEq]at e;obtain⟨rfl,_,rfl⟩:=e;have a7:c<=9223372036854775807:=by unfold maxLen at h7;omega
   have c1:=h5.nat k (by rw[HS.out.1];exact hk)
   have h4:Hid (u8s (kb (l.take (k+1)))=u8s (kb (l.take k))++[.int .u8 ((l.getD k 0 / 256:Nat):Int),.int .u8 ((l.getD k 0 % 256:Nat):Int)]):=Kh (by
    rw[zR (d:=0) (by rw[HS.out.1];exact hk),kb_snoc,u8s_append];rfl)
   have H4:l.getD k 0<512:=HS.out.2 _ (by rw[zG (by rw[HS.out.1];exact hk)];exact List.getElem_mem _);obtain⟨x,hx⟩:∃ x,x=l.getD k 0:=⟨_,rfl⟩;rw[<- hx]at c1 h4 H4;obtain⟨y,hy⟩:∃ y,y=x / 256:=⟨_,rfl⟩;obtain⟨z,hz⟩:∃ z,z=x % 256:=⟨_,rfl⟩;rw[<- hy,<- hz]at h4;have e1:(x:Int) / 2 ^ 8=(y:Int):=by rw[hy];omega
   have e2:(x:Int) / 256=(y:Int):=by rw[hy];omega
   have e3:IntKind.u8.wrap (y:Int)=y:=IntWalk.u8_in _ (by omega)
   have e4:IntKind.u8.wrap (x:Int)=z:=by
    have:IntKind.u8.wrap (x:Int)=(x:Int) % 256:=by simp[IntKind.wrap,IntKind.bits,IntKind.signed]
    rw[this,hz];omega
   have a6:=h3.size;have H8:Hid (∀ W:World,wr.grownBy W none->W.ownsRow w.heap.size 5 1 (.slice sa (2 * k) sc) (2 * k) (u8s (kb (l.take k)))):=Kh (fun W hW=>zP HO.out hW);clear h5 h8 h7 h3 hx hy hz;go_wp2_with (first|(at_builtin;refine appR rfl _ _ _ rfl qCR w.heap.size (.slice sa (2 * k) sc) (2 * k) _ rfl (H8.out _ (Ga wr _ none)) (.slice (some ⟨wr.heap.size,0,none⟩) 2 2) [.int .u8 (y:Int),.int .u8 (z:Int)] rfl ⟨wr.heap.size+1,?r0⟩ ?r1 (2 * (k+1)) ?a1 ?a2 ?a3 ?a4 ?_)|fail)
   case r0=>exact rowLit (heap_alloc_new wr _) rfl (by unfold maxLen;omega)
   case r1=>intro u hu;simp at hu;rcases hu with rfl|rfl<;>rfl
   case a1=>simp;omega
   case a2=>unfold maxLen;omega
   case a3=>omega
   case a4=>rw[zJ];omega
   intro sa' sc' w8 h0 h9;have H9:Hid (w8.ownsRow w.heap.size 5 1 (.slice sa' (2 * (k+1)) sc') (2 * (k+1)) (u8s (kb (l.take (k+1))))):=Kh (by rw[h4.out];exact h0);have a0:Hid (w.grownBy w8 none):=Kh (zA (zA H2.out (Ga wr _ none) (by simp)) h9 (fun x e=>(HO.out.lt x e).1));clear h0 h9;go_wp2;go_roundg (n - (k+1))
   case measure=>have:=HG.out;omega
   case rel=>exact⟨k+1,sa',sc',by have:=HG.out;omega,by go_num,rfl,H9.out,a0.out⟩
  ·have h6:k=n:=by have:=HG.out;omega
   have H5:¬ (k:Int)<n:=(by omega);have HE:Hid (l.take k=l):=Kh (by rw[h6,<- HS.out.1];exact List.take_length);rw[HE.out]at HO;have H6:=pY 106 5 Try.underlying106 Try.underlying5 9 Try.underlying9 HO.out;obtain⟨X,hX⟩:∃ X,X=txtT (kb l):=⟨_,rfl⟩;rw[show strOfNums (zb (kb l))=X from hX.symm]at H6;have HX:=Kh hX;clear h6 h3 hX;go_wp2;go_ret;exact⟨by rw[HX.out];rfl,H2.out⟩
theorem gI (l m:List Nat):txtT (l++m)=txtT l++txtT m:=by
 unfold txtT;rw[show zb (l++m)=zb l++zb m by simp[zb]];unfold strOfNums;apply ByteArray.ext;simp
theorem dX (B:Nat)(w:World)(v:Value)(l:List Nat)(n:Nat)(hB:B<=w.heap.size)(h:Row B w v (nats l))(hs:qD n l)(hn:n<=400):
  Calls Try.prog 80 #[v] w fun e w'=>e=.returned (.string (txtT (kbR l)))/\w.grownBy w' none:=by
 obtain⟨a,c,rfl⟩:=h.shape;have H1:=h.len_le;rw[zT,hs.1]at H1 ⊢;have H:=Kh h;have HS:=Kh hs;clear h hs;go_enter Try.func80,Try.ntmps80;go_wp2
 go_loopg [3,5,8] n (fun gh v3 a5 i wr=>∃ (k:Nat),gh+k=n/\i=.int .i64 k/\v3=.string (txtT (kbR (l.take k)))/\w.grownBy wr none)
 case atStart=>exact⟨0,rfl,rfl,rfl,zL _ _⟩
 case round =>
  obtain⟨k,hg,rfl,rfl,h1⟩:=hrel;have HG:=Kh hg;have h6:=Kh h1;clear hg;by_cases hk:k<n
  ·have h9:(k:Int)<n:=by omega
   obtain⟨kb_,ko,kc,e,_,h5,h4,h2⟩:=(H.out.kept h1 (by simp)).some_ (by rw[zT,HS.out.1];omega);rw[zT,HS.out.1]at e h5;simp only[Value.slice.injEq]at e;obtain⟨rfl,_,rfl⟩:=e;have H5:c<=9223372036854775807:=by unfold maxLen at h4;omega
   have c1:=h2.nat k (by rw[HS.out.1];exact hk);have h7:l.getD k 0<512:=HS.out.2 _ (by rw[zG (by rw[HS.out.1];exact hk)];exact List.getElem_mem _)
   have h0:Hid (txtT (kbR (l.take (k+1)))=txtT (kbR (l.take k))++txtT [l.getD k 0 % 256,l.getD k 0 / 256]):=Kh (by
    rw[zR (d:=0) (by rw[HS.out.1];exact hk),kbR_snoc,gI])
   have H3:(txtT (kbR (l.take k))).size=2 * k:=by rw[pH,bH,List.length_take,HS.out.1];omega
   obtain⟨x,hx⟩:∃ x,x=l.getD k 0:=⟨_,rfl⟩;rw[<- hx]at c1 h0 h7;obtain⟨y,hy⟩:∃ y,y=x / 256:=⟨_,rfl⟩;obtain⟨z,hz⟩:∃ z,z=x % 256:=⟨_,rfl⟩;rw[<- hy,<- hz]at h0;have H2:(txtT [z,y]).size=2:=by rw[pH];rfl
   obtain⟨S,hS⟩:∃ S,S=txtT (kbR (l.take k)):=⟨_,rfl⟩;obtain⟨T,hT⟩:∃ T,T=txtT [z,y]:=⟨_,rfl⟩;rw[<- hS]at H3 h0 ⊢;rw[<- hT]at H2 h0;have e1:(x:Int) / 2 ^ 8=(y:Int):=by rw[hy];omega
   have e2:(x:Int) / 256=(y:Int):=by rw[hy];omega
   have e3:IntKind.u8.wrap (y:Int)=y:=IntWalk.u8_in _ (by omega)
   have e4:IntKind.u8.wrap (x:Int)=z:=by
    have:IntKind.u8.wrap (x:Int)=(x:Int) % 256:=by simp[IntKind.wrap,IntKind.bits,IntKind.signed]
    rw[this,hz];omega
   have H4:Hid (Arr (wr.alloc (.cells #[.int .u8 (z:Int),.int .u8 (y:Int)] 5)) wr.heap.size 5 (([z,y].map fun(x:Nat)=>(x:Int)).map (Value.int .u8))):=Kh (Arr.new wr 5 #[.int .u8 (z:Int),.int .u8 (y:Int)]);have H0:=rK 106 5 Try.underlying106 Try.underlying5 9 Try.underlying9 2 2 rfl H4.out;rw[show strOfNums ([z,y].map fun(x:Nat)=>(x:Int))=T from hT.symm]at H0;have h8:¬ (9223372036854775807<S.size+T.size):=(by omega);clear h2 h5 h4 h1 hx hy hz hS hT;go_wp2;go_roundg (n - (k+1))
   case measure=>have:=HG.out;omega
   case rel=>exact⟨k+1,by have:=HG.out;omega,by go_num,by rw[h0.out],zA h6.out (Ga wr _ none) (by simp)⟩
  ·have h3:k=n:=by have:=HG.out;omega
   have h9:¬ (k:Int)<n:=(by omega);have HE:Hid (l.take k=l):=Kh (by rw[h3,<- HS.out.1];exact List.take_length);clear h3 h1;go_wp2;go_ret;exact⟨by rw[HE.out];rfl,h6.out⟩
end Go.Proofs.Ytjfdomfendbhfaa
namespace Go.Proofs.Ytjfdomfendbhfaa
section
variable {α:Type} (nxt:α->Nat->α) (k:Nat) (s0:α)
def sI (x:α)(w:List Nat):α:=w.foldl nxt x
structure BfsI (l:List α)(i a:Nat):Prop where
 nd:l.Nodup
 hd:l[0]?=some s0
 le:i<=l.length
 cl:∀ j x,j<i->l[j]?=some x->∀ b,b<k->nxt x b∈l
 row:∀ x,l[i]?=some x->∀ b,b<a->b<k->nxt x b∈l
 re:∀ x∈l,∃ w,yJ k w/\sI nxt s0 w=x
variable {nxt k s0}
theorem BfsI.start:BfsI nxt k s0 [s0] 0 0 :=
 ⟨by simp,rfl,by simp,fun j x h=>by omega,fun x _ b hb=>by omega,fun x hx=>⟨[],fun a ha=>by simp at ha,by simp at hx;exact hx.symm⟩⟩
theorem BfsI.old {l : List α}{i a : Nat}(h : BfsI nxt k s0 l i a){x : α}(hx : l[i]? = some x)(hm : nxt x a ∈ l): BfsI nxt k s0 l i (a + 1) :=
 ⟨h.nd, h.hd, h.le, h.cl, fun y hy b hb hbk => by
  rcases Nat.lt_succ_iff_lt_or_eq.1 hb with hb | rfl
  ·exact h.row y hy b hb hbk
  ·rw[hx]at hy; rw[<- Oj hy]; exact hm, h.re⟩
theorem BfsI.new {l:List α}{i a:Nat}(h:BfsI nxt k s0 l i a)(ha:a<k){x:α}(hx:l[i]?=some x)(hm:nxt x a ∉ l):BfsI nxt k s0 (l++[nxt x a]) i (a+1):=by
 have hi:i<l.length:=(List.getElem?_eq_some_iff.1 hx).1;have h0:∀ j,j<l.length->(l++[nxt x a])[j]?=l[j]?:=fun j hj=>List.getElem?_append_left hj;refine⟨?_,?_,by simp;omega,fun j y hj hy b hb=>?_,fun y hy b hb hbk=>?_,fun y hy=>?_⟩
 ·rw[List.nodup_append]
  exact⟨h.nd,by simp,fun y hy z hz e=>by simp at hz;subst hz;subst e;exact hm hy⟩
 ·rw[h0 0 (by omega)];exact h.hd
 ·rw[h0 j (by omega)]at hy
  exact List.mem_append_left _ (h.cl j y hj hy b hb)
 ·rw[h0 i hi]at hy
  rcases Nat.lt_succ_iff_lt_or_eq.1 hb with hb|rfl
  ·exact List.mem_append_left _ (h.row y hy b hb hbk)
  ·rw[hx]at hy;rw[<- Oj hy];simp
 ·rcases List.mem_append.1 hy with hy|hy
  ·exact h.re y hy
  ·simp at hy
   subst hy;obtain⟨w,hw,e⟩:=h.re x (List.mem_of_getElem? hx);refine⟨w++[a],fun b hb=>?_,?_⟩
   ·rcases List.mem_append.1 hb with hb|hb
    ·exact hw b hb
    ·simp at hb;omega
   ·simp[sI]at e ⊢;rw[e]
theorem BfsI.next {l : List α}{i : Nat}(h : BfsI nxt k s0 l i k)(hi : i < l.length): BfsI nxt k s0 l (i + 1) 0 :=
 ⟨h.nd, h.hd, hi, fun j x hj hx b hb => by
  rcases Nat.lt_succ_iff_lt_or_eq.1 hj with hj | rfl
  ·exact h.cl j x hj hx b hb
  ·exact h.row x hx b hb hb, fun x _ b hb => by omega, h.re⟩
structure BfsD (nxt:α->Nat->α)(k:Nat)(s0:α)(l:List α):Prop where
 nd:l.Nodup
 hd:l[0]?=some s0
 cl:∀ x∈l,∀ b,b<k->nxt x b∈l
 re:∀ x∈l,∃ w,yJ k w/\sI nxt s0 w=x
theorem BfsI.done {l : List α}{i : Nat}(h : BfsI nxt k s0 l i 0)(hi : ¬ i < l.length): BfsD nxt k s0 l :=
 ⟨h.nd, h.hd, fun x hx b hb => by
  obtain⟨j, hj, e⟩ := List.getElem_of_mem hx
  exact h.cl j x (by omega) (by rw[List.getElem?_eq_getElem hj, e]) b hb, h.re⟩
theorem BfsD.all {l:List α}(h:BfsD nxt k s0 l):∀ (w:List Nat) {x:α},x∈l->yJ k w->sI nxt x w∈l
 | [],x,hx,_=>hx
 | a::w,x,hx,hw=>BfsD.all h w (h.cl x hx a (hw a (by simp))) (fun b hb=>hw b (List.mem_cons_of_mem _ hb))
theorem BfsD.mem0 {l:List α}(h:BfsD nxt k s0 l):s0∈l:=List.mem_of_getElem? h.hd
theorem BfsD.sub {l:List α}(h:BfsD nxt k s0 l){m:List α}(hm:m.Nodup)(hr:∀ x∈m,∃ w,yJ k w/\sI nxt s0 w=x):m.length<=l.length :=
 hm.length_le_of_subset fun x hx=>by
  obtain⟨w,hw,rfl⟩:=hr x hx
  exact h.all w h.mem0 hw
def qC {α:Type}[BEq α](nxt:α->Nat->α)(k:Nat)(l:List α)(x:α):List Int:=(List.range k).map fun a=>((l.idxOf (nxt x a):Nat):Int)
def bfsA {α:Type}[BEq α](nxt:α->Nat->α)(k:Nat)(fin:α->Bool)(l:List α):DfaV:=⟨k,0,l.map fin,l.map (qC nxt k l)⟩
theorem bfsRow_more [BEq α][LawfulBEq α]{l m:List α}{x:α}(h:∀ b,b<k->nxt x b∈l):qC nxt k (l++m) x=qC nxt k l x:=by
 refine List.map_congr_left fun a ha=>?_;rw[List.idxOf_append,if_pos (h a (List.mem_range.1 ha))]
variable {fin:α->Bool}
theorem jG [BEq α]{l:List α}{i:Nat}(hi:i<l.length):(bfsA nxt k fin l).next.getD i []=qC nxt k l l[i]:=by
 show (l.map (qC nxt k l)).getD i []=_;rw[zG (by simpa using hi)];simp
theorem bfsA_nx [BEq α]{l:List α}{i a:Nat}(hi:i<l.length)(ha:a<k):nx (bfsA nxt k fin l) i a=l.idxOf (nxt l[i] a):=by
 unfold nx entN ent;rw[jG hi,qC,zG (by simpa using ha)];simp
theorem BfsD.vd [BEq α][LawfulBEq α]{l:List α}(h:BfsD nxt k s0 l)(h1:1<=k)(h6:k<=6)(hl:l.length<=4194304):VD (bfsA nxt k fin l) l.length k:=by
 have h0:0<l.length:=(List.getElem?_eq_some_iff.1 h.hd).1;have hr:∀ q,q<l.length->((bfsA nxt k fin l).next.getD q []).length=k:=fun q hq=>by rw[jG hq];simp[qC]
 refine⟨rfl,h1,h6,by simp[bfsA],h0,hl,by simp[bfsA],by show (0:Int)<=0;omega,by show (0:Int)<_;omega,hr,fun q a hq ha=>?_,fun q a hq ha=>?_⟩
 ·unfold ent
  rw[jG hq,qC,zG (by simpa using ha)];simp
 ·unfold ent
  rw[jG hq,qC,zG (by simpa using ha)];simp only[List.getElem_map,List.getElem_range];have:=List.idxOf_lt_length_of_mem (h.cl l[q] (List.getElem_mem hq) a ha);omega
theorem BfsD.run [BEq α][LawfulBEq α]{l:List α}(h:BfsD nxt k s0 l):∀ (w:List Nat) {i:Nat} (hi:i<l.length),yJ k w->Go.Proofs.Ytjfdomfendbhfaa.run (bfsA nxt k fin l) i w=l.idxOf (sI nxt l[i] w)
 | [],i,hi,_=>by
  show i=l.idxOf l[i]
  exact(h.nd.idxOf_getElem i hi).symm
 | a::w,i,hi,hw=>by
  have ha:=hw a (by simp)
  have hm:=h.cl l[i] (List.getElem_mem hi) a ha
  have hj:=List.idxOf_lt_length_of_mem hm
  show Go.Proofs.Ytjfdomfendbhfaa.run (bfsA nxt k fin l) (nx (bfsA nxt k fin l) i a) w=_
  rw[bfsA_nx hi ha,BfsD.run h w hj (fun b hb=>hw b (List.mem_cons_of_mem _ hb)),List.getElem_idxOf]
  rfl
theorem BfsD.acc [BEq α][LawfulBEq α]{l:List α}(h:BfsD nxt k s0 l){w:List Nat}(hw:yJ k w):Go.Proofs.Ytjfdomfendbhfaa.acc (bfsA nxt k fin l) (st0 (bfsA nxt k fin l)) w=fin (sI nxt s0 w):=by
 obtain⟨h0,e⟩:=List.getElem?_eq_some_iff.1 h.hd;show (l.map fin).getD (Go.Proofs.Ytjfdomfendbhfaa.run (bfsA nxt k fin l) 0 w) false=_;rw[h.run w h0 hw,e];have hm:=h.all w h.mem0 hw;have hj:=List.idxOf_lt_length_of_mem hm;rw[zG (by simpa using hj)];simp[List.getElem_map]
end
theorem eQ:∀ (n:Nat) (l:List (List Bool)),l.Nodup->(∀ x∈l,x.length=n)->l.length<=2 ^ n
 | 0,l,hn,hl=>by
  have:l ⊆ [[]]:=fun x hx=>by simp[List.eq_nil_of_length_eq_zero (hl x hx)]
  simpa using hn.length_le_of_subset this
 | n+1,l,hn,hl=>by
  have key:∀ b:Bool,(l.filter fun x=>x.headD false == b).length<=2 ^ n:=fun b=>by
   have h0:∀ x∈l.filter (fun x=>x.headD false == b),x=b::x.tail/\x.length=n+1:=fun x hx=>by
    obtain⟨h1,h2⟩:=List.mem_filter.1 hx
    have h3:=hl x h1
    cases x with
    | nil=>simp at h3
    | cons c x=>simp at h2;exact⟨by rw[h2];rfl,h3⟩
   have h1:=eQ n ((l.filter fun x=>x.headD false == b).map List.tail) (by
    rw[List.Nodup,List.pairwise_map]
    refine List.Pairwise.imp_of_mem ?_ (hn.filter _)
    intro x y hx hy hne e
    exact hne (by rw[(h0 x hx).1,(h0 y hy).1,e])) (fun x hx=>by
    obtain⟨y,hy,rfl⟩:=List.mem_map.1 hx
    rw[List.length_tail,(h0 y hy).2];omega)
   rwa [List.length_map]at h1
  have h1:=key true
  have h2:=key false
  have h3:∀ l:List (List Bool),l.length=(l.filter fun x=>x.headD false == true).length+(l.filter fun x=>x.headD false == false).length:=fun l=>by
   induction l with
   | nil=>rfl
   | cons x l ih =>
    rw[List.filter_cons,List.filter_cons]
    generalize x.headD false=b
    cases b
    ·rw[if_neg (by decide),if_pos (by decide),List.length_cons,List.length_cons];omega
    ·rw[if_pos (by decide),if_neg (by decide),List.length_cons,List.length_cons];omega
  have:=h3 l
  rw[Nat.pow_succ];omega
end Go.Proofs.Ytjfdomfendbhfaa
