/- Part 20 of the proof. -/
import Derived.Test.YtjfdomfendbhfaaQf19
import Derived.BigRegion
import Derived.Deep.DeepCutAuto
set_option linter.unusedVariables false
set_option linter.unusedSimpArgs false
set_option maxRecDepth 100000
set_option maxHeartbeats 16000000
namespace Go.Proofs.Ytjfdomfendbhfaa
open Go.RowKit
theorem rfam5_any (L K M:Nat)(w:World)(hl1:1<=L)(hl6:L<=6)(hk1:1<=K)(hk8:K<=8)(hm:M=0):
  Calls Try.prog 45 #[.int .i64 5,.int .i64 L,.int .i64 K,.int .i64 M] w (mE w (famE 5 L K M) (famL 5 L K M)):=by
 have j8:=Kh (xU w (L:Int));rw[decide_eq_true (show 1<=(L:Int)/\(L:Int)<=6 by omega)]at j8;have ho:kA 5 L K M=true:=by simp[kA];omega
 have HO:=Kh ho;have g0:=Kh (qGE (kind:=5) (letters:=L) (k:=K) (m:=M) (by decide) (by decide) hl1 (fun _=>by omega));have j4:=Kh (qGH (kind:=5) (letters:=L) (k:=K) (by decide) (by decide) M);have l9:=Kh (qHB (kind:=5) (L:=L) (K:=K) M);have m7:((M:Int) != 0)=false:=by rw[hm];rfl
 clear ho;skip;have f9:Hid (∀ i,i<=K->(upTo L (i+1)).length<=20000000):=Kh (fun i hi=>by have:=lR L hl6 (i+1) (by omega);omega);go_enter Try.func45,Try.ntmps45;go_wp2_with fail;refine j8.out.mono ?_;rintro e w ⟨rfl,rfl⟩;go_wp2
 go_loopg [11,12,13] K (fun gh vc vi vp wr=>∃ i:Nat,gh+i=K/\vc=.int .i64 (((upTo L (i+1)).length:Nat):Int)/\vi=.int .i64 (i:Int)/\vp=.int .i64 ((L ^ i:Nat):Int)/\w=wr)
 case atStart=>exact⟨0,rfl,by rw[wF,List.length_append,uN];simp[upTo],rfl,rfl,rfl⟩
 case round =>
  obtain⟨i,c5,rfl,rfl,rfl,rfl⟩:=hrel;have a7:=Kh c5;clear c5;have i9:=f9.out i (by have:=a7.out;omega);by_cases hlt:i<K
  ·have f3:(i:Int)<(K:Int):=by omega
   have i8:=f9.out (i+1) (by omega);have d8:=kP L i;rw[d8]at i8;have g1:=Kh d8;obtain⟨CN,d4⟩:∃ CN,CN=(upTo L (i+1)).length:=⟨_,rfl⟩;obtain⟨PW,f8⟩:∃ PW,PW=L ^ i:=⟨_,rfl⟩;obtain⟨P2,c6⟩:∃ P2,P2=L ^ i * L:=⟨_,rfl⟩;have k8:(PW:Int) * (L:Int)=(P2:Int):=by rw[c6,f8];push_cast;rfl
   have d5:Hid ((upTo L (i+1+1)).length=CN+P2/\L ^ (i+1)=P2):=Kh ⟨by rw[g1.out,d4,c6],by rw[c6,Nat.pow_succ]⟩;rw[<- c6,<- d4]at i8;rw[<- d4,<- f8];clear d8 d4 f8 c6 i9;go_wp2;go_roundg (K - (i+1))
   case measure=>have:=a7.out;omega
   case rel=>exact⟨i+1,by have:=a7.out;omega,by rw[d5.out.1];go_num,by go_num,by rw[d5.out.2],rfl⟩
  ·obtain rfl:i=K:=by have:=a7.out;omega
   clear hlt f9;obtain⟨ws,a8⟩:∃ ws,ws=xH L i:=⟨_,rfl⟩;have l4:=Kh a8;have d0:upTo L (i+1)=ws:=a8.symm;rw[d0]at i9 ⊢;have g5:Hid (ws.length<=(famP 5 L i M).length+1):=Kh (by rw[a8];exact l9.out);have m4:1<=ws.length:=by rw[a8];exact aI hl1
   have n9:Hid (1<=i->2<=ws.length):=Kh (fun h=>by rw[a8];exact qDZ hl1 h);have n6:Hid (∀ r (h:r<ws.length),(ws[r]=[] ↔ r=0)):=Kh (by subst a8;exact fun r h=>gZ h);have l5:Hid (∀ u∈ws,u.length<=8):=Kh (by subst a8;exact fun u hu=>gY hk8 hu);have n7:Hid (∀ u∈ws,okW u):=Kh (by subst a8;exact fun u hu=>okB hl6 (n:=i+1) hu);have j3:Hid (ws.length<=301->Calls Try.prog 76 #[.int .i64 L,.int .i64 i] w (qHY w ws)):=Kh (fun h=>by rw[<- d0];exact qDY L i w hl1 hl6 hk8 (by rw[d0];omega));clear a8 d0;by_cases hbig:300<(ws.length:Int) - 1
   ·have h3:=jM HO.out (.inr (g0.out.2 (by have:=g5.out;omega)))
    have H3:=Kh h3;clear h3;go_wp2;refine bodyPost_ret (v:=.tuple #[.slice none 0 0,.int .i64 3]) (by simp[results,Try.results45,go_sem]) rfl ?_;rw[H3.out.1,H3.out.2];exact mE.nil (zM _ _)
   have c8:=Kh (j3.out (by omega));clear j3;go_wp2_with fail;refine c8.out.mono ?_;rintro e w1 ⟨sa,sc,rfl,a9,f5⟩;obtain⟨b,off,rfl,n5,i7⟩:=cH a9 (by omega);have n4:sc<=9223372036854775807:=by unfold maxLen at i7;omega
   have g7:ws.length<=301:=by omega
   clear c8 i7 hbig;obtain⟨ba,f6⟩:∃ ba,ba=w1.heap.size:=⟨_,rfl⟩;rw[<- f6]at a9;have H5:ba<=w1.heap.size:=by omega
   have k4:w.heap.size<=ba:=by rw[f6];exact f5.size
   clear f6;go_wp2
   go_loopw [15,90] (fun v iv wr=>∃ (j n:Nat) (sl:Option Addr) (c:Nat) (svs:List Value),iv=.int .i64 (j:Int)/\j<=ws.length/\v=.slice sl n c /\
     LUp 28 ba wr (.slice sl n c) n svs (genL 5 i (ws.take j))/\RowT ba 9 wr (.slice (some ⟨b,off,none⟩) ws.length sc) (strs ws)/\w.grownBy wr none/\ba<=wr.heap.size)
    (fun _ iv _=>ws.length - (intOf iv).toNat)
   case atStart=>exact⟨0,0,none,0,[],rfl,Nat.zero_le _,rfl,by simpa [genL] using LUp.nil (by decide) _ _,a9,f5,H5⟩
   case round =>
    clear a9 f5 H5;obtain⟨j,n,sl,c,svs,rfl,hj,rfl,H8,hT,hg,H5⟩:=hrel;obtain⟨wo,rfl⟩:∃ wo:World,wo=wr:=⟨_,rfl⟩
    have hn:n<=1600:=by
     have h1:=H8.len;have h2:=qAH 5 i (ws.take j);rw[List.length_take]at h2;omega
    have h0:=Kh H8;clear H8;by_cases hlt:j<ws.length
    ·have f3:(j:Int)<ws.length:=by omega
     have a0:=qAY hT hlt;have k5:=l5.out _ (List.getElem_mem hlt);have d3:=qCW 5 i hlt;obtain⟨u,d7⟩:∃ u,u=ws[j]:=⟨_,rfl⟩;rw[<- d7]at a0 k5 d3;rw[qIQ]at d3;have HU:=Kh d7;have b3:=Kh d3;clear d7 d3;have m5:(strOfNums u).size=u.length:=strOfNums_size u;have H7:=qIS u;by_cases hsh:u.length<i
     ·have d9:(u.length:Int)<(i:Int):=by omega
      have c9:=Kh hsh;have HE:=Kh H7;by_cases he:u=[]
      ·have a5:(strOfNums u).toList.isEmpty=true:=by rw[H7,he];rfl
       clear H7;have b7:=Kh he;clear he hsh;rw[if_pos c9.out,if_pos b7.out]at b3;have H1:=h0.out.own.alloc (.cells #[.string (strOfNums u)] 9);go_wp2_with (at_builtin;refine app1 rfl (.tmp 110) (.tmp 114) _ rfl sW ba _ n svs rfl H1 _ (by rw[zO];rfl) rfl ?c1 ?c2 ?c3 ?_)
       case c1=>unfold maxLen;omega
       case c2=>omega
       case c3=>first|omega|(rw[zO];omega)
       intro sl1 c1 wp1 h4 H2 _;obtain⟨H0,h7⟩:=(PatsUp.mk h0.out.own h0.out.rows).push (us:=oneB u) (cs:=#[.string (strOfNums u)]) (q:=1) rfl rfl (by unfold maxLen;omega) h4 H2;have h8:=fun q (e:(Value.slice sl n c).ownBlock=some q)=>(h0.out.own.lt q e).1;have H6:=hT.kept h7 (fun q e=>.inl (h8 q e));have H4:=zB hg h7 (fun q e=>by have:=h8 q e;omega);have h5:ba<=wp1.heap.size:=by have:=h7.size;omega
       have h6:=Kh (LUp.ofPats H0);clear h4 H2 H1 h7 H0 hT hg h8 H5 h0 a0;have hT:=H6;have hg:=H4;have H5:=h5;have h0:=h6;clear H6 H4 h5 h6;obtain⟨svs1,h9⟩:∃ svs1,svs1=svs++[Value.slice (some ⟨wo.heap.size,0,none⟩) 1 1]:=⟨_,rfl⟩;rw[<- h9]at h0;clear h9;go_wp2;go_roundw
       case rel=>exact⟨j+1,_,sl1,c1,_,by go_num,by omega,rfl,by rw[b3.out];simpa using h0.out,hT,hg,H5⟩
       case measure=>simp[intOf];omega
      ·have a5:(strOfNums u).toList.isEmpty=false:=by rw[H7,List.isEmpty_eq_false_iff];exact he
       clear H7;have b7:=Kh he;clear he hsh;rw[if_pos c9.out,if_neg b7.out]at b3;have H1:=h0.out.own.alloc (.cells #[.string (strOfNums u)] 9);go_wp2_with (at_builtin;refine app1 rfl (.tmp 110) (.tmp 114) _ rfl sW ba _ n svs rfl H1 _ (by rw[zO];rfl) rfl ?c1 ?c2 ?c3 ?_)
       case c1=>unfold maxLen;omega
       case c2=>omega
       case c3=>first|omega|(rw[zO];omega)
       intro sl1 c1 wp1 h4 H2 _;obtain⟨H0,h7⟩:=(PatsUp.mk h0.out.own h0.out.rows).push (us:=oneB u) (cs:=#[.string (strOfNums u)]) (q:=1) rfl rfl (by unfold maxLen;omega) h4 H2;have h8:=fun q (e:(Value.slice sl n c).ownBlock=some q)=>(h0.out.own.lt q e).1;have H6:=hT.kept h7 (fun q e=>.inl (h8 q e));have H4:=zB hg h7 (fun q e=>by have:=h8 q e;omega);have h5:ba<=wp1.heap.size:=by have:=h7.size;omega
       have h6:=Kh (LUp.ofPats H0);clear h4 H2 H1 h7 H0 hT hg h8 H5 h0 a0;have hT:=H6;have hg:=H4;have H5:=h5;have h0:=h6;clear H6 H4 h5 h6;obtain⟨svs1,h9⟩:∃ svs1,svs1=svs++[Value.slice (some ⟨wo.heap.size,0,none⟩) 1 1]:=⟨_,rfl⟩;rw[<- h9]at h0;clear h9;have H1:=h0.out.own.alloc (.cells #[.string (strOfNums u),.string ⟨#[]⟩] 9);go_wp2_with (at_builtin;refine app1 rfl (.tmp 128) (.tmp 132) _ rfl sW ba _ (n+1) svs1 rfl H1 _ (by rw[zO];rfl) rfl ?c1 ?c2 ?c3 ?_)
       case c1=>unfold maxLen;omega
       case c2=>omega
       case c3=>first|omega|(rw[zO];omega)
       intro sl2 c2 wp2 h4 H2 _;obtain⟨H0,h7⟩:=(PatsUp.mk h0.out.own h0.out.rows).push (us:=preB u) (cs:=#[.string (strOfNums u),.string ⟨#[]⟩]) (q:=2) rfl rfl (by unfold maxLen;omega) h4 H2;have h8:=fun q (e:(Value.slice sl1 (n+1) c1).ownBlock=some q)=>(h0.out.own.lt q e).1;have H6:=hT.kept h7 (fun q e=>.inl (h8 q e));have H4:=zB hg h7 (fun q e=>by have:=h8 q e;omega);have h5:ba<=wp2.heap.size:=by have:=h7.size;omega
       have h6:=Kh (LUp.ofPats H0);clear h4 H2 H1 h7 H0 hT hg h8 H5 h0;have hT:=H6;have hg:=H4;have H5:=h5;have h0:=h6;clear H6 H4 h5 h6;obtain⟨svs2,h9⟩:∃ svs2,svs2=svs1++[Value.slice (some ⟨wp1.heap.size,0,none⟩) 2 2]:=⟨_,rfl⟩;rw[<- h9]at h0;clear h9;have H1:=h0.out.own.alloc (.cells #[.string ⟨#[]⟩,.string (strOfNums u)] 9);go_wp2_with (at_builtin;refine app1 rfl (.tmp 144) (.tmp 148) _ rfl sW ba _ ((n+1)+1) svs2 rfl H1 _ (by rw[zO];rfl) rfl ?c1 ?c2 ?c3 ?_)
       case c1=>unfold maxLen;omega
       case c2=>omega
       case c3=>first|omega|(rw[zO];omega)
       intro sl3 c3 wp3 h4 H2 _;obtain⟨H0,h7⟩:=(PatsUp.mk h0.out.own h0.out.rows).push (us:=sufB u) (cs:=#[.string ⟨#[]⟩,.string (strOfNums u)]) (q:=2) rfl rfl (by unfold maxLen;omega) h4 H2;have h8:=fun q (e:(Value.slice sl2 ((n+1)+1) c2).ownBlock=some q)=>(h0.out.own.lt q e).1;have H6:=hT.kept h7 (fun q e=>.inl (h8 q e));have H4:=zB hg h7 (fun q e=>by have:=h8 q e;omega);have h5:ba<=wp3.heap.size:=by have:=h7.size;omega
       have h6:=Kh (LUp.ofPats H0);clear h4 H2 H1 h7 H0 hT hg h8 H5 h0;have hT:=H6;have hg:=H4;have H5:=h5;have h0:=h6;clear H6 H4 h5 h6;obtain⟨svs3,h9⟩:∃ svs3,svs3=svs2++[Value.slice (some ⟨wp2.heap.size,0,none⟩) 2 2]:=⟨_,rfl⟩;rw[<- h9]at h0;clear h9;have H1:=h0.out.own.alloc (.cells #[.string ⟨#[]⟩,.string (strOfNums u),.string ⟨#[]⟩] 9);go_wp2_with (at_builtin;refine app1 rfl (.tmp 152) (.tmp 156) _ rfl sW ba _ (((n+1)+1)+1) svs3 rfl H1 _ (by rw[zO];rfl) rfl ?c1 ?c2 ?c3 ?_)
       case c1=>unfold maxLen;omega
       case c2=>omega
       case c3=>first|omega|(rw[zO];omega)
       intro sl4 c4 wp4 h4 H2 _;obtain⟨H0,h7⟩:=(PatsUp.mk h0.out.own h0.out.rows).push (us:=facB u) (cs:=#[.string ⟨#[]⟩,.string (strOfNums u),.string ⟨#[]⟩]) (q:=3) rfl rfl (by unfold maxLen;omega) h4 H2;have h8:=fun q (e:(Value.slice sl3 (((n+1)+1)+1) c3).ownBlock=some q)=>(h0.out.own.lt q e).1;have H6:=hT.kept h7 (fun q e=>.inl (h8 q e));have H4:=zB hg h7 (fun q e=>by have:=h8 q e;omega);have h5:ba<=wp4.heap.size:=by have:=h7.size;omega
       have h6:=Kh (LUp.ofPats H0);clear h4 H2 H1 h7 H0 hT hg h8 H5 h0;have hT:=H6;have hg:=H4;have H5:=h5;have h0:=h6;clear H6 H4 h5 h6;obtain⟨svs4,h9⟩:∃ svs4,svs4=svs3++[Value.slice (some ⟨wp3.heap.size,0,none⟩) 3 3]:=⟨_,rfl⟩;rw[<- h9]at h0;clear h9;go_wp2;go_roundw
       case rel=>exact⟨j+1,_,sl4,c4,_,by go_num,by omega,rfl,by rw[b3.out];simpa using h0.out,hT,hg,H5⟩
       case measure=>simp[intOf];omega
     ·have d9:¬ (u.length:Int)<(i:Int):=by omega
      have c9:=Kh hsh;have HE:=Kh H7;by_cases he:u=[]
      ·have a5:(strOfNums u).toList.isEmpty=true:=by rw[H7,he];rfl
       clear H7;have b7:=Kh he;clear he hsh;rw[if_neg c9.out,if_pos b7.out]at b3;go_wp2;go_roundw
       case rel=>exact⟨j+1,_,sl,c,_,by go_num,by omega,rfl,by rw[b3.out];simpa using h0.out,hT,hg,H5⟩
       case measure=>simp[intOf];omega
      ·have a5:(strOfNums u).toList.isEmpty=false:=by rw[H7,List.isEmpty_eq_false_iff];exact he
       clear H7;have b7:=Kh he;clear he hsh;rw[if_neg c9.out,if_neg b7.out]at b3;have H1:=h0.out.own.alloc (.cells #[.string (strOfNums u),.string ⟨#[]⟩] 9);go_wp2_with (at_builtin;refine app1 rfl (.tmp 128) (.tmp 132) _ rfl sW ba _ n svs rfl H1 _ (by rw[zO];rfl) rfl ?c1 ?c2 ?c3 ?_)
       case c1=>unfold maxLen;omega
       case c2=>omega
       case c3=>first|omega|(rw[zO];omega)
       intro sl1 c1 wp1 h4 H2 _;obtain⟨H0,h7⟩:=(PatsUp.mk h0.out.own h0.out.rows).push (us:=preB u) (cs:=#[.string (strOfNums u),.string ⟨#[]⟩]) (q:=2) rfl rfl (by unfold maxLen;omega) h4 H2;have h8:=fun q (e:(Value.slice sl n c).ownBlock=some q)=>(h0.out.own.lt q e).1;have H6:=hT.kept h7 (fun q e=>.inl (h8 q e));have H4:=zB hg h7 (fun q e=>by have:=h8 q e;omega);have h5:ba<=wp1.heap.size:=by have:=h7.size;omega
       have h6:=Kh (LUp.ofPats H0);clear h4 H2 H1 h7 H0 hT hg h8 H5 h0 a0;have hT:=H6;have hg:=H4;have H5:=h5;have h0:=h6;clear H6 H4 h5 h6;obtain⟨svs1,h9⟩:∃ svs1,svs1=svs++[Value.slice (some ⟨wo.heap.size,0,none⟩) 2 2]:=⟨_,rfl⟩;rw[<- h9]at h0;clear h9;have H1:=h0.out.own.alloc (.cells #[.string ⟨#[]⟩,.string (strOfNums u)] 9);go_wp2_with (at_builtin;refine app1 rfl (.tmp 144) (.tmp 148) _ rfl sW ba _ (n+1) svs1 rfl H1 _ (by rw[zO];rfl) rfl ?c1 ?c2 ?c3 ?_)
       case c1=>unfold maxLen;omega
       case c2=>omega
       case c3=>first|omega|(rw[zO];omega)
       intro sl2 c2 wp2 h4 H2 _;obtain⟨H0,h7⟩:=(PatsUp.mk h0.out.own h0.out.rows).push (us:=sufB u) (cs:=#[.string ⟨#[]⟩,.string (strOfNums u)]) (q:=2) rfl rfl (by unfold maxLen;omega) h4 H2;have h8:=fun q (e:(Value.slice sl1 (n+1) c1).ownBlock=some q)=>(h0.out.own.lt q e).1;have H6:=hT.kept h7 (fun q e=>.inl (h8 q e));have H4:=zB hg h7 (fun q e=>by have:=h8 q e;omega);have h5:ba<=wp2.heap.size:=by have:=h7.size;omega
       have h6:=Kh (LUp.ofPats H0);clear h4 H2 H1 h7 H0 hT hg h8 H5 h0;have hT:=H6;have hg:=H4;have H5:=h5;have h0:=h6;clear H6 H4 h5 h6;obtain⟨svs2,h9⟩:∃ svs2,svs2=svs1++[Value.slice (some ⟨wp1.heap.size,0,none⟩) 2 2]:=⟨_,rfl⟩;rw[<- h9]at h0;clear h9;have H1:=h0.out.own.alloc (.cells #[.string ⟨#[]⟩,.string (strOfNums u),.string ⟨#[]⟩] 9);go_wp2_with (at_builtin;refine app1 rfl (.tmp 152) (.tmp 156) _ rfl sW ba _ ((n+1)+1) svs2 rfl H1 _ (by rw[zO];rfl) rfl ?c1 ?c2 ?c3 ?_)
       case c1=>unfold maxLen;omega
       case c2=>omega
       case c3=>first|omega|(rw[zO];omega)
       intro sl3 c3 wp3 h4 H2 _;obtain⟨H0,h7⟩:=(PatsUp.mk h0.out.own h0.out.rows).push (us:=facB u) (cs:=#[.string ⟨#[]⟩,.string (strOfNums u),.string ⟨#[]⟩]) (q:=3) rfl rfl (by unfold maxLen;omega) h4 H2;have h8:=fun q (e:(Value.slice sl2 ((n+1)+1) c2).ownBlock=some q)=>(h0.out.own.lt q e).1;have H6:=hT.kept h7 (fun q e=>.inl (h8 q e));have H4:=zB hg h7 (fun q e=>by have:=h8 q e;omega);have h5:ba<=wp3.heap.size:=by have:=h7.size;omega
       have h6:=Kh (LUp.ofPats H0);clear h4 H2 H1 h7 H0 hT hg h8 H5 h0;have hT:=H6;have hg:=H4;have H5:=h5;have h0:=h6;clear H6 H4 h5 h6;obtain⟨svs3,h9⟩:∃ svs3,svs3=svs2++[Value.slice (some ⟨wp2.heap.size,0,none⟩) 3 3]:=⟨_,rfl⟩;rw[<- h9]at h0;clear h9;go_wp2;go_roundw
       case rel=>exact⟨j+1,_,sl3,c3,_,by go_num,by omega,rfl,by rw[b3.out];simpa using h0.out,hT,hg,H5⟩
       case measure=>simp[intOf];omega
    ·obtain rfl:j=ws.length:=by omega
     rw[List.take_length]at h0;have b5:Hid (refL 5 L i M=genL 5 i ws++[]):=Kh (by rw[refL,l4.out];rfl);clear hlt hj;rw[List.append_nil]at b5;clear hT;rw[<- b5.out]at h0;obtain⟨RL,f7⟩:∃ RL,RL=refL 5 L i M:=⟨_,rfl⟩;have H9:=Kh f7;rw[<- f7]at h0;clear f7 b5;have i1:=h0.out.len;by_cases hlim:300<n
     ·have b2:(300:Int)<(n:Int):=by omega
      have H3:=Kh (jM HO.out (.inr (g0.out.2 (j4.out.1 (by rw[<- H9.out];omega)))));clear hlim;go_wp2;refine bodyPost_ret (v:=.tuple #[.slice none 0 0,.int .i64 3]) (by simp[results,Try.results45,go_sem]) rfl ?_;rw[H3.out.1,H3.out.2];exact mE.nil hg
     have b2:¬ (300:Int)<(n:Int):=(by omega);have k0:=Kh (bY HO.out (fun h=>absurd h.1 (by decide)) (fun h=>by have:=j4.out.2 (g0.out.1 h);rw[<- H9.out]at this;omega));have j7:Hid RL.Nodup:=Kh (by rw[H9.out];exact qBK (by decide) (by decide) (by rw[<- H9.out];omega));have g6:Hid (∀ ps,rH ps->ps.Perm RL->ps=famP 5 L i M):=Kh (fun ps h1 h2=>cZ (by decide) (by decide) (by rw[<- H9.out];omega) h1 (by rw[<- H9.out];exact h2));have j6:Hid (∀ p∈RL,okP p):=Kh (fun p hp=>by rw[H9.out]at hp;exact qGI hl6 hk8 (by omega) hp);have c7:n<=300:=by omega
     have l8:=Kh i1;clear hlim i1 H9;obtain⟨NL,j2⟩:∃ NL,NL=n:=⟨_,rfl⟩;rw[<- j2]at h0 l8 c7 b2 ⊢;clear j2;obtain⟨SL,j0⟩:∃ SL,SL=sl:=⟨_,rfl⟩;rw[<- j0]at h0 ⊢;clear j0;obtain⟨SC,j1⟩:∃ SC,SC=c:=⟨_,rfl⟩;rw[<- j1]at h0 ⊢;clear j1;go_wp2
     go_loopg [194] NL (fun gh iv wx=>∃ (q:Nat) (sv:List Value) (ps:List (List (List Int))),gh+q=NL/\iv=.int .i64 (q:Int)/\LUp 28 ba wx (.slice SL NL SC) NL sv ps/\Hid (rH (ps.take q)/\ps.Perm RL)/\w.grownBy wx none)
     case atStart=>exact⟨0,_,_,rfl,rfl,h0.out,Kh ⟨by simp[rH],List.Perm.refl _⟩,hg⟩
     case round =>
      clear h0 hg;obtain⟨q,sv,ps,c5,rfl,H8,b8,hg⟩:=hrel;obtain⟨wa,rfl⟩:∃ wa:World,wa=wr:=⟨_,rfl⟩;have a7:=Kh c5;have h0:=Kh H8;clear c5;by_cases hq:q<NL
      ·have m6:(q:Int)<(NL:Int):=by omega
       rcases id H8.own.2 with ⟨_,e2⟩|⟨g,cap,cur,e1,hgb,_,hnc,hcm,_,_⟩
       ·omega
       simp only[Value.slice.injEq]at e1;obtain⟨rfl,_,rfl⟩:=e1;have l3:SC<=9223372036854775807:=by unfold maxLen at hcm;omega
       have m3:w.heap.size<=g:=by omega
       have j9:Hid (InsI RL ps q q):=Kh (qCM b8.out.1 (by have:=H8.len;omega) b8.out.2);clear H8 b8 hcm;go_wp2
       go_loopg [21] q (fun gh jv wx=>∃ (j:Nat) (sv:List Value) (ps:List (List (List Int))),j=gh/\j<=q/\jv=.int .i64 (j:Int)/\LUp 28 ba wx (.slice (some ⟨g,0,none⟩) NL SC) NL sv ps/\Hid (InsI RL ps q j)/\w.grownBy wx none)
       case atStart=>exact⟨q,sv,ps,rfl,Nat.le_refl _,rfl,h0.out,j9,hg⟩
       case round =>
        clear h0 j9 hg;obtain⟨j,sv,ps,rfl,m9,rfl,H8,b9,hg⟩:=hrel;obtain⟨wb,rfl⟩:∃ wb:World,wb=wr:=⟨_,rfl⟩;by_cases hj0:j=0
        ·subst hj0
         have h0:=Kh H8;clear H8;go_wp2
         go_quiet (fail)
         go_wp2;go_roundg (NL - (q+1))
         case measure=>have:=a7.out;omega
         case rel=>exact⟨q+1,sv,ps,by have:=a7.out;omega,by go_num,h0.out.kept (zN wb _ none) (by simp),Kh (gU b9.out j7.out (.inl rfl)),zB hg (zN wb _ none) (by simp)⟩
        ·obtain⟨k,i5⟩:∃ k,j=k+1:=⟨j - 1,by omega⟩
         obtain⟨a1,d1,p1,e3,e7,b1,g9⟩:=H8.at (i:=k) (by omega);obtain⟨a2,d2,p2,e0,e6,b0,g8⟩:=H8.at (i:=j) (by omega);obtain⟨A0,x0,B0,C0,e4,_,_,_,_,a3⟩:=b9.out;have f0:=j6.out p1 (a3.mem_iff.1 (List.mem_of_getElem? e7));have e8:=j6.out p2 (a3.mem_iff.1 (List.mem_of_getElem? e6));clear e4 a3;have a4:wb.grownBy wb.drew none:=zP wb none;have b6:=Kh (qEX wb.heap.size wb.heap.size wb.drew (.slice a2 p2.length d2) (.slice a1 p1.length d1) p2 p1 (g8.kept a4 (by simp)).row (g9.kept a4 (by simp)).row e8.2 f0.2 e8.1 f0.1);have h0:=Kh H8;have l1:(0:Int)<(j:Int):=(by omega);have f4:0<j:=(by omega);have n3:decide ((0:Int)<(j:Int))=true:=decide_eq_true l1;have n0:decide (0<j)=true:=decide_eq_true f4;have m8:(j:Int)<(NL:Int):=(by omega);have k9:(k:Int)<(NL:Int):=(by omega);have m2:IntKind.i64.wrap ((j:Int) - 1)=(k:Int):=by rw[IntWalk.i64_in _ (by omega)];omega
         have k3:IntKind.i64.wrap (k:Int)=(k:Int):=IntWalk.i64_in _ (by omega);have l0:(0:Int)<=(k:Int):=by omega
         have i4:(k:Int)<=300:=by omega
         have k7:(j:Int) - 1=(k:Int):=by omega
         have c0:=Kh i5;have d6:Hid (∀ W,wb.drew.grownBy W none->W.cell? ⟨g,j,none⟩=some (.slice a2 p2.length d2)/\W.cell? ⟨g,k,none⟩=some (.slice a1 p1.length d1)):=Kh (fun W hW=>⟨xD (xD b0 a4) hW,xD (xD b1 a4) hW⟩);obtain⟨n2,i2⟩:∃ n2,n2=p2.length:=⟨_,rfl⟩;obtain⟨n1,i3⟩:∃ n1,n1=p1.length:=⟨_,rfl⟩;rw[<- i3]at e3 b1 b6 d6;rw[<- i2]at e0 b0 b6 d6;have l6:=Kh e3;have d5:=Kh e0;have g3:=Kh e7;have g2:=Kh e6;clear H8 g9 g8 f0 e8 e3 e0 e7 e6 i3 i2 i5 hj0;cases hle:wX p2 p1 with
         | false =>
          rw[hle]at b6;have m1:=Kh (gU b9.out j7.out (.inr ⟨k,p1,p2,c0.out,g3.out,by rw[<- c0.out];exact g2.out,hle⟩));clear hle b9;go_wp2
          go_region_held3 (fun W=>W.cell? ⟨g,j,none⟩=some (.slice a2 n2 d2)/\W.cell? ⟨g,k,none⟩=some (.slice a1 n1 d1))
           (first|go_keep|exact d6.out _ a6|fail)
           (first|(go_at_call 78;(with_reducible refine b6.out.mono ?_);rintro e w7 ⟨rfl,a6⟩)|fail)
          go_wp2;go_roundg (NL - (q+1))
          case measure=>have:=a7.out;omega
          case rel=>exact⟨q+1,sv,ps,by have:=a7.out;omega,by go_num,(h0.out.kept a4 (by simp)).kept a6 (by simp),m1,zB (zB hg a4 (by simp)) a6 (by simp)⟩
         | true =>
          rw[hle]at b6;have g1:=Kh (qFC (by rw[<- c0.out];exact b9.out) g3.out (by rw[<- c0.out];exact g2.out) hle);clear hle b9;go_wp2
          go_region_held3 (fun W=>W.cell? ⟨g,j,none⟩=some (.slice a2 n2 d2)/\W.cell? ⟨g,k,none⟩=some (.slice a1 n1 d1))
           (first|go_keep|exact d6.out _ a6|fail)
           (first|(go_at_call 78;(with_reducible refine b6.out.mono ?_);rintro e w7 ⟨rfl,a6⟩)|fail)
          have b4:=(h0.out.kept a4 (by simp)).kept a6 (by simp);have i6:=zB (zB hg a4 (by simp)) a6 (by simp);have k1:=xD (xD b1 a4) a6;have k2:=xD (xD b0 a4) a6;rcases id b4.own.2 with ⟨e1,_⟩|⟨g',cap,cur,e1,_,hgk,_,_,_,_⟩
          ·simp at e1
          simp only[Value.slice.injEq,Option.some.injEq,Addr.mk.injEq,and_true]at e1;obtain⟨rfl,_,rfl⟩:=e1;have f1:=frozen_of_row w7 g k _ _ hgk;have f2:=frozen_of_row w7 g j _ _ hgk;have g4:=Kh b4;have m0:=Kh i6;have n8:=Kh hgk;clear b4 i6 hgk hg a4 a6 b1 b0 h0 b6;go_wp2
          go_region
          all_goals
           go_wp2;go_roundg k
           case measure=>have:=c0.out;omega
           case rel =>
            have e9:=c0.out;subst e9;obtain⟨k6,l2⟩:=g4.out.drewN.swap l6.out d5.out g3.out g2.out (W:=_) (by first|exact .inl rfl|exact .inr rfl);exact⟨k,_,_,rfl,by omega,by go_num,k6,g1,zB (zB m0.out (zP w7 none) (by simp)) l2 (fun x e=>by have:g=x:=Oj e;omega)⟩
      ·obtain rfl:q=NL:=by have:=a7.out;omega
       have e5:=H8.len;have i0:ps=famP 5 L i M:=g6.out ps (by have:=b8.out.1;rwa [e5,List.take_length]at this) b8.out.2;have l7:=Kh i0;have j5:=Kh e5;clear i0 e5 H8 b8;go_wp2;refine bodyPost_ret (v:=.tuple #[.slice SL q SC,.int .i64 0]) (by simp[results,Try.results45,go_sem]) rfl ?_;rw[k0.out.1,k0.out.2,<- l7.out];exact⟨SL,SC,sv,by rw[<- j5.out],by rw[<- j5.out];exact RowT.of_owns h0.out.own,h0.out.rows,hg⟩
theorem rfam6_any (L K M:Nat)(w:World)(hl1:1<=L)(hl6:L<=6)(hk1:1<=K)(hk8:K<=8)(hm:M=0):
  Calls Try.prog 45 #[.int .i64 6,.int .i64 L,.int .i64 K,.int .i64 M] w (mE w (famE 6 L K M) (famL 6 L K M)):=by
 have i7:=Kh (xU w (L:Int));rw[decide_eq_true (show 1<=(L:Int)/\(L:Int)<=6 by omega)]at i7;have ho:kA 6 L K M=true:=by simp[kA];omega
 have HO:=Kh ho;have i3:=Kh (qGE (kind:=6) (letters:=L) (k:=K) (m:=M) (by decide) (by decide) hl1 (fun _=>by omega));have l4:=Kh (qGH (kind:=6) (letters:=L) (k:=K) (by decide) (by decide) M);have p5:=Kh (qHB (kind:=6) (L:=L) (K:=K) M);have q4:((M:Int) != 0)=false:=by rw[hm];rfl
 clear ho;by_cases h6:8<(K:Int)+2
 ·have h3:=jM HO.out (.inl ⟨rfl,h6⟩)
  have H3:=Kh h3;clear h3;go_enter Try.func45,Try.ntmps45;go_wp2_with fail;refine i7.out.mono ?_;rintro e w ⟨rfl,rfl⟩;go_wp2;refine bodyPost_ret (v:=.tuple #[.slice none 0 0,.int .i64 3]) (by simp[results,Try.results45,go_sem]) rfl ?_;rw[H3.out.1,H3.out.2];exact mE.nil (zM _ _)
 have i2:Hid (∀ i,i<=K->(upTo L (i+1)).length<=20000000):=Kh (fun i hi=>by have:=lR L hl6 (i+1) (by omega);omega);go_enter Try.func45,Try.ntmps45;go_wp2_with fail;refine i7.out.mono ?_;rintro e w ⟨rfl,rfl⟩;go_wp2
 go_loopg [11,12,13] K (fun gh vc vi vp wr=>∃ i:Nat,gh+i=K/\vc=.int .i64 (((upTo L (i+1)).length:Nat):Int)/\vi=.int .i64 (i:Int)/\vp=.int .i64 ((L ^ i:Nat):Int)/\w=wr)
 case atStart=>exact⟨0,rfl,by rw[wF,List.length_append,uN];simp[upTo],rfl,rfl,rfl⟩
 case round =>
  obtain⟨i,a8,rfl,rfl,rfl,rfl⟩:=hrel;have H5:=Kh a8;clear a8;have k9:=i2.out i (by have:=H5.out;omega);by_cases hlt:i<K
  ·have g4:(i:Int)<(K:Int):=by omega
   have k8:=i2.out (i+1) (by omega);have f5:=kP L i;rw[f5]at k8;have i4:=Kh f5;obtain⟨CN,e5⟩:∃ CN,CN=(upTo L (i+1)).length:=⟨_,rfl⟩;obtain⟨PW,i1⟩:∃ PW,PW=L ^ i:=⟨_,rfl⟩;obtain⟨P2,d0⟩:∃ P2,P2=L ^ i * L:=⟨_,rfl⟩;have n5:(PW:Int) * (L:Int)=(P2:Int):=by rw[d0,i1];push_cast;rfl
   have e8:Hid ((upTo L (i+1+1)).length=CN+P2/\L ^ (i+1)=P2):=Kh ⟨by rw[i4.out,e5,d0],by rw[d0,Nat.pow_succ]⟩;rw[<- d0,<- e5]at k8;rw[<- e5,<- i1];clear f5 e5 i1 d0 k9;go_wp2;go_roundg (K - (i+1))
   case measure=>have:=H5.out;omega
   case rel=>exact⟨i+1,by have:=H5.out;omega,by rw[e8.out.1];go_num,by go_num,by rw[e8.out.2],rfl⟩
  ·obtain rfl:i=K:=by have:=H5.out;omega
   clear hlt i2;obtain⟨ws,H6⟩:∃ ws,ws=xH L i:=⟨_,rfl⟩;have o3:=Kh H6;have d6:upTo L (i+1)=ws:=H6.symm;rw[d6]at k9 ⊢;have i9:Hid (ws.length<=(famP 6 L i M).length+1):=Kh (by rw[H6];exact p5.out);have q0:1<=ws.length:=by rw[H6];exact aI hl1
   have r3:Hid (1<=i->2<=ws.length):=Kh (fun h=>by rw[H6];exact qDZ hl1 h);have r1:Hid (∀ r (h:r<ws.length),(ws[r]=[] ↔ r=0)):=Kh (by subst H6;exact fun r h=>gZ h);have o4:Hid (∀ u∈ws,u.length<=8):=Kh (by subst H6;exact fun u hu=>gY hk8 hu);have o8:Hid (∀ u∈ws,okW u):=Kh (by subst H6;exact fun u hu=>okB hl6 (n:=i+1) hu);have e6:Hid (ws.length<=301->Calls Try.prog 76 #[.int .i64 L,.int .i64 i] w (qHY w ws)):=Kh (fun h=>by rw[<- d6];exact qDY L i w hl1 hl6 hk8 (by rw[d6];omega));clear H6 d6;by_cases hbig:300<(ws.length:Int) - 1
   ·have h3:=jM HO.out (.inr (i3.out.2 (by have:=i9.out;omega)))
    have H3:=Kh h3;clear h3;go_wp2;refine bodyPost_ret (v:=.tuple #[.slice none 0 0,.int .i64 3]) (by simp[results,Try.results45,go_sem]) rfl ?_;rw[H3.out.1,H3.out.2];exact mE.nil (zM _ _)
   have d4:=Kh (e6.out (by omega));clear e6;go_wp2_with fail;refine d4.out.mono ?_;rintro e w1 ⟨sa,sc,rfl,H7,g7⟩;obtain⟨b,off,rfl,r0,k6⟩:=cH H7 (by omega);have q9:sc<=9223372036854775807:=by unfold maxLen at k6;omega
   have j3:ws.length<=301:=by omega
   clear d4 k6 hbig;obtain⟨ba,g8⟩:∃ ba,ba=w1.heap.size:=⟨_,rfl⟩;rw[<- g8]at H7;have e4:ba<=w1.heap.size:=by omega
   have m5:w.heap.size<=ba:=by rw[g8];exact g7.size
   clear g8;go_wp2
   go_loopw [15,90] (fun v iv wr=>∃ (j n:Nat) (sl:Option Addr) (c:Nat) (svs:List Value),iv=.int .i64 (j:Int)/\j<=ws.length/\v=.slice sl n c /\
     LUp 28 ba wr (.slice sl n c) n svs (genL 6 i (ws.take j))/\RowT ba 9 wr (.slice (some ⟨b,off,none⟩) ws.length sc) (strs ws)/\w.grownBy wr none/\ba<=wr.heap.size)
    (fun _ iv _=>ws.length - (intOf iv).toNat)
   case atStart=>exact⟨0,0,none,0,[],rfl,Nat.zero_le _,rfl,by simpa [genL] using LUp.nil (by decide) _ _,H7,g7,e4⟩
   case round =>
    clear H7 g7 e4;obtain⟨j,n,sl,c,svs,rfl,hj,rfl,h8,hT,hg,e4⟩:=hrel;obtain⟨wo,rfl⟩:∃ wo:World,wo=wr:=⟨_,rfl⟩
    have hn:n<=1600:=by
     have h1:=h8.len;have h2:=qAH 6 i (ws.take j);rw[List.length_take]at h2;omega
    have h0:=Kh h8;clear h8;by_cases hlt:j<ws.length
    ·have g4:(j:Int)<ws.length:=by omega
     have a9:=qAY hT hlt;have m6:=o4.out _ (List.getElem_mem hlt);have d8:=qCW 6 i hlt;obtain⟨u,f4⟩:∃ u,u=ws[j]:=⟨_,rfl⟩;rw[<- f4]at a9 m6 d8;rw[qIP]at d8;have HU:=Kh f4;have e7:=Kh d8;clear f4 d8;have q1:(strOfNums u).size=u.length:=strOfNums_size u;have H9:=qIS u;by_cases he:u=[]
     ·have c9:(strOfNums u).toList.isEmpty=true:=by rw[H9,he];rfl
      clear H9;have j1:=Kh he;clear he;rw[if_pos j1.out,List.append_nil]at e7;go_wp2;go_roundw
      case rel=>exact⟨j+1,_,sl,c,_,by go_num,by omega,rfl,by rw[e7.out];exact h0.out,hT,hg,e4⟩
      case measure=>simp[intOf];omega
     ·have c9:(strOfNums u).toList.isEmpty=false:=by rw[H9,List.isEmpty_eq_false_iff];exact he
      clear H9;have j1:=Kh he;clear he;rw[if_neg j1.out]at e7;have o9:=Kh (o8.out u (by rw[HU.out];exact List.getElem_mem hlt));have g0:wo.grownBy (wo.alloc (.cells #[.string ⟨#[]⟩] 9)) none:=Ga _ _ _;have ho:=World.ownsRow_lit (e:=9) (size:=1) wo #[.string ⟨#[]⟩] 1 (Nat.le_refl _) (by unfold maxLen;omega) (by simp)
      have k4:((wo.alloc (.cells #[.string ⟨#[]⟩] 9)).iter (strOfNums u) 0).heap[wo.heap.size+1]?=some (.stringIter (strOfNums u) 0):=by
       have:=World.iter_heap (wo.alloc (.cells #[.string ⟨#[]⟩] 9)) (strOfNums u) 0
       rwa [zO]at this
      have l7:=Kh (ho.alloc (.stringIter (strOfNums u) 0));have l9:=Kh k4;have m1:=Kh (xR g0 (.stringIter (strOfNums u) 0));clear ho k4 g0;go_wp2
      go_loopg [18] u.length (fun gh v wq=>∃ (p:Nat) (sb:Option Addr) (cb:Nat),gh+p=u.length/\v=.slice sb (1+p) cb/\wq.ownsRow wo.heap.size 9 1 (.slice sb (1+p) cb) (1+p) (strs (oM u p))/\wq.heap[wo.heap.size+1]?=some (.stringIter (strOfNums u) p)/\wo.grownBy wq none)
      case atStart=>exact⟨0,_,_,rfl,rfl,l7.out,l9.out,m1.out⟩
      case round =>
       clear l7 l9 m1;obtain⟨p,sb,cb,a8,rfl,h4,H0,c8⟩:=hrel;obtain⟨wq,rfl⟩:∃ wq:World,wq=wr:=⟨_,rfl⟩;have b4:=Kh a8;clear a8;by_cases a5:p<u.length
       ·have a4:p<(strOfNums u).size:=by omega
        have c4:∀ ty,(Instr.next (.pointer (some ⟨wo.heap.size+1,0,none⟩)) true ty).run Try.prog wq=_:=fun ty=>Lib.run_next_ascii_at wq (wo.heap.size+1) (strOfNums u) p ty H0 a4 (str_ascii o9.out a5 a4);have o0:=extract_one u p a5;have b1:=Lib.iterAt_heap wq (wo.heap.size+1) (strOfNums u) p (p+1) H0;have g6:=grown_iterAt wq (wo.heap.size+1) (strOfNums u) (p+1);have h7:=h4.kept g6 (.inr (iV h4 H0).symm);have H8:=zB c8 g6 (fun q e=>by have:=Oj e;omega);obtain⟨BY,l3⟩:∃ BY:Nat,BY=((strOfNums u)[p]'a4).toNat:=⟨_,rfl⟩;rw[<- l3]at c4;obtain⟨wi,j2⟩:∃ wi,wq.iterAt (wo.heap.size+1) (strOfNums u) (p+1)=wi:=⟨_,rfl⟩;rw[j2]at c4 b1 h7 H8;have d5:=Kh b1;have n3:(p:Int)+1<=8:=by omega
        have q3:(p:Int)<((strOfNums u).size:Int):=(by omega);have n4:(p:Int)+1<=((strOfNums u).size:Int):=by omega
        clear l3 j2 g6 h4 H0 c8 b1;go_wp2_with (at_builtin;refine app1 rfl (.tmp 166) (.tmp 172) _ rfl lB wo.heap.size _ (1+p) (strs (oM u p)) rfl h7 _ rfl rfl ?c1 ?c2 ?c3 ?_)
        case c1=>unfold maxLen;omega
        case c2=>omega
        case c3=>exact H8.size
        intro sb' cb' w3 h5 b8 _;have k7:=fun q (e:(Value.slice sb (1+p) cb).ownBlock=some q)=>(h7.lt q e).1;have b7:=zB H8 b8 k7;have c7:=zA d5.out b8 (fun e=>iV h7 d5.out e.symm)
        have e1:strs (oM u (p+1))=strs (oM u p)++[.string (strOfNums [u[p]])]:=by
         rw[oM,oM,List.take_succ_eq_append_getElem a5,List.map_append,<- List.append_assoc,lU];rfl
        have HE:=Kh e1;have p0:=Kh h5;have p4:=Kh c7;clear h7 H8 b8 o0 e1 h5 c7 c4 k7;go_wp2;go_roundg (u.length - (p+1))
        case measure=>have:=b4.out;omega
        case rel=>exact⟨p+1,sb',cb',by have:=b4.out;omega,rfl,by rw[HE.out];exact p0.out,p4.out,b7⟩
       ·obtain⟨ub,d7⟩:∃ ub,ub=oM u p:=⟨_,rfl⟩
        have n0:p=u.length:=by have:=b4.out;omega
        have f3:ub.length=1+p:=by rw[d7];simp[oM];omega
        have c0:rJ u=ub++[[]]:=by rw[d7,oM,List.take_of_length_le (by omega)];rfl
        have a4:¬ p<(strOfNums u).size:=(by omega);have n3:p<=8:=by omega
        have c4:∀ ty,(Instr.next (.pointer (some ⟨wo.heap.size+1,0,none⟩)) true ty).run Try.prog wq=_:=fun ty=>Lib.run_next_end_at wq (wo.heap.size+1) (strOfNums u) p ty H0 a4;rw[<- d7]at h4;have e6:=Kh c0;clear d7 f3 c0 n0 H0 a5;go_wp2_with (at_builtin;refine app1 rfl (.tmp 175) (.tmp 176) _ rfl lB wo.heap.size _ (1+p) (strs ub) rfl h4 _ rfl rfl ?c1 ?c2 ?c3 ?_)
        case c1=>unfold maxLen;omega
        case c2=>omega
        case c3=>exact c8.size
        intro sb' cb' w3 h5 b8 _;have b7:=zB c8 b8 (fun q e=>(h4.lt q e).1);have e3:strs ub++[.string ⟨#[]⟩]=strs (rJ u):=by rw[e6.out,lU];rfl
        rw[e3]at h5;have c6:=h0.out.kept b7 (by simp);have m9:=b7.size;clear h4 b8 c8 c4 e3;go_wp2_with (at_builtin;refine app1 rfl (.tmp 174) (.tmp 179) _ rfl sW ba _ n svs rfl c6.own _ rfl rfl ?c1 ?c2 ?c3 ?_)
        case c1=>unfold maxLen;omega
        case c2=>omega
        case c3=>omega
        intro sl5 c5 w5 a6 k5 _;obtain⟨j6,e0⟩:=h0.out.push (us:=rJ u) b7 h5 a6 k5;have g9:=fun q (e:(Value.slice sl n c).ownBlock=some q)=>(h0.out.own.lt q e).1;have o1:=hT.kept e0 (fun q e=>.inl (g9 q e));have d9:=zB hg e0 (fun q e=>by have:=g9 q e;omega);have m3:ba<=w5.heap.size:=by have:=e0.size;omega
        have o7:=Kh j6;clear h5 a6 b7 k5 e0 c6 j6 hT hg g9 h0 m9 a9;go_wp2;go_roundw
        case rel=>exact⟨j+1,n+1,sl5,c5,_,by go_num,by omega,rfl,by rw[e7.out];exact o7.out,o1,d9,m3⟩
        case measure=>simp[intOf];omega
    ·obtain rfl:j=ws.length:=by omega
     rw[List.take_length]at h0;have b2:Hid (refL 6 L i M=genL 6 i ws++[]):=Kh (by rw[refL,o3.out];rfl);clear hlt hj;rw[List.append_nil]at b2;clear hT;rw[<- b2.out]at h0;obtain⟨RL,i0⟩:∃ RL,RL=refL 6 L i M:=⟨_,rfl⟩;have h9:=Kh i0;rw[<- i0]at h0;clear i0 b2;have j7:=h0.out.len;by_cases hlim:300<n
     ·have a7:(300:Int)<(n:Int):=by omega
      have H3:=Kh (jM HO.out (.inr (i3.out.2 (l4.out.1 (by rw[<- h9.out];omega)))));clear hlim;go_wp2;refine bodyPost_ret (v:=.tuple #[.slice none 0 0,.int .i64 3]) (by simp[results,Try.results45,go_sem]) rfl ?_;rw[H3.out.1,H3.out.2];exact mE.nil hg
     have a7:¬ (300:Int)<(n:Int):=(by omega);have m2:=Kh (bY HO.out (fun h=>by omega) (fun h=>by have:=l4.out.2 (i3.out.1 h);rw[<- h9.out]at this;omega));have l8:Hid RL.Nodup:=Kh (by rw[h9.out];exact qBK (by decide) (by decide) (by rw[<- h9.out];omega));have j0:Hid (∀ ps,rH ps->ps.Perm RL->ps=famP 6 L i M):=Kh (fun ps h1 h2=>cZ (by decide) (by decide) (by rw[<- h9.out];omega) h1 (by rw[<- h9.out];exact h2));have l6:Hid (∀ p∈RL,okP p):=Kh (fun p hp=>by rw[h9.out]at hp;exact qGI hl6 hk8 (by omega) hp);have d3:n<=300:=by omega
     have p3:=Kh j7;clear hlim j7 h9;obtain⟨NL,l2⟩:∃ NL,NL=n:=⟨_,rfl⟩;rw[<- l2]at h0 p3 d3 a7 ⊢;clear l2;obtain⟨SL,l0⟩:∃ SL,SL=sl:=⟨_,rfl⟩;rw[<- l0]at h0 ⊢;clear l0;obtain⟨SC,l1⟩:∃ SC,SC=c:=⟨_,rfl⟩;rw[<- l1]at h0 ⊢;clear l1;go_wp2
     go_loopg [194] NL (fun gh iv wx=>∃ (q:Nat) (sv:List Value) (ps:List (List (List Int))),gh+q=NL/\iv=.int .i64 (q:Int)/\LUp 28 ba wx (.slice SL NL SC) NL sv ps/\Hid (rH (ps.take q)/\ps.Perm RL)/\w.grownBy wx none)
     case atStart=>exact⟨0,_,_,rfl,rfl,h0.out,Kh ⟨by simp[rH],List.Perm.refl _⟩,hg⟩
     case round =>
      clear h0 hg;obtain⟨q,sv,ps,a8,rfl,h8,b5,hg⟩:=hrel;obtain⟨wa,rfl⟩:∃ wa:World,wa=wr:=⟨_,rfl⟩;have H5:=Kh a8;have h0:=Kh h8;clear a8;by_cases hq:q<NL
      ·have q2:(q:Int)<(NL:Int):=by omega
       rcases id h8.own.2 with ⟨_,e2⟩|⟨g,cap,cur,e1,hgb,_,hnc,hcm,_,_⟩
       ·omega
       simp only[Value.slice.injEq]at e1;obtain⟨rfl,_,rfl⟩:=e1;have o2:SC<=9223372036854775807:=by unfold maxLen at hcm;omega
       have p9:w.heap.size<=g:=by omega
       have m0:Hid (InsI RL ps q q):=Kh (qCM b5.out.1 (by have:=h8.len;omega) b5.out.2);clear h8 b5 hcm;go_wp2
       go_loopg [21] q (fun gh jv wx=>∃ (j:Nat) (sv:List Value) (ps:List (List (List Int))),j=gh/\j<=q/\jv=.int .i64 (j:Int)/\LUp 28 ba wx (.slice (some ⟨g,0,none⟩) NL SC) NL sv ps/\Hid (InsI RL ps q j)/\w.grownBy wx none)
       case atStart=>exact⟨q,sv,ps,rfl,Nat.le_refl _,rfl,h0.out,m0,hg⟩
       case round =>
        clear h0 m0 hg;obtain⟨j,sv,ps,rfl,q6,rfl,h8,b6,hg⟩:=hrel;obtain⟨wb,rfl⟩:∃ wb:World,wb=wr:=⟨_,rfl⟩;by_cases hj0:j=0
        ·subst hj0
         have h0:=Kh h8;clear h8;go_wp2
         go_quiet (fail)
         go_wp2;go_roundg (NL - (q+1))
         case measure=>have:=H5.out;omega
         case rel=>exact⟨q+1,sv,ps,by have:=H5.out;omega,by go_num,h0.out.kept (zN wb _ none) (by simp),Kh (gU b6.out l8.out (.inl rfl)),zB hg (zN wb _ none) (by simp)⟩
        ·obtain⟨k,k3⟩:∃ k,j=k+1:=⟨j - 1,by omega⟩
         obtain⟨a1,d1,p1,f7,g1,a3,j5⟩:=h8.at (i:=k) (by omega);obtain⟨a2,d2,p2,f6,f9,a0,j4⟩:=h8.at (i:=j) (by omega);obtain⟨A0,x0,B0,C0,f8,_,_,_,_,H1⟩:=b6.out;have g3:=l6.out p1 (H1.mem_iff.1 (List.mem_of_getElem? g1));have g2:=l6.out p2 (H1.mem_iff.1 (List.mem_of_getElem? f9));clear f8 H1;have H2:wb.grownBy wb.drew none:=zP wb none;have b3:=Kh (qEX wb.heap.size wb.heap.size wb.drew (.slice a2 p2.length d2) (.slice a1 p1.length d1) p2 p1 (j4.kept H2 (by simp)).row (j5.kept H2 (by simp)).row g2.2 g3.2 g2.1 g3.1);have h0:=Kh h8;have n8:(0:Int)<(j:Int):=(by omega);have g5:0<j:=(by omega);have q8:decide ((0:Int)<(j:Int))=true:=decide_eq_true n8;have q7:decide (0<j)=true:=decide_eq_true g5;have q5:(j:Int)<(NL:Int):=(by omega);have n6:(k:Int)<(NL:Int):=(by omega);have p8:IntKind.i64.wrap ((j:Int) - 1)=(k:Int):=by rw[IntWalk.i64_in _ (by omega)];omega
         have m4:IntKind.i64.wrap (k:Int)=(k:Int):=IntWalk.i64_in _ (by omega);have n7:(0:Int)<=(k:Int):=by omega
         have k0:(k:Int)<=300:=by omega
         have m8:(j:Int) - 1=(k:Int):=by omega
         have b9:=Kh k3;have f0:Hid (∀ W,wb.drew.grownBy W none->W.cell? ⟨g,j,none⟩=some (.slice a2 p2.length d2)/\W.cell? ⟨g,k,none⟩=some (.slice a1 p1.length d1)):=Kh (fun W hW=>⟨xD (xD a0 H2) hW,xD (xD a3 H2) hW⟩);obtain⟨n2,j8⟩:∃ n2,n2=p2.length:=⟨_,rfl⟩;obtain⟨n1,j9⟩:∃ n1,n1=p1.length:=⟨_,rfl⟩;rw[<- j9]at f7 a3 b3 f0;rw[<- j8]at f6 a0 b3 f0;have o5:=Kh f7;have e8:=Kh f6;have i6:=Kh g1;have i5:=Kh f9;clear h8 j5 j4 g3 g2 f7 f6 g1 f9 j9 j8 k3 hj0;cases hle:wX p2 p1 with
         | false =>
          rw[hle]at b3;have p7:=Kh (gU b6.out l8.out (.inr ⟨k,p1,p2,b9.out,i6.out,by rw[<- b9.out];exact i5.out,hle⟩));clear hle b6;go_wp2
          go_region_held3 (fun W=>W.cell? ⟨g,j,none⟩=some (.slice a2 n2 d2)/\W.cell? ⟨g,k,none⟩=some (.slice a1 n1 d1))
           (first|go_keep|exact f0.out _ H4|fail)
           (first|(go_at_call 78;(with_reducible refine b3.out.mono ?_);rintro e w7 ⟨rfl,H4⟩)|fail)
          go_wp2;go_roundg (NL - (q+1))
          case measure=>have:=H5.out;omega
          case rel=>exact⟨q+1,sv,ps,by have:=H5.out;omega,by go_num,(h0.out.kept H2 (by simp)).kept H4 (by simp),p7,zB (zB hg H2 (by simp)) H4 (by simp)⟩
         | true =>
          rw[hle]at b3;have i4:=Kh (qFC (by rw[<- b9.out];exact b6.out) i6.out (by rw[<- b9.out];exact i5.out) hle);clear hle b6;go_wp2
          go_region_held3 (fun W=>W.cell? ⟨g,j,none⟩=some (.slice a2 n2 d2)/\W.cell? ⟨g,k,none⟩=some (.slice a1 n1 d1))
           (first|go_keep|exact f0.out _ H4|fail)
           (first|(go_at_call 78;(with_reducible refine b3.out.mono ?_);rintro e w7 ⟨rfl,H4⟩)|fail)
          have b0:=(h0.out.kept H2 (by simp)).kept H4 (by simp);have d9:=zB (zB hg H2 (by simp)) H4 (by simp);have k1:=xD (xD a3 H2) H4;have k2:=xD (xD a0 H2) H4;rcases id b0.own.2 with ⟨e1,_⟩|⟨g',cap,cur,e1,_,hgk,_,_,_,_⟩
          ·simp at e1
          simp only[Value.slice.injEq,Option.some.injEq,Addr.mk.injEq,and_true]at e1;obtain⟨rfl,_,rfl⟩:=e1;have f1:=frozen_of_row w7 g k _ _ hgk;have f2:=frozen_of_row w7 g j _ _ hgk;have i8:=Kh b0;have p6:=Kh d9;have r2:=Kh hgk;clear b0 d9 hgk hg H2 H4 a3 a0 h0 b3;go_wp2
          go_region
          all_goals
           go_wp2;go_roundg k
           case measure=>have:=b9.out;omega
           case rel =>
            have e9:=b9.out;subst e9;obtain⟨m7,n9⟩:=i8.out.drewN.swap o5.out e8.out i6.out i5.out (W:=_) (by first|exact .inl rfl|exact .inr rfl);exact⟨k,_,_,rfl,by omega,by go_num,m7,i4,zB (zB p6.out (zP w7 none) (by simp)) n9 (fun x e=>by have:g=x:=Oj e;omega)⟩
      ·obtain rfl:q=NL:=by have:=H5.out;omega
       have a5:=h8.len;have a4:ps=famP 6 L i M:=j0.out ps (by have:=b5.out.1;rwa [a5,List.take_length]at this) b5.out.2;have o6:=Kh a4;have l5:=Kh a5;clear a4 a5 h8 b5;go_wp2;refine bodyPost_ret (v:=.tuple #[.slice SL q SC,.int .i64 0]) (by simp[results,Try.results45,go_sem]) rfl ?_;rw[m2.out.1,m2.out.2,<- o6.out];exact⟨SL,SC,sv,by rw[<- l5.out],by rw[<- l5.out];exact RowT.of_owns h0.out.own,h0.out.rows,hg⟩
end Go.Proofs.Ytjfdomfendbhfaa
namespace Go.Proofs.Ytjfdomfendbhfaa
open Go.RowKit Go.Maps
theorem famB_total {p:List (List Int)}:sY (p.map strOfNums)=(p.map List.length).sum:=by
 unfold sY
 induction p with
 | nil=>rfl
 | cons a p ih =>
  rw[List.map_cons,List.map_cons,List.sum_cons];simp only[List.map_cons,List.sum_cons,List.foldl_cons]at ih ⊢
  first|(rw[<- ih,strOfNums_size])|(simp[strOfNums_size,ih])
theorem uD {B:Nat}{w:World}{tb:Nat}(h:xX B w tb):∀ k,some tb=some k->yF w 28 k/\yF w 9 k:=fun k e=>by
 have e:tb=k:=Oj e
 subst e
 obtain⟨sl,zs,n,hb,_⟩:=h
 exact⟨⟨_,_,_,hb,by decide⟩,⟨_,_,_,hb,by decide⟩⟩
end Go.Proofs.Ytjfdomfendbhfaa
namespace Go.Proofs.Ytjfdomfendbhfaa
open Go.RowKit Go.Maps
def DgI (np:Nat)(p:Int)(low:Nat)(cs:List ChoV):Prop :=
 low<=cs.length/\wE np cs cs.length/\(∀ i,i<cs.length->p<=(cs.getD i default).p)/\∀ i,i<low->p<(cs.getD i default).p
theorem DgI.next {np low:Nat}{p:Int}{cs:List ChoV}(h:DgI np p low cs):DgI np (p - 1) cs.length cs :=
 ⟨Nat.le_refl _,h.2.1,fun i hi=>by have:=h.2.2.1 i hi;omega,fun i hi=>by have:=h.2.2.1 i hi;omega⟩
theorem DgI.push {np low:Nat}{p y n:Int}{cs:List ChoV}(h:DgI np p low cs)(hp0:0<=p)(hp:p<np)(hy0:0<=y)(hy:y<2+(low:Int))(hn0:0<=n)(hn:n<2+(low:Int)):DgI np p low (cs++[⟨p,y,n⟩]):=by
 obtain⟨h1,h2,h3,h4⟩:=h;have e:∀ j,j<cs.length->(cs++[(⟨p,y,n⟩:ChoV)]).getD j default=cs.getD j default:=fun j hj=>pB (List.prefix_append _ _) hj;have el:(cs++[(⟨p,y,n⟩:ChoV)]).getD cs.length default=⟨p,y,n⟩:=by rw[List.getD_eq_getElem?_getD,List.getElem?_append_right (Nat.le_refl _),Nat.sub_self];rfl
 refine⟨by rw[List.length_append];omega,?_,fun i hi=>?_,fun i hi=>?_⟩
 ·rw[List.length_append,List.length_singleton]
  refine oP (fun i hi=>(qAQ (List.prefix_append _ _) hi).trans (h2 i hi)) ?_;simp only[choB,refB,el,Bool.and_eq_true,decide_eq_true_eq]
  have hr:∀ r:Int,0<=r->r<2+(low:Int)->((0<=r/\r<=1+(cs.length:Int))/\(r<2\/p<((cs++[(⟨p,y,n⟩:ChoV)]).getD (r.toNat - 2) default).p)):=fun r h0 hr=>by
   refine⟨by omega,?_⟩;by_cases h2':r<2
   ·exact .inl h2'
   ·exact .inr (by rw[e _ (by omega)];exact h4 _ (by omega))
  exact⟨⟨hp0,hp⟩,hr y hy0 hy,hr n hn0 hn⟩
 ·rw[List.length_append,List.length_singleton]at hi
  rcases Nat.lt_succ_iff_lt_or_eq.1 hi with hi|rfl
  ·rw[e i hi];exact h3 i hi
  ·rw[el];exact Int.le_refl _
 ·rw[e i (by omega)];exact h4 i hi
theorem qB {w:World}{m e e':Nat}{cs:Array Value}{q:Nat×Nat}(h:w.heap[m]?=some (.cells cs e q))(hne:e≠e'):∀ j,some m=some j->yF w e' j:=fun j ej=>by
 have ej:m=j:=Oj ej
 subst ej
 exact⟨_,_,_,h,hne⟩
structure DgD (B tb:Nat)(w0:World)(w:World)(k:Nat)(pa ca:Option Addr)(np nc pc cc:Nat)(root:Int)(L:List (List (List Int)))(cs:List ChoV):Prop where
 pats:∃ svs,RowT w.heap.size 28 w (.slice pa np pc) svs/\xY w.heap.size 9 strs w svs L
 np_:np=L.length
 nc_:nc=cs.length
 own:∃ base,w0.heap.size<base/\w.ownsRow base 45 3 (.slice ca nc cc) nc (uB cs)
 good:∀ p∈L,tK (k:Int) p
 few:1<=np/\np<=4/\nc<=100
 val:wE np cs cs.length
 root_:0<=root/\root<=1+(nc:Int)
 tape:xX B w tb
 gr:w0.grownBy w (some tb)
def DgRet (B tb:Nat)(w:World)(k:Nat)(e:Ending)(w':World):Prop:=∃ pa ca np nc pc cc root L cs,e=.returned (.agg #[.slice pa np pc,.slice ca nc cc,.int .i64 root])/\DgD B tb w w' k pa ca np nc pc cc root L cs
theorem qFM {B tb Q base k np nc pc cc:Nat}{w w5:World}{pa ca:Option Addr}{root:Int}{x0 x1 x2:Value}{svs:List Value}{L:List (List (List Int))}{cs:List ChoV}(hbQ:w5.heap[Q]?=some (.cells #[x0,x1,x2] 25 (0,0)))(hQ:Q=w.heap.size)(hB:base=Q+2)(htQ:tb<Q)(hBQ:B<=Q)(hrt:RowT w5.heap.size 28 w5 (.slice pa np pc) svs)(hrs:xY w5.heap.size 9 strs w5 svs L)(h1:np=L.length)(h2:nc=cs.length)(ho:w5.ownsRow base 45 3 (.slice ca nc cc) nc (uB cs))(hgd:∀ p∈L,tK (k:Int) p)(hf:1<=np/\np<=4/\nc<=100)(hv:wE np cs cs.length)(hr:0<=root/\root<=1+(nc:Int))(hT:xX B w5 tb)(hg:w.grownBy w5 (some tb)):
  (((w5.setCell ⟨Q,0,none⟩ (.slice pa np pc)).setCell ⟨Q,1,none⟩ (.slice ca nc cc)).setCell ⟨Q,2,none⟩ (.int .i64 root)).heap[Q]?=some (.cells #[.slice pa np pc,.slice ca nc cc,.int .i64 root] 25 (0,0))/\DgD B tb w (((w5.setCell ⟨Q,0,none⟩ (.slice pa np pc)).setCell ⟨Q,1,none⟩ (.slice ca nc cc)).setCell ⟨Q,2,none⟩ (.int .i64 root)) k pa ca np nc pc cc root L cs:=by
 have g1:=zD (zD (zC w5 ⟨Q,0,none⟩ (.slice pa np pc)) (zC _ ⟨Q,1,none⟩ (.slice ca nc cc))) (zC _ ⟨Q,2,none⟩ (.int .i64 root));have z1:=heap_setCell_same _ Q 2 _ _ (.int .i64 root) (heap_setCell_same _ Q 1 _ _ (.slice ca nc cc) (heap_setCell_same w5 Q 0 _ _ (.slice pa np pc) hbQ));simp only[Array.setIfInBounds,List.size_toArray,List.length_cons,List.length_nil]at z1;refine⟨z1,⟨svs,(hrt.kept g1 (fun j e=>.inr (qB hbQ (by decide) j e))).mono g1.size,(hrs.kept g1 (fun j e=>.inr (qB hbQ (by decide) j e))).mono g1.size⟩,h1,h2,⟨base,by omega,ho.kept g1 ?_⟩,hgd,hf,hv,hr,hT.kept g1 (fun j e=>by have e:Q=j:=Oj e;omega),xF hg g1 (.inr (.inl rfl)) (.inr (.inr ⟨Q,rfl,by omega⟩))⟩;rcases hv:(Value.slice ca nc cc).ownBlock with _|j
 ·exact .inl rfl
 ·exact .inr (fun e=>by have e:j=Q:=Oj e;have:=(ho.lt j hv).1;omega)
theorem ldia_any (B tb:Nat)(w:World)(k:Nat)(hk1:1<=k)(hk6:k<=6)(hT:xX B w tb):
  Calls Try.prog 26 #[.pointer (some ⟨tb,0,none⟩),.int .i64 (k:Int)] w (DgRet B tb w k):=by
 obtain⟨f1,f0,e9,i7⟩:=mH w #[.slice none 0 0,.slice none 0 0,.int .i64 0] 25 #[.slice none 0 0,.slice none 0 0,.int .i64 0] 25;obtain⟨wA,g5⟩:∃ wA,wA=(w.alloc (.cells #[.slice none 0 0,.slice none 0 0,.int .i64 0] 25)).alloc (.cells #[.slice none 0 0,.slice none 0 0,.int .i64 0] 25):=⟨_,rfl⟩;rw[<- g5]at f1 f0 e9 i7;obtain⟨Q,hQ⟩:∃ Q,Q=w.heap.size:=⟨_,rfl⟩;obtain⟨P,hP⟩:∃ P,P=w.heap.size+1:=⟨_,rfl⟩;rw[<- hQ]at f1;rw[<- hP]at f0;have b8:=Kh hQ;have g9:Hid (P=Q+1):=Kh (by omega);have l1:=hT.lt;have n8:=hT.ge;have j0:tb<Q:=by omega
 have n7:Q<P:=by omega
 have l9:Hid (wA.heap.size=P+1):=Kh (by omega);have m2:=Kh (hT.kept e9 (by simp));have n0:=Kh f1;have m9:=Kh f0;have m7:=Kh e9;have m0:=Kh g5;have o0:=Kh hT;clear f1 f0 e9 g5 hQ hP i7 l1 hT;go_enter Try.func26,Try.ntmps26;go_upto_region 2 with fail;rw[<- m0.out,<- b8.out,<- g9.out];go_wp2_with fail;refine(sR B tb wA 4 (by omega) m2.out).mono ?_;rintro e w1 ⟨r,rfl,g3,g1,k2,d6⟩;replace g1:=g1 (by omega);have c7:=Kh (zA n0.out d6 (fun e=>by have:=Oj e;omega));have k6:=Kh (zA m9.out d6 (fun e=>by have:=Oj e;omega));have k5:=Kh k2;have n9:Hid (P+1<=w1.heap.size):=Kh (by have:=d6.size;have:=l9.out;omega);have k9:Hid (w.grownBy w1 (some tb)):=Kh (zD (yQ m7.out) d6);obtain⟨n,hn⟩:∃ n:Nat,1+r=(n:Int):=⟨(1+r).toNat,by omega⟩;have d5:1<=n:=by omega
 have j3:n<=4:=by omega
 clear g3 g1 k2 d6;have g7:Hid (w1.ownsRow (P+1) 28 1 (.slice none 0 0) 0 []/\xY w1.heap.size 9 strs w1 [] []):=Kh ⟨World.ownsRow_nil _ _ _ _,xY.nil⟩;go_wp2
 go_loopg [7] n (fun gh v7 wr=>∃ (i cc:Nat) (sa:Option Addr) (svs:List Value) (L:List (List (List Int))),gh+i=n/\v7=.int .i64 (i:Nat)/\L.length=i/\wr.heap[Q]?=some (.cells #[.slice none 0 0,.slice none 0 0,.int .i64 0] 25 (0,0))/\wr.heap[P]?=some (.cells #[.slice sa i cc,.slice none 0 0,.int .i64 0] 25 (0,0)) /\
   wr.ownsRow (P+1) 28 1 (.slice sa i cc) i svs/\xY wr.heap.size 9 strs wr svs L/\(∀ p∈L,tK (k:Int) p)/\xX B wr tb/\w.grownBy wr (some tb))
 case atStart=>exact⟨0,0,none,[],[],rfl,rfl,rfl,c7.out,k6.out,g7.out.1,g7.out.2,by simp,k5.out,k9.out⟩
 case round =>
  clear g7 c7 k6 k5 k9;obtain⟨i,cc,sa,svs,L,j8,rfl,k3,b7,h8,ho,H6,j9,hT,hg⟩:=hrel;have f6:=Kh j8;have i1:=Kh k3;have a0:=Kh b7;have H1:=Kh h8;have HO:=Kh ho;have H8:=Kh H6;have i2:=Kh j9;have HT:=Kh hT;have HG:=Kh hg;have f3:=zI h8;clear j8 k3 b7 h8 ho H6 j9 hT hg;by_cases hi:i<n
  ·have j5:(i:Int)<n:=by omega
   go_upto_region 6 with fail;refine dg_reg6 (P:=P) (tb:=tb) (B:=B) (base:=P+1) (m:=i) (svs:=svs) (letters:=(k:Int)) (cv:=.slice none 0 0) (rv:=.int .i64 0) H1.out HO.out HT.out ⟨by omega,by omega⟩ (by omega) (by omega) (by omega) (by omega) (by omega) (by omega) ?_;intro z19 z20 z21 z22 z23 z24 z25 z26 sc' cc' u bs wa wb wc h4 H7 h3 h9 c8 b6 H4 d4 e5;have d3:=fun j e=>yU H7 (e':=9) (by decide) j e;have H2:=zA H1.out h4 (fun e=>by have:=Oj e;omega);have H0:=zA H2 h3 (fun e=>by have:=(H7.lt P e).1;omega)
   have c1:Hid (xY wc.heap.size 9 strs wc (svs++[u]) (L++[bs])):=Kh (by
    have h1:=((H8.out.kept h4 (fun j e=>.inr ((uD HT.out) j e).2)).mono h4.size).snoc c8;have h2:=(h1.kept h3 (fun j e=>.inr (d3 j e))).mono h3.size
    exact(h2.kept h9 (fun j e=>.inr (qB H0 (by decide) j e))).mono h9.size)
   have c5:Hid (wc.heap[Q]?=some (.cells #[.slice none 0 0,.slice none 0 0,.int .i64 0] 25 (0,0))):=Kh (zA (zA (zA a0.out h4 (fun e=>by have:=Oj e;omega)) h3 (fun e=>by have:=(H7.lt Q e).1;omega)) h9 (fun e=>by have:=Oj e;omega))
   have i3:Hid (w.grownBy wc (some tb)):=Kh (by
    refine xF (xF (zD HG.out h4) h3 (.inr (.inl rfl)) ?_) h9 (.inr (.inl rfl)) (.inr (.inr ⟨P,rfl,by have:=b8.out;omega⟩));rcases hv:(Value.slice sa i cc).ownBlock with _|j
    ·exact .inl rfl
    ·exact .inr (.inr ⟨j,rfl,by have:=(HO.out.lt j hv).1;have:=b8.out;omega⟩))
   have c6:=Kh H4;have i0:=Kh d4;have g6:=Kh e5;have m6:=Kh b6;clear h4 H7 h3 h9 c8 b6 H4 d4 e5 d3 H2 H0;go_wp2;go_roundg (n - (i+1))
   case measure=>have:=f6.out;omega
   case rel=>exact⟨i+1,cc',sc',svs++[u],L++[bs],by have:=f6.out;omega,by go_num,by rw[List.length_append,i1.out];rfl,c5.out,c6.out,i0.out,c1.out,fun p hp=>by rcases List.mem_append.1 hp with h|h;exact i2.out p h;(simp only[List.mem_cons,List.not_mem_nil,or_false]at h;subst h;exact m6.out),g6.out,i3.out⟩
  ·have l5:i=n:=by have:=f6.out;omega
   have j5:¬ (i:Int)<n:=(by omega);clear hi;subst l5;have h8:=H1.out;have b3:=Kh (RowT.of_owns HO.out);have l0:Hid (wr.ownsRow (P+1) 45 3 (.slice none 0 0) 0 (uB [])):=Kh (World.ownsRow_nil _ _ _ _);have H9:Hid (DgI i ((i:Int) - 1) 0 []):=Kh ⟨Nat.le_refl _,fun j hj=>by simp at hj,fun j hj=>by simp at hj,fun j hj=>by omega⟩;clear j5 h8;go_wp2
   go_loopg [8,9,10] i (fun gh v8 v9 v10 wr=>∃ (p:Int) (q cq:Nat) (sq:Option Addr) (cs:List ChoV),v8=.int .i64 p/\-1<=p/\p<i/\(gh:Int)=p+1/\cs.length=q/\DgI i p q cs/\(q:Int)+2 * p<=2 * (i:Int) - 2/\wr.heap[Q]?=some (.cells #[.slice none 0 0,.slice none 0 0,.int .i64 0] 25 (0,0))/\wr.heap[P]?=some (.cells #[.slice sa i cc,.slice sq q cq,.int .i64 0] 25 (0,0)) /\
     RowT wr.heap.size 28 wr (.slice sa i cc) svs/\xY wr.heap.size 9 strs wr svs L/\wr.ownsRow (P+1) 45 3 (.slice sq q cq) q (uB cs)/\xX B wr tb/\w.grownBy wr (some tb))
   case atStart=>exact⟨(i:Int) - 1,0,0,none,[],by go_num,by omega,by omega,by omega,rfl,H9.out,by omega,a0.out,H1.out,b3.out,H8.out,l0.out,HT.out,HG.out⟩
   case round =>
    clear H9 a0 H1 b3 H8 l0 HT HG HO f6 f3;obtain⟨p,q,cq,sq,cs,rfl,n6,l4,j7,k0,d8,j1,b7,h8,b9,H6,ho,hT,hg⟩:=hrel;have m5:=Kh j7;have i5:=Kh k0;have H9:=Kh d8;have c7:=Kh j1;have a0:=Kh b7;have H1:=Kh h8;have b3:=Kh b9;have H8:=Kh H6;have HO:=Kh ho;have HT:=Kh hT;have HG:=Kh hg;obtain⟨b0,b1,b2⟩:=zH h8;have f3:=zI h8;clear j7 k0 d8 j1 b7 h8 b9 H6 ho hT hg;by_cases hp:0<=p
    ·go_wp2_with fail
     refine(sR B tb wr 3 (by omega) HT.out).mono ?_;rintro e w2 ⟨r3,rfl,g3,g2,e4,h0⟩;replace g2:=g2 (by omega);obtain⟨r,hr⟩:∃ r:Nat,r3=(r:Int):=⟨r3.toNat,by omega⟩;subst hr;have n1:r<=2:=by omega
     have b5:=Kh (zA a0.out h0 (fun e=>by have:=Oj e;omega));have h7:=Kh (zA H1.out h0 (fun e=>by have:=Oj e;omega));have a9:=Kh ((b3.out.kept h0 (fun j e=>.inr (uD HT.out j e).1)).mono h0.size);have b4:=Kh ((H8.out.kept h0 (fun j e=>.inr (uD HT.out j e).2)).mono h0.size);have f5:=Kh (HO.out.kept h0 (by rcases hv:(Value.slice sq q cq).ownBlock with _|j;exact .inl rfl;exact .inr (fun e=>by have e:j=tb:=Oj e;have:=(HO.out.lt j hv).1;omega)));have f4:=Kh e4;have f7:=Kh (zD HG.out h0);have e8:Hid (DgI i p q cs):=Kh H9.out;clear g3 g2 e4 h0 b0 b1 b2 f3;go_wp2
     go_loopg [10] r (fun gh v10 wr=>∃ (r' q' cq':Nat) (sq':Option Addr) (cs':List ChoV),gh=r'/\v10=.int .i64 (r':Nat)/\cs'.length=q'/\q'+r'<=q+2/\q<=q'/\DgI i p q cs'/\wr.heap[Q]?=some (.cells #[.slice none 0 0,.slice none 0 0,.int .i64 0] 25 (0,0))/\wr.heap[P]?=some (.cells #[.slice sa i cc,.slice sq' q' cq',.int .i64 0] 25 (0,0)) /\
       RowT wr.heap.size 28 wr (.slice sa i cc) svs/\xY wr.heap.size 9 strs wr svs L/\wr.ownsRow (P+1) 45 3 (.slice sq' q' cq') q' (uB cs')/\xX B wr tb/\w.grownBy wr (some tb))
     case atStart=>exact⟨r,q,cq,sq,cs,rfl,rfl,i5.out,by omega,Nat.le_refl _,e8.out,b5.out,h7.out,a9.out,b4.out,f5.out,f4.out,f7.out⟩
     case round =>
      clear e8 b5 h7 a9 b4 f5 f4 f7 a0 H1 b3 H8 HO HT HG H9;obtain⟨r',q',cq',sq',cs',j6,rfl,d9,l2,n2,d8,b7,h8,b9,H6,ho,hT,hg⟩:=hrel;have m4:=Kh j6;have c4:=Kh d9;have H9:=Kh d8;have o1:=Kh l2;have a0:=Kh b7;have H1:=Kh h8;have b3:=Kh b9;have H8:=Kh H6;have HO:=Kh ho;have HT:=Kh hT;have HG:=Kh hg;have f3:=zI h8;have n3:q<=6:=by have:=c7.out;omega
      have l3:q'<=8:=by omega
      clear j6 d9 d8 b7 h8 b9 H6 ho hT hg;by_cases hr':0<r'
      ·have g4:(0:Int)<r':=by omega
       go_upto_region 14 with fail;refine dg_reg14 (P:=P) (tb:=tb) (B:=B) (base:=P+1) (m:=q') (cs:=cs') (i:=p) (pv:=.slice sa i cc) (rv:=.int .i64 0) (low:=(q:Int)) H1.out HO.out HT.out ⟨by omega,by omega⟩ (by omega) (by omega) (by omega) (by omega) ⟨by omega,by omega⟩ ?_;intro z42 z43 z44 z45 z46 z47 z48 z49 z50 z51 z52 z53 z54 z55 z56 sc' cc' y n wa wb wc h4 H7 h3 h9 i9 i8 j4 d5 H4 d4 e5;have d3:=fun j e=>yU H7 (e':=9) (by decide) j e;have j2:=fun j e=>yU H7 (e':=28) (by decide) j e;have H2:=zA H1.out h4 (fun e=>by have:=Oj e;omega);have H0:=zA H2 h3 (fun e=>by have:=(H7.lt P e).1;omega)
       have c1:Hid (xY wc.heap.size 9 strs wc svs L):=Kh (by
        have h1:=(H8.out.kept h4 (fun j e=>.inr ((uD HT.out) j e).2)).mono h4.size;have h2:=(h1.kept h3 (fun j e=>.inr (d3 j e))).mono h3.size
        exact(h2.kept h9 (fun j e=>.inr (qB H0 (by decide) j e))).mono h9.size)
       have g8:Hid (RowT wc.heap.size 28 wc (.slice sa i cc) svs):=Kh (by
        have h1:=(b3.out.kept h4 (fun j e=>.inr ((uD HT.out) j e).1)).mono h4.size;have h2:=(h1.kept h3 (fun j e=>.inr (j2 j e))).mono h3.size
        exact(h2.kept h9 (fun j e=>.inr (qB H0 (by decide) j e))).mono h9.size)
       have c5:Hid (wc.heap[Q]?=some (.cells #[.slice none 0 0,.slice none 0 0,.int .i64 0] 25 (0,0))):=Kh (zA (zA (zA a0.out h4 (fun e=>by have:=Oj e;omega)) h3 (fun e=>by have:=(H7.lt Q e).1;omega)) h9 (fun e=>by have:=Oj e;omega))
       have i3:Hid (w.grownBy wc (some tb)):=Kh (by
        refine xF (xF (zD HG.out h4) h3 (.inr (.inl rfl)) ?_) h9 (.inr (.inl rfl)) (.inr (.inr ⟨P,rfl,by have:=b8.out;omega⟩));rcases hv:(Value.slice sq' q' cq').ownBlock with _|j
        ·exact .inl rfl
        ·exact .inr (.inr ⟨j,rfl,by have:=(HO.out.lt j hv).1;have:=b8.out;omega⟩))
       have m8:Hid (DgI i p q (cs'++[⟨p,y,n⟩])):=Kh (H9.out.push hp l4 i9 i8 j4 d5);have c6:=Kh H4;have i0:=Kh d4;have g6:=Kh e5;clear h4 H7 h3 h9 H4 d4 e5 d3 j2 H2 H0 i9 i8 j4 d5;go_wp2;go_roundg (r' - 1)
       case measure=>have:=m4.out;omega
       case rel=>exact⟨r' - 1,q'+1,cc',sc',cs'++[⟨p,y,n⟩],rfl,by go_num,by rw[List.length_append,c4.out];rfl,by omega,by omega,m8.out,c5.out,c6.out,g8.out,c1.out,i0.out,g6.out,i3.out⟩
      ·have g4:¬ (0:Int)<r':=by omega
       go_wp2;go_roundg (p.toNat)
       case measure=>have:=m5.out;omega
       case rel=>exact⟨p - 1,q',cq',sq',cs',by go_num,by omega,by omega,by omega,c4.out,by have:=H9.out.next;rw[c4.out]at this;exact this,by have:=c7.out;omega,a0.out,H1.out,b3.out,H8.out,HO.out,HT.out,HG.out⟩
    ·have n5:p = -1:=by omega
     have n4:q<=8:=by have:=c7.out;omega
     go_wp2_with fail;refine(sR B tb wr (2+(q:Int)) (by omega) HT.out).mono ?_;rintro e w2 ⟨r5,rfl,c9,c0,e4,h0⟩;replace c0:=c0 (by omega);have m3:Hid (0<=r5/\r5<=1+(q:Int)):=Kh ⟨c9,by omega⟩;have b5:=Kh (zA a0.out h0 (fun e=>by have:=Oj e;omega));have h7:=Kh (zA H1.out h0 (fun e=>by have:=Oj e;omega));have a9:=Kh ((b3.out.kept h0 (fun j e=>.inr (uD HT.out j e).1)).mono h0.size);have b4:=Kh ((H8.out.kept h0 (fun j e=>.inr (uD HT.out j e).2)).mono h0.size);have f5:=Kh (HO.out.kept h0 (by rcases hv:(Value.slice sq q cq).ownBlock with _|j;exact .inl rfl;exact .inr (fun e=>by have e:j=tb:=Oj e;have:=(HO.out.lt j hv).1;omega)));have f4:=Kh e4;have f7:=Kh (zD HG.out h0)
     have SET:Hid (∀ (W:World) (u:Int),W.heap[P]?=some (.cells #[.slice sa i cc,.slice sq q cq,.int .i64 u] 25 (0,0))->W.heap[Q]?=some (.cells #[.slice none 0 0,.slice none 0 0,.int .i64 0] 25 (0,0))->RowT W.heap.size 28 W (.slice sa i cc) svs->xY W.heap.size 9 strs W svs L->W.ownsRow (P+1) 45 3 (.slice sq q cq) q (uB cs)->xX B W tb->w.grownBy W (some tb)->∀ y:Int,(W.setCell ⟨P,2,none⟩ (.int .i64 y)).heap[P]?=some (.cells #[.slice sa i cc,.slice sq q cq,.int .i64 y] 25 (0,0))/\(W.setCell ⟨P,2,none⟩ (.int .i64 y)).heap[Q]?=some (.cells #[.slice none 0 0,.slice none 0 0,.int .i64 0] 25 (0,0)) /\
       RowT (W.setCell ⟨P,2,none⟩ (.int .i64 y)).heap.size 28 (W.setCell ⟨P,2,none⟩ (.int .i64 y)) (.slice sa i cc) svs/\xY (W.setCell ⟨P,2,none⟩ (.int .i64 y)).heap.size 9 strs (W.setCell ⟨P,2,none⟩ (.int .i64 y)) svs L/\(W.setCell ⟨P,2,none⟩ (.int .i64 y)).ownsRow (P+1) 45 3 (.slice sq q cq) q (uB cs)/\xX B (W.setCell ⟨P,2,none⟩ (.int .i64 y)) tb/\w.grownBy (W.setCell ⟨P,2,none⟩ (.int .i64 y)) (some tb)):=Kh (fun W u hP hQ b9 H6 ho hT hg y=>by
      have g:=zC W ⟨P,2,none⟩ (.int .i64 y);refine⟨heap_setCell_same W P 2 _ _ _ hP,zA hQ g (fun e=>by have e:P=Q:=Oj e;omega),(b9.kept g (fun j e=>.inr (qB hP (by decide) j e))).mono g.size,(H6.kept g (fun j e=>.inr (qB hP (by decide) j e))).mono g.size,ho.kept g ?_,hT.kept g (fun j e=>by have e:P=j:=Oj e;omega),xF hg g (.inr (.inl rfl)) (.inr (.inr ⟨P,rfl,by have:=b8.out;omega⟩))⟩;rcases hv:(Value.slice sq q cq).ownBlock with _|j
      ·exact .inl rfl
      ·exact .inr (fun e=>by have e:j=P:=Oj e;have:=(ho.lt j hv).1;omega))
     have H3:=Kh (SET.out w2 _ h7.out b5.out a9.out b4.out f5.out f4.out f7.out r5);have f2:=zE h7.out 2;obtain⟨e0,e1,e2⟩:=zH h7.out;have l8:=zI h7.out;clear c9 c0 e4 h0 b0 b1 b2;go_wp2_with fail;obtain⟨a1,a2,a3,a4,a5,a6,a7⟩:=H3.out;refine(sR B tb _ 4 (by omega) a6).mono ?_;rintro e w4 ⟨r6,rfl,g0,f9,k1,a8⟩;have h5:=Kh (zA a2 a8 (fun e=>by have:=Oj e;omega));have H5:=Kh (zA a1 a8 (fun e=>by have:=Oj e;omega));have e6:=Kh ((a3.kept a8 (fun j e=>.inr (uD a6 j e).1)).mono a8.size);have e7:=Kh ((a4.kept a8 (fun j e=>.inr (uD a6 j e).2)).mono a8.size);have k7:=Kh (a5.kept a8 (by rcases hv:(Value.slice sq q cq).ownBlock with _|j;exact .inl rfl;exact .inr (fun e=>by have e:j=tb:=Oj e;have:=(a5.lt j hv).1;omega)));have k4:=Kh k1;have k8:=Kh (zD a7 a8);clear g0 f9 k1 a8 a1 a2 a3 a4 a5 a6 a7 e0 e1 e2 f2 l8;by_cases h6:0<r6
     ·have f2:=zE H5.out 2
      obtain⟨e0,e1,e2⟩:=zH H5.out;have l7:=zI H5.out;obtain⟨a1,a2,a3,a4,a5,a6,a7⟩:=SET.out w4 _ H5.out h5.out e6.out e7.out k7.out k4.out k8.out (1+(q:Int));obtain⟨w5,f8⟩:∃ w5,w5=w4.setCell ⟨P,2,none⟩ (.int .i64 (1+(q:Int))):=⟨_,rfl⟩;rw[<- f8]at a1 a2 a3 a4 a5 a6 a7;have m1:=Kh f8;have A1:=Kh a1;have A2:=Kh a2;have A3:=Kh a3;have A4:=Kh a4;have A5:=Kh a5;have A6:=Kh a6;have A7:=Kh a7;clear f8 a1 a2 a3 a4 a5 a6 a7;go_upto_region 18 with fail;clear e0 e1 e2 f2 l7;rw[<- m1.out];obtain⟨e0,e1,e2⟩:=zH A1.out;have fq0:=zE A2.out 0;have fq1:=zE A2.out 1;have fq2:=zE A2.out 2;obtain⟨d0,d1,d2⟩:=zH A2.out;have l6:=zI A2.out;have c3:Hid (q=cs.length):=Kh i5.out.symm;have c2:Hid (i=L.length):=Kh i1.out.symm;obtain⟨e3,d7⟩:=qFM (B:=B) (tb:=tb) (w:=w) (k:=k) (root:=1+(q:Int)) (nc:=q) A2.out b8.out (base:=P+1) (by have:=g9.out;omega) j0 (by omega) A3.out A4.out c2.out c3.out A5.out i2.out ⟨d5,j3,by omega⟩ H9.out.2.1 ⟨by omega,by omega⟩ A6.out A7.out;have i6:=Kh e3;have i4:=Kh d7;clear e3 d7;go_wp2;obtain⟨y0,y1,y2⟩:=zH i6.out;refine bodyPost_ret (v:=.agg #[.slice sa i cc,.slice sq q cq,.int .i64 (1+(q:Int))]) (by simp[results,Try.results26,go_sem,y0,y1,y2]) rfl ?_;exact⟨sa,sq,i,q,cc,cq,_,L,cs,rfl,i4.out⟩
     ·obtain⟨e0,e1,e2⟩:=zH H5.out
      have fq0:=zE h5.out 0;have fq1:=zE h5.out 1;have fq2:=zE h5.out 2;obtain⟨d0,d1,d2⟩:=zH h5.out;have l6:=zI h5.out;have c3:Hid (q=cs.length):=Kh i5.out.symm;have c2:Hid (i=L.length):=Kh i1.out.symm;obtain⟨e3,d7⟩:=qFM (B:=B) (tb:=tb) (w:=w) (k:=k) (root:=r5) (nc:=q) h5.out b8.out (base:=P+1) (by have:=g9.out;omega) j0 (by omega) e6.out e7.out c2.out c3.out k7.out i2.out ⟨d5,j3,by omega⟩ H9.out.2.1 m3.out k4.out k8.out;have i6:=Kh e3;have i4:=Kh d7;clear e3 d7;go_wp2;obtain⟨y0,y1,y2⟩:=zH i6.out;refine bodyPost_ret (v:=.agg #[.slice sa i cc,.slice sq q cq,.int .i64 (r5)]) (by simp[results,Try.results26,go_sem,y0,y1,y2]) rfl ?_;exact⟨sa,sq,i,q,cc,cq,_,L,cs,rfl,i4.out⟩
end Go.Proofs.Ytjfdomfendbhfaa
