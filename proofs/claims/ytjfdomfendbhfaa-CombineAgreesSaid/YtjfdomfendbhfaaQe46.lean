/- Part 46 of the proof: RFam5. -/
import Derived.Test.YtjfdomfendbhfaaQe45
import Derived.BigRegion
set_option linter.unusedVariables false
set_option linter.unusedSimpArgs false
namespace Go.Proofs.Ytjfdomfendbhfaa
open Go.RowKit
set_option maxRecDepth 100000 in
set_option maxHeartbeats 4000000 in
theorem rfam5_any (L K M:Nat) (w:World) (hl1:1<=L) (hl6:L<=6) (hk1:1<=K) (hk8:K<=8) (hm:M=0) :
  Calls Try.prog 45 #[.int .i64 5,.int .i64 L,.int .i64 K,.int .i64 M] w (pE w (famE 5 L K M) (famL 5 L K M)):=by
 have j8:=Kh (pZ w (L:Int))
 rw[decide_eq_true (show 1<=(L:Int)/\(L:Int)<=6 by omega)]at j8
 have ho:oL 5 L K M=true:=by simp[oL];omega
 have HO:=Kh ho
 have g0:=Kh (qAM (kind:=5) (letters:=L) (k:=K) (m:=M) (by decide) (by decide) hl1 (fun _=>by omega))
 have j4:=Kh (qAP (kind:=5) (letters:=L) (k:=K) (by decide) (by decide) M)
 have l9:=Kh (qBH (kind:=5) (L:=L) (K:=K) M)
 have m7:((M:Int) != 0)=false:=by rw[hm];rfl
 clear ho
 skip
 have f9:Hid (∀ i,i<=K->(upTo L (i+1)).length<=20000000):=Kh (fun i hi=>by have:=oE L hl6 (i+1) (by omega);omega)
 go_enter Try.func45,Try.ntmps45
 go_wp2_with fail
 refine j8.out.mono ?_
 rintro e w ⟨rfl,rfl⟩
 go_wp2
 go_loopg [11,12,13] K (fun gh vc vi vp wr=>∃ i:Nat,gh+i=K/\vc=.int .i64 (((upTo L (i+1)).length:Nat):Int)/\vi=.int .i64 (i:Int)/\vp=.int .i64 ((L ^ i:Nat):Int)/\w=wr)
 case atStart=>exact⟨0,rfl,by rw[xH,List.length_append,vD];simp[upTo],rfl,rfl,rfl⟩
 case round =>
  obtain⟨i,c5,rfl,rfl,rfl,rfl⟩:=hrel
  have a7:=Kh c5
  clear c5
  have i9:=f9.out i (by have:=a7.out;omega)
  by_cases hlt:i < K
  ·have f3:(i:Int) < (K:Int):=by omega
   have i8:=f9.out (i+1) (by omega)
   have d8:=nE L i
   rw[d8]at i8
   have g1:=Kh d8
   obtain⟨CN,d4⟩:∃ CN,CN=(upTo L (i+1)).length:=⟨_,rfl⟩
   obtain⟨PW,f8⟩:∃ PW,PW=L ^ i:=⟨_,rfl⟩
   obtain⟨P2,c6⟩:∃ P2,P2=L ^ i * L:=⟨_,rfl⟩
   have k8:(PW:Int) * (L:Int)=(P2:Int):=by rw[c6,f8];push_cast;rfl
   have d5:Hid ((upTo L (i+1+1)).length=CN+P2/\L ^ (i+1)=P2):=Kh ⟨by rw[g1.out,d4,c6],by rw[c6,Nat.pow_succ]⟩
   rw[<- c6,<- d4]at i8
   rw[<- d4,<- f8]
   clear d8 d4 f8 c6 i9
   go_wp2
   go_roundg (K - (i+1))
   case measure=>have:=a7.out;omega
   case rel=>exact⟨i+1,by have:=a7.out;omega,by rw[d5.out.1];go_num,by go_num,by rw[d5.out.2],rfl⟩
  ·obtain rfl:i=K:=by have:=a7.out;omega
   clear hlt f9
   obtain⟨ws,a8⟩:∃ ws,ws=yP L i:=⟨_,rfl⟩
   have l4:=Kh a8
   have d0:upTo L (i+1)=ws:=a8.symm
   rw[d0]at i9 ⊢
   have g5:Hid (ws.length<=(famP 5 L i M).length+1):=Kh (by rw[a8];exact l9.out)
   have m4:1<=ws.length:=by rw[a8];exact gN hl1
   have n9:Hid (1<=i->2<=ws.length):=Kh (fun h=>by rw[a8];exact bO hl1 h)
   have n6:Hid (∀ r (h:r < ws.length),(ws[r]=[] ↔ r=0)):=Kh (by subst a8;exact fun r h=>kG h)
   have l5:Hid (∀ u∈ws,u.length<=8):=Kh (by subst a8;exact fun u hu=>kF hk8 hu)
   have n7:Hid (∀ u∈ws,okW u):=Kh (by subst a8;exact fun u hu=>okB hl6 (n:=i+1) hu)
   have j3:Hid (ws.length<=301->Calls Try.prog 76 #[.int .i64 L,.int .i64 i] w (qCC w ws)):=Kh (fun h=>by rw[<- d0];exact bN L i w hl1 hl6 hk8 (by rw[d0];omega))
   clear a8 d0
   by_cases hbig:300 < (ws.length:Int) - 1
   ·have h3:=nT HO.out (.inr (g0.out.2 (by have:=g5.out;omega)))
    have H3:=Kh h3
    clear h3
    go_wp2
    refine bodyPost_ret (v:=.tuple #[.slice none 0 0,.int .i64 3]) (by simp[results,Try.results45,go_sem]) rfl ?_
    rw[H3.out.1,H3.out.2]
    exact pE.nil (zN _ _)
   have c8:=Kh (j3.out (by omega))
   clear j3
   go_wp2_with fail
   refine c8.out.mono ?_
   rintro e w1 ⟨sa,sc,rfl,a9,f5⟩
   obtain⟨b,off,rfl,n5,i7⟩:=iE a9 (by omega)
   have n4:sc<=9223372036854775807:=by unfold maxLen at i7;omega
   have g7:ws.length<=301:=by omega
   clear c8 i7 hbig
   obtain⟨ba,f6⟩:∃ ba,ba=w1.heap.size:=⟨_,rfl⟩
   rw[<- f6]at a9
   have H5:ba<=w1.heap.size:=by omega
   have k4:w.heap.size<=ba:=by rw[f6];exact f5.size
   clear f6
   go_wp2
   go_loopw [15,90] (fun v iv wr=>∃ (j n:Nat) (sl:Option Addr) (c:Nat) (svs:List Value),iv=.int .i64 (j:Int)/\j<=ws.length/\v=.slice sl n c /\
     LUp 28 ba wr (.slice sl n c) n svs (genL 5 i (ws.take j))/\RowT ba 9 wr (.slice (some ⟨b,off,none⟩) ws.length sc) (strs ws)/\w.grownBy wr none/\ba<=wr.heap.size)
    (fun _ iv _=>ws.length - (intOf iv).toNat)
   case atStart=>exact⟨0,0,none,0,[],rfl,Nat.zero_le _,rfl,by simpa [genL] using LUp.nil (by decide) _ _,a9,f5,H5⟩
   case round =>
    clear a9 f5 H5
    obtain⟨j,n,sl,c,svs,rfl,hj,rfl,H8,hT,hg,H5⟩:=hrel
    obtain⟨wo,rfl⟩:∃ wo:World,wo=wr:=⟨_,rfl⟩
    have hn:n<=1600:=by
     have h1:=H8.len
     have h2:=fS 5 i (ws.take j)
     rw[List.length_take]at h2;omega
    have h0:=Kh H8
    clear H8
    by_cases hlt:j < ws.length
    ·have f3:(j:Int) < ws.length:=by omega
     have a0:=eN hT hlt
     have k5:=l5.out _ (List.getElem_mem hlt)
     have d3:=cJ 5 i hlt
     obtain⟨u,d7⟩:∃ u,u=ws[j]:=⟨_,rfl⟩
     rw[<- d7]at a0 k5 d3
     rw[qCS]at d3
     have HU:=Kh d7;have b3:=Kh d3
     clear d7 d3
     have m5:(strOfNums u).size=u.length:=strOfNums_size u
     have H7:=qCT u
     by_cases hsh:u.length < i
     ·have d9:(u.length:Int) < (i:Int):=by omega
      have c9:=Kh hsh;have HE:=Kh H7
      by_cases he:u=[]
      ·have a5:(strOfNums u).toList.isEmpty=true:=by rw[H7,he];rfl
       clear H7
       have b7:=Kh he
       clear he hsh
       rw[if_pos c9.out,if_pos b7.out]at b3
       have H1:=h0.out.own.alloc (.cells #[.string (strOfNums u)] 9)
       go_wp2_with (at_builtin;refine app1 rfl (.tmp 110) (.tmp 114) _ rfl uN ba _ n svs rfl H1 _ (by rw[zM];rfl) rfl ?c1 ?c2 ?c3 ?_)
       case c1=>unfold maxLen;omega
       case c2=>omega
       case c3=>first|omega|(rw[zM];omega)
       intro sl1 c1 wp1 h4 H2 _
       obtain⟨H0,h7⟩:=(PatsUp.mk h0.out.own h0.out.rows).push (us:=oneB u) (cs:=#[.string (strOfNums u)]) (q:=1) rfl rfl (by unfold maxLen;omega) h4 H2
       have h8:=fun q (e:(Value.slice sl n c).ownBlock=some q)=>(h0.out.own.lt q e).1
       have H6:=hT.kept h7 (fun q e=>.inl (h8 q e))
       have H4:=zB hg h7 (fun q e=>by have:=h8 q e;omega)
       have h5:ba<=wp1.heap.size:=by have:=h7.size;omega
       have h6:=Kh (LUp.ofPats H0)
       clear h4 H2 H1 h7 H0 hT hg h8 H5 h0 a0
       have hT:=H6;have hg:=H4;have H5:=h5;have h0:=h6
       clear H6 H4 h5 h6
       obtain⟨svs1,h9⟩:∃ svs1,svs1=svs ++ [Value.slice (some ⟨wo.heap.size,0,none⟩) 1 1]:=⟨_,rfl⟩
       rw[<- h9]at h0
       clear h9
       go_wp2
       go_roundw
       case rel=>exact⟨j+1,_,sl1,c1,_,by go_num,by omega,rfl,by rw[b3.out];simpa using h0.out,hT,hg,H5⟩
       case measure=>simp[intOf];omega
      ·have a5:(strOfNums u).toList.isEmpty=false:=by rw[H7,List.isEmpty_eq_false_iff];exact he
       clear H7
       have b7:=Kh he
       clear he hsh
       rw[if_pos c9.out,if_neg b7.out]at b3
       have H1:=h0.out.own.alloc (.cells #[.string (strOfNums u)] 9)
       go_wp2_with (at_builtin;refine app1 rfl (.tmp 110) (.tmp 114) _ rfl uN ba _ n svs rfl H1 _ (by rw[zM];rfl) rfl ?c1 ?c2 ?c3 ?_)
       case c1=>unfold maxLen;omega
       case c2=>omega
       case c3=>first|omega|(rw[zM];omega)
       intro sl1 c1 wp1 h4 H2 _
       obtain⟨H0,h7⟩:=(PatsUp.mk h0.out.own h0.out.rows).push (us:=oneB u) (cs:=#[.string (strOfNums u)]) (q:=1) rfl rfl (by unfold maxLen;omega) h4 H2
       have h8:=fun q (e:(Value.slice sl n c).ownBlock=some q)=>(h0.out.own.lt q e).1
       have H6:=hT.kept h7 (fun q e=>.inl (h8 q e))
       have H4:=zB hg h7 (fun q e=>by have:=h8 q e;omega)
       have h5:ba<=wp1.heap.size:=by have:=h7.size;omega
       have h6:=Kh (LUp.ofPats H0)
       clear h4 H2 H1 h7 H0 hT hg h8 H5 h0 a0
       have hT:=H6;have hg:=H4;have H5:=h5;have h0:=h6
       clear H6 H4 h5 h6
       obtain⟨svs1,h9⟩:∃ svs1,svs1=svs ++ [Value.slice (some ⟨wo.heap.size,0,none⟩) 1 1]:=⟨_,rfl⟩
       rw[<- h9]at h0
       clear h9
       have H1:=h0.out.own.alloc (.cells #[.string (strOfNums u),.string ⟨#[]⟩] 9)
       go_wp2_with (at_builtin;refine app1 rfl (.tmp 128) (.tmp 132) _ rfl uN ba _ (n+1) svs1 rfl H1 _ (by rw[zM];rfl) rfl ?c1 ?c2 ?c3 ?_)
       case c1=>unfold maxLen;omega
       case c2=>omega
       case c3=>first|omega|(rw[zM];omega)
       intro sl2 c2 wp2 h4 H2 _
       obtain⟨H0,h7⟩:=(PatsUp.mk h0.out.own h0.out.rows).push (us:=preB u) (cs:=#[.string (strOfNums u),.string ⟨#[]⟩]) (q:=2) rfl rfl (by unfold maxLen;omega) h4 H2
       have h8:=fun q (e:(Value.slice sl1 (n+1) c1).ownBlock=some q)=>(h0.out.own.lt q e).1
       have H6:=hT.kept h7 (fun q e=>.inl (h8 q e))
       have H4:=zB hg h7 (fun q e=>by have:=h8 q e;omega)
       have h5:ba<=wp2.heap.size:=by have:=h7.size;omega
       have h6:=Kh (LUp.ofPats H0)
       clear h4 H2 H1 h7 H0 hT hg h8 H5 h0 
       have hT:=H6;have hg:=H4;have H5:=h5;have h0:=h6
       clear H6 H4 h5 h6
       obtain⟨svs2,h9⟩:∃ svs2,svs2=svs1 ++ [Value.slice (some ⟨wp1.heap.size,0,none⟩) 2 2]:=⟨_,rfl⟩
       rw[<- h9]at h0
       clear h9
       have H1:=h0.out.own.alloc (.cells #[.string ⟨#[]⟩,.string (strOfNums u)] 9)
       go_wp2_with (at_builtin;refine app1 rfl (.tmp 144) (.tmp 148) _ rfl uN ba _ ((n+1)+1) svs2 rfl H1 _ (by rw[zM];rfl) rfl ?c1 ?c2 ?c3 ?_)
       case c1=>unfold maxLen;omega
       case c2=>omega
       case c3=>first|omega|(rw[zM];omega)
       intro sl3 c3 wp3 h4 H2 _
       obtain⟨H0,h7⟩:=(PatsUp.mk h0.out.own h0.out.rows).push (us:=sufB u) (cs:=#[.string ⟨#[]⟩,.string (strOfNums u)]) (q:=2) rfl rfl (by unfold maxLen;omega) h4 H2
       have h8:=fun q (e:(Value.slice sl2 ((n+1)+1) c2).ownBlock=some q)=>(h0.out.own.lt q e).1
       have H6:=hT.kept h7 (fun q e=>.inl (h8 q e))
       have H4:=zB hg h7 (fun q e=>by have:=h8 q e;omega)
       have h5:ba<=wp3.heap.size:=by have:=h7.size;omega
       have h6:=Kh (LUp.ofPats H0)
       clear h4 H2 H1 h7 H0 hT hg h8 H5 h0 
       have hT:=H6;have hg:=H4;have H5:=h5;have h0:=h6
       clear H6 H4 h5 h6
       obtain⟨svs3,h9⟩:∃ svs3,svs3=svs2 ++ [Value.slice (some ⟨wp2.heap.size,0,none⟩) 2 2]:=⟨_,rfl⟩
       rw[<- h9]at h0
       clear h9
       have H1:=h0.out.own.alloc (.cells #[.string ⟨#[]⟩,.string (strOfNums u),.string ⟨#[]⟩] 9)
       go_wp2_with (at_builtin;refine app1 rfl (.tmp 152) (.tmp 156) _ rfl uN ba _ (((n+1)+1)+1) svs3 rfl H1 _ (by rw[zM];rfl) rfl ?c1 ?c2 ?c3 ?_)
       case c1=>unfold maxLen;omega
       case c2=>omega
       case c3=>first|omega|(rw[zM];omega)
       intro sl4 c4 wp4 h4 H2 _
       obtain⟨H0,h7⟩:=(PatsUp.mk h0.out.own h0.out.rows).push (us:=facB u) (cs:=#[.string ⟨#[]⟩,.string (strOfNums u),.string ⟨#[]⟩]) (q:=3) rfl rfl (by unfold maxLen;omega) h4 H2
       have h8:=fun q (e:(Value.slice sl3 (((n+1)+1)+1) c3).ownBlock=some q)=>(h0.out.own.lt q e).1
       have H6:=hT.kept h7 (fun q e=>.inl (h8 q e))
       have H4:=zB hg h7 (fun q e=>by have:=h8 q e;omega)
       have h5:ba<=wp4.heap.size:=by have:=h7.size;omega
       have h6:=Kh (LUp.ofPats H0)
       clear h4 H2 H1 h7 H0 hT hg h8 H5 h0 
       have hT:=H6;have hg:=H4;have H5:=h5;have h0:=h6
       clear H6 H4 h5 h6
       obtain⟨svs4,h9⟩:∃ svs4,svs4=svs3 ++ [Value.slice (some ⟨wp3.heap.size,0,none⟩) 3 3]:=⟨_,rfl⟩
       rw[<- h9]at h0
       clear h9
       go_wp2
       go_roundw
       case rel=>exact⟨j+1,_,sl4,c4,_,by go_num,by omega,rfl,by rw[b3.out];simpa using h0.out,hT,hg,H5⟩
       case measure=>simp[intOf];omega
     ·have d9:¬ (u.length:Int) < (i:Int):=by omega
      have c9:=Kh hsh;have HE:=Kh H7
      by_cases he:u=[]
      ·have a5:(strOfNums u).toList.isEmpty=true:=by rw[H7,he];rfl
       clear H7
       have b7:=Kh he
       clear he hsh
       rw[if_neg c9.out,if_pos b7.out]at b3
       go_wp2
       go_roundw
       case rel=>exact⟨j+1,_,sl,c,_,by go_num,by omega,rfl,by rw[b3.out];simpa using h0.out,hT,hg,H5⟩
       case measure=>simp[intOf];omega
      ·have a5:(strOfNums u).toList.isEmpty=false:=by rw[H7,List.isEmpty_eq_false_iff];exact he
       clear H7
       have b7:=Kh he
       clear he hsh
       rw[if_neg c9.out,if_neg b7.out]at b3
       have H1:=h0.out.own.alloc (.cells #[.string (strOfNums u),.string ⟨#[]⟩] 9)
       go_wp2_with (at_builtin;refine app1 rfl (.tmp 128) (.tmp 132) _ rfl uN ba _ n svs rfl H1 _ (by rw[zM];rfl) rfl ?c1 ?c2 ?c3 ?_)
       case c1=>unfold maxLen;omega
       case c2=>omega
       case c3=>first|omega|(rw[zM];omega)
       intro sl1 c1 wp1 h4 H2 _
       obtain⟨H0,h7⟩:=(PatsUp.mk h0.out.own h0.out.rows).push (us:=preB u) (cs:=#[.string (strOfNums u),.string ⟨#[]⟩]) (q:=2) rfl rfl (by unfold maxLen;omega) h4 H2
       have h8:=fun q (e:(Value.slice sl n c).ownBlock=some q)=>(h0.out.own.lt q e).1
       have H6:=hT.kept h7 (fun q e=>.inl (h8 q e))
       have H4:=zB hg h7 (fun q e=>by have:=h8 q e;omega)
       have h5:ba<=wp1.heap.size:=by have:=h7.size;omega
       have h6:=Kh (LUp.ofPats H0)
       clear h4 H2 H1 h7 H0 hT hg h8 H5 h0 a0
       have hT:=H6;have hg:=H4;have H5:=h5;have h0:=h6
       clear H6 H4 h5 h6
       obtain⟨svs1,h9⟩:∃ svs1,svs1=svs ++ [Value.slice (some ⟨wo.heap.size,0,none⟩) 2 2]:=⟨_,rfl⟩
       rw[<- h9]at h0
       clear h9
       have H1:=h0.out.own.alloc (.cells #[.string ⟨#[]⟩,.string (strOfNums u)] 9)
       go_wp2_with (at_builtin;refine app1 rfl (.tmp 144) (.tmp 148) _ rfl uN ba _ (n+1) svs1 rfl H1 _ (by rw[zM];rfl) rfl ?c1 ?c2 ?c3 ?_)
       case c1=>unfold maxLen;omega
       case c2=>omega
       case c3=>first|omega|(rw[zM];omega)
       intro sl2 c2 wp2 h4 H2 _
       obtain⟨H0,h7⟩:=(PatsUp.mk h0.out.own h0.out.rows).push (us:=sufB u) (cs:=#[.string ⟨#[]⟩,.string (strOfNums u)]) (q:=2) rfl rfl (by unfold maxLen;omega) h4 H2
       have h8:=fun q (e:(Value.slice sl1 (n+1) c1).ownBlock=some q)=>(h0.out.own.lt q e).1
       have H6:=hT.kept h7 (fun q e=>.inl (h8 q e))
       have H4:=zB hg h7 (fun q e=>by have:=h8 q e;omega)
       have h5:ba<=wp2.heap.size:=by have:=h7.size;omega
       have h6:=Kh (LUp.ofPats H0)
       clear h4 H2 H1 h7 H0 hT hg h8 H5 h0 
       have hT:=H6;have hg:=H4;have H5:=h5;have h0:=h6
       clear H6 H4 h5 h6
       obtain⟨svs2,h9⟩:∃ svs2,svs2=svs1 ++ [Value.slice (some ⟨wp1.heap.size,0,none⟩) 2 2]:=⟨_,rfl⟩
       rw[<- h9]at h0
       clear h9
       have H1:=h0.out.own.alloc (.cells #[.string ⟨#[]⟩,.string (strOfNums u),.string ⟨#[]⟩] 9)
       go_wp2_with (at_builtin;refine app1 rfl (.tmp 152) (.tmp 156) _ rfl uN ba _ ((n+1)+1) svs2 rfl H1 _ (by rw[zM];rfl) rfl ?c1 ?c2 ?c3 ?_)
       case c1=>unfold maxLen;omega
       case c2=>omega
       case c3=>first|omega|(rw[zM];omega)
       intro sl3 c3 wp3 h4 H2 _
       obtain⟨H0,h7⟩:=(PatsUp.mk h0.out.own h0.out.rows).push (us:=facB u) (cs:=#[.string ⟨#[]⟩,.string (strOfNums u),.string ⟨#[]⟩]) (q:=3) rfl rfl (by unfold maxLen;omega) h4 H2
       have h8:=fun q (e:(Value.slice sl2 ((n+1)+1) c2).ownBlock=some q)=>(h0.out.own.lt q e).1
       have H6:=hT.kept h7 (fun q e=>.inl (h8 q e))
       have H4:=zB hg h7 (fun q e=>by have:=h8 q e;omega)
       have h5:ba<=wp3.heap.size:=by have:=h7.size;omega
       have h6:=Kh (LUp.ofPats H0)
       clear h4 H2 H1 h7 H0 hT hg h8 H5 h0 
       have hT:=H6;have hg:=H4;have H5:=h5;have h0:=h6
       clear H6 H4 h5 h6
       obtain⟨svs3,h9⟩:∃ svs3,svs3=svs2 ++ [Value.slice (some ⟨wp2.heap.size,0,none⟩) 3 3]:=⟨_,rfl⟩
       rw[<- h9]at h0
       clear h9
       go_wp2
       go_roundw
       case rel=>exact⟨j+1,_,sl3,c3,_,by go_num,by omega,rfl,by rw[b3.out];simpa using h0.out,hT,hg,H5⟩
       case measure=>simp[intOf];omega
    ·obtain rfl:j=ws.length:=by omega
     rw[List.take_length]at h0
     have b5:Hid (refL 5 L i M=genL 5 i ws ++ []):=Kh (by rw[refL,l4.out];rfl)
     clear hlt hj
     rw[List.append_nil]at b5
     clear hT
     rw[<- b5.out]at h0
     obtain⟨RL,f7⟩:∃ RL,RL=refL 5 L i M:=⟨_,rfl⟩
     have H9:=Kh f7
     rw[<- f7]at h0
     clear f7 b5
     have i1:=h0.out.len
     by_cases hlim:300 < n
     ·have b2:(300:Int) < (n:Int):=by omega
      have H3:=Kh (nT HO.out (.inr (g0.out.2 (j4.out.1 (by rw[<- H9.out];omega)))))
      clear hlim
      go_wp2
      refine bodyPost_ret (v:=.tuple #[.slice none 0 0,.int .i64 3]) (by simp[results,Try.results45,go_sem]) rfl ?_
      rw[H3.out.1,H3.out.2]
      exact pE.nil hg
     have b2:¬ (300:Int) < (n:Int):=by omega
     have k0:=Kh (gC HO.out (fun h=>absurd h.1 (by decide)) (fun h=>by have:=j4.out.2 (g0.out.1 h);rw[<- H9.out]at this;omega))
     have j7:Hid RL.Nodup:=Kh (by rw[H9.out];exact dB (by decide) (by decide) (by rw[<- H9.out];omega))
     have g6:Hid (∀ ps,tB ps->ps.Perm RL->ps=famP 5 L i M):=Kh (fun ps h1 h2=>iN (by decide) (by decide) (by rw[<- H9.out];omega) h1 (by rw[<- H9.out];exact h2))
     have j6:Hid (∀ p∈RL,okP p):=Kh (fun p hp=>by rw[H9.out]at hp;exact qAQ hl6 hk8 (by omega) hp)
     have c7:n<=300:=by omega
     have l8:=Kh i1
     clear hlim i1 H9
     obtain⟨NL,j2⟩:∃ NL,NL=n:=⟨_,rfl⟩
     rw[<- j2]at h0 l8 c7 b2 ⊢
     clear j2
     obtain⟨SL,j0⟩:∃ SL,SL=sl:=⟨_,rfl⟩
     rw[<- j0]at h0 ⊢
     clear j0
     obtain⟨SC,j1⟩:∃ SC,SC=c:=⟨_,rfl⟩
     rw[<- j1]at h0 ⊢
     clear j1
     go_wp2
     go_loopg [194] NL (fun gh iv wx=>∃ (q:Nat) (sv:List Value) (ps:List (List (List Int))),gh+q=NL/\iv=.int .i64 (q:Int)/\LUp 28 ba wx (.slice SL NL SC) NL sv ps/\Hid (tB (ps.take q)/\ps.Perm RL)/\w.grownBy wx none)
     case atStart=>exact⟨0,_,_,rfl,rfl,h0.out,Kh ⟨by simp[tB],List.Perm.refl _⟩,hg⟩
     case round =>
      clear h0 hg
      obtain⟨q,sv,ps,c5,rfl,H8,b8,hg⟩:=hrel
      obtain⟨wa,rfl⟩:∃ wa:World,wa=wr:=⟨_,rfl⟩
      have a7:=Kh c5;have h0:=Kh H8
      clear c5
      by_cases hq:q < NL
      ·have m6:(q:Int) < (NL:Int):=by omega
       rcases id H8.own.2 with ⟨_,e2⟩|⟨g,cap,cur,e1,hgb,_,hnc,hcm,_,_⟩
       ·omega
       simp only[Value.slice.injEq]at e1
       obtain⟨rfl,_,rfl⟩:=e1
       have l3:SC<=9223372036854775807:=by unfold maxLen at hcm;omega
       have m3:w.heap.size<=g:=by omega
       have j9:Hid (InsI RL ps q q):=Kh (dV b8.out.1 (by have:=H8.len;omega) b8.out.2)
       clear H8 b8 hcm
       go_wp2
       go_loopg [21] q (fun gh jv wx=>∃ (j:Nat) (sv:List Value) (ps:List (List (List Int))),j=gh/\j<=q/\jv=.int .i64 (j:Int)/\LUp 28 ba wx (.slice (some ⟨g,0,none⟩) NL SC) NL sv ps/\Hid (InsI RL ps q j)/\w.grownBy wx none)
       case atStart=>exact⟨q,sv,ps,rfl,Nat.le_refl _,rfl,h0.out,j9,hg⟩
       case round =>
        clear h0 j9 hg
        obtain⟨j,sv,ps,rfl,m9,rfl,H8,b9,hg⟩:=hrel
        obtain⟨wb,rfl⟩:∃ wb:World,wb=wr:=⟨_,rfl⟩
        by_cases hj0:j=0
        ·subst hj0
         have h0:=Kh H8
         clear H8
         go_wp2
         go_quiet (fail)
         go_wp2
         go_roundg (NL - (q+1))
         case measure=>have:=a7.out;omega
         case rel=>exact⟨q+1,sv,ps,by have:=a7.out;omega,by go_num,h0.out.kept (zU wb _ none) (by simp),Kh (kC b9.out j7.out (.inl rfl)),zB hg (zU wb _ none) (by simp)⟩
        ·obtain⟨k,i5⟩:∃ k,j=k+1:=⟨j - 1,by omega⟩
         obtain⟨a1,d1,p1,e3,e7,b1,g9⟩:=H8.at (i:=k) (by omega)
         obtain⟨a2,d2,p2,e0,e6,b0,g8⟩:=H8.at (i:=j) (by omega)
         obtain⟨A0,x0,B0,C0,e4,_,_,_,_,a3⟩:=b9.out
         have f0:=j6.out p1 (a3.mem_iff.1 (List.mem_of_getElem? e7))
         have e8:=j6.out p2 (a3.mem_iff.1 (List.mem_of_getElem? e6))
         clear e4 a3
         have a4:wb.grownBy wb.drew none:=zL wb none
         have b6:=Kh (aJ wb.heap.size wb.heap.size wb.drew (.slice a2 p2.length d2) (.slice a1 p1.length d1) p2 p1 (g8.kept a4 (by simp)).row (g9.kept a4 (by simp)).row e8.2 f0.2 e8.1 f0.1)
         have h0:=Kh H8
         have l1:(0:Int) < (j:Int):=by omega
         have f4:0 < j:=by omega
         have n3:decide ((0:Int) < (j:Int))=true:=decide_eq_true l1
         have n0:decide (0 < j)=true:=decide_eq_true f4
         have m8:(j:Int) < (NL:Int):=by omega
         have k9:(k:Int) < (NL:Int):=by omega
         have m2:IntKind.i64.wrap ((j:Int) - 1)=(k:Int):=by rw[IntWalk.i64_in _ (by omega)];omega
         have k3:IntKind.i64.wrap (k:Int)=(k:Int):=IntWalk.i64_in _ (by omega)
         have l0:(0:Int)<=(k:Int):=by omega
         have i4:(k:Int)<=300:=by omega
         have k7:(j:Int) - 1=(k:Int):=by omega
         have c0:=Kh i5
         have d6:Hid (∀ W,wb.drew.grownBy W none->W.cell? ⟨g,j,none⟩=some (.slice a2 p2.length d2)/\W.cell? ⟨g,k,none⟩=some (.slice a1 p1.length d1)):=Kh (fun W hW=>⟨yL (yL b0 a4) hW,yL (yL b1 a4) hW⟩)
         obtain⟨n2,i2⟩:∃ n2,n2=p2.length:=⟨_,rfl⟩
         obtain⟨n1,i3⟩:∃ n1,n1=p1.length:=⟨_,rfl⟩
         rw[<- i3]at e3 b1 b6 d6
         rw[<- i2]at e0 b0 b6 d6
         have l6:=Kh e3;have d5:=Kh e0;have g3:=Kh e7;have g2:=Kh e6
         clear H8 g9 g8 f0 e8 e3 e0 e7 e6 i3 i2 i5 hj0
         cases hle:xR p2 p1 with
         | false =>
          rw[hle]at b6
          have m1:=Kh (kC b9.out j7.out (.inr ⟨k,p1,p2,c0.out,g3.out,by rw[<- c0.out];exact g2.out,hle⟩))
          clear hle b9
          go_wp2
          go_region_held3 (fun W=>W.cell? ⟨g,j,none⟩=some (.slice a2 n2 d2)/\W.cell? ⟨g,k,none⟩=some (.slice a1 n1 d1))
           (first|go_keep|exact d6.out _ a6|fail)
           (first|(go_at_call 78;(with_reducible refine b6.out.mono ?_);rintro e w7 ⟨rfl,a6⟩)|fail)
          go_wp2
          go_roundg (NL - (q+1))
          case measure=>have:=a7.out;omega
          case rel=>exact⟨q+1,sv,ps,by have:=a7.out;omega,by go_num,(h0.out.kept a4 (by simp)).kept a6 (by simp),m1,zB (zB hg a4 (by simp)) a6 (by simp)⟩
         | true =>
          rw[hle]at b6
          have g1:=Kh (aO (by rw[<- c0.out];exact b9.out) g3.out (by rw[<- c0.out];exact g2.out) hle)
          clear hle b9
          go_wp2
          go_region_held3 (fun W=>W.cell? ⟨g,j,none⟩=some (.slice a2 n2 d2)/\W.cell? ⟨g,k,none⟩=some (.slice a1 n1 d1))
           (first|go_keep|exact d6.out _ a6|fail)
           (first|(go_at_call 78;(with_reducible refine b6.out.mono ?_);rintro e w7 ⟨rfl,a6⟩)|fail)
          have b4:=(h0.out.kept a4 (by simp)).kept a6 (by simp)
          have i6:=zB (zB hg a4 (by simp)) a6 (by simp)
          have k1:=yL (yL b1 a4) a6
          have k2:=yL (yL b0 a4) a6
          rcases id b4.own.2 with ⟨e1,_⟩|⟨g',cap,cur,e1,_,hgk,_,_,_,_⟩
          ·simp at e1
          simp only[Value.slice.injEq,Option.some.injEq,Addr.mk.injEq,and_true]at e1
          obtain⟨rfl,_,rfl⟩:=e1
          have f1:=frozen_of_row w7 g k _ _ hgk
          have f2:=frozen_of_row w7 g j _ _ hgk
          have g4:=Kh b4;have m0:=Kh i6;have n8:=Kh hgk
          clear b4 i6 hgk hg a4 a6 b1 b0 h0 b6
          go_wp2
          go_region
          all_goals
           go_wp2
           go_roundg k
           case measure=>have:=c0.out;omega
           case rel =>
            have e9:=c0.out
            subst e9
            obtain⟨k6,l2⟩:=g4.out.drewN.swap l6.out d5.out g3.out g2.out (W:=_) (by first|exact .inl rfl|exact .inr rfl)
            exact⟨k,_,_,rfl,by omega,by go_num,k6,g1,zB (zB m0.out (zL w7 none) (by simp)) l2 (fun x e=>by have:g=x:=Oj e;omega)⟩
      ·obtain rfl:q=NL:=by have:=a7.out;omega
       have e5:=H8.len
       have i0:ps=famP 5 L i M:=g6.out ps (by have:=b8.out.1;rwa [e5,List.take_length]at this) b8.out.2
       have l7:=Kh i0;have j5:=Kh e5
       clear i0 e5 H8 b8
       go_wp2
       refine bodyPost_ret (v:=.tuple #[.slice SL q SC,.int .i64 0]) (by simp[results,Try.results45,go_sem]) rfl ?_
       rw[k0.out.1,k0.out.2,<- l7.out]
       exact⟨SL,SC,sv,by rw[<- j5.out],by rw[<- j5.out];exact RowT.of_owns h0.out.own,h0.out.rows,hg⟩
end Go.Proofs.Ytjfdomfendbhfaa
