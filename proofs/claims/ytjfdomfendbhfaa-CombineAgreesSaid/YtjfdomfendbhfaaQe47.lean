/- Part 47 of the proof: RFam6, Fam34. -/
import Derived.Test.YtjfdomfendbhfaaQe46
import Derived.BigRegion
set_option linter.unusedVariables false
set_option linter.unusedSimpArgs false
namespace Go.Proofs.Ytjfdomfendbhfaa
open Go.RowKit
set_option maxRecDepth 100000 in
set_option maxHeartbeats 4000000 in
theorem rfam6_any (L K M:Nat) (w:World) (hl1:1<=L) (hl6:L<=6) (hk1:1<=K) (hk8:K<=8) (hm:M=0) :
  Calls Try.prog 45 #[.int .i64 6,.int .i64 L,.int .i64 K,.int .i64 M] w (pE w (famE 6 L K M) (famL 6 L K M)):=by
 have i7:=Kh (pZ w (L:Int))
 rw[decide_eq_true (show 1<=(L:Int)/\(L:Int)<=6 by omega)]at i7
 have ho:oL 6 L K M=true:=by simp[oL];omega
 have HO:=Kh ho
 have i3:=Kh (qAM (kind:=6) (letters:=L) (k:=K) (m:=M) (by decide) (by decide) hl1 (fun _=>by omega))
 have l4:=Kh (qAP (kind:=6) (letters:=L) (k:=K) (by decide) (by decide) M)
 have p5:=Kh (qBH (kind:=6) (L:=L) (K:=K) M)
 have q4:((M:Int) != 0)=false:=by rw[hm];rfl
 clear ho
 by_cases h6:8 < (K:Int)+2
 ·have h3:=nT HO.out (.inl ⟨rfl,h6⟩)
  have H3:=Kh h3
  clear h3
  go_enter Try.func45,Try.ntmps45
  go_wp2_with fail
  refine i7.out.mono ?_
  rintro e w ⟨rfl,rfl⟩
  go_wp2
  refine bodyPost_ret (v:=.tuple #[.slice none 0 0,.int .i64 3]) (by simp[results,Try.results45,go_sem]) rfl ?_
  rw[H3.out.1,H3.out.2]
  exact pE.nil (zN _ _)
 have i2:Hid (∀ i,i<=K->(upTo L (i+1)).length<=20000000):=Kh (fun i hi=>by have:=oE L hl6 (i+1) (by omega);omega)
 go_enter Try.func45,Try.ntmps45
 go_wp2_with fail
 refine i7.out.mono ?_
 rintro e w ⟨rfl,rfl⟩
 go_wp2
 go_loopg [11,12,13] K (fun gh vc vi vp wr=>∃ i:Nat,gh+i=K/\vc=.int .i64 (((upTo L (i+1)).length:Nat):Int)/\vi=.int .i64 (i:Int)/\vp=.int .i64 ((L ^ i:Nat):Int)/\w=wr)
 case atStart=>exact⟨0,rfl,by rw[xH,List.length_append,vD];simp[upTo],rfl,rfl,rfl⟩
 case round =>
  obtain⟨i,a8,rfl,rfl,rfl,rfl⟩:=hrel
  have H5:=Kh a8
  clear a8
  have k9:=i2.out i (by have:=H5.out;omega)
  by_cases hlt:i < K
  ·have g4:(i:Int) < (K:Int):=by omega
   have k8:=i2.out (i+1) (by omega)
   have f5:=nE L i
   rw[f5]at k8
   have i4:=Kh f5
   obtain⟨CN,e5⟩:∃ CN,CN=(upTo L (i+1)).length:=⟨_,rfl⟩
   obtain⟨PW,i1⟩:∃ PW,PW=L ^ i:=⟨_,rfl⟩
   obtain⟨P2,d0⟩:∃ P2,P2=L ^ i * L:=⟨_,rfl⟩
   have n5:(PW:Int) * (L:Int)=(P2:Int):=by rw[d0,i1];push_cast;rfl
   have e8:Hid ((upTo L (i+1+1)).length=CN+P2/\L ^ (i+1)=P2):=Kh ⟨by rw[i4.out,e5,d0],by rw[d0,Nat.pow_succ]⟩
   rw[<- d0,<- e5]at k8
   rw[<- e5,<- i1]
   clear f5 e5 i1 d0 k9
   go_wp2
   go_roundg (K - (i+1))
   case measure=>have:=H5.out;omega
   case rel=>exact⟨i+1,by have:=H5.out;omega,by rw[e8.out.1];go_num,by go_num,by rw[e8.out.2],rfl⟩
  ·obtain rfl:i=K:=by have:=H5.out;omega
   clear hlt i2
   obtain⟨ws,H6⟩:∃ ws,ws=yP L i:=⟨_,rfl⟩
   have o3:=Kh H6
   have d6:upTo L (i+1)=ws:=H6.symm
   rw[d6]at k9 ⊢
   have i9:Hid (ws.length<=(famP 6 L i M).length+1):=Kh (by rw[H6];exact p5.out)
   have q0:1<=ws.length:=by rw[H6];exact gN hl1
   have r3:Hid (1<=i->2<=ws.length):=Kh (fun h=>by rw[H6];exact bO hl1 h)
   have r1:Hid (∀ r (h:r < ws.length),(ws[r]=[] ↔ r=0)):=Kh (by subst H6;exact fun r h=>kG h)
   have o4:Hid (∀ u∈ws,u.length<=8):=Kh (by subst H6;exact fun u hu=>kF hk8 hu)
   have o8:Hid (∀ u∈ws,okW u):=Kh (by subst H6;exact fun u hu=>okB hl6 (n:=i+1) hu)
   have e6:Hid (ws.length<=301->Calls Try.prog 76 #[.int .i64 L,.int .i64 i] w (qCC w ws)):=Kh (fun h=>by rw[<- d6];exact bN L i w hl1 hl6 hk8 (by rw[d6];omega))
   clear H6 d6
   by_cases hbig:300 < (ws.length:Int) - 1
   ·have h3:=nT HO.out (.inr (i3.out.2 (by have:=i9.out;omega)))
    have H3:=Kh h3
    clear h3
    go_wp2
    refine bodyPost_ret (v:=.tuple #[.slice none 0 0,.int .i64 3]) (by simp[results,Try.results45,go_sem]) rfl ?_
    rw[H3.out.1,H3.out.2]
    exact pE.nil (zN _ _)
   have d4:=Kh (e6.out (by omega))
   clear e6
   go_wp2_with fail
   refine d4.out.mono ?_
   rintro e w1 ⟨sa,sc,rfl,H7,g7⟩
   obtain⟨b,off,rfl,r0,k6⟩:=iE H7 (by omega)
   have q9:sc<=9223372036854775807:=by unfold maxLen at k6;omega
   have j3:ws.length<=301:=by omega
   clear d4 k6 hbig
   obtain⟨ba,g8⟩:∃ ba,ba=w1.heap.size:=⟨_,rfl⟩
   rw[<- g8]at H7
   have e4:ba<=w1.heap.size:=by omega
   have m5:w.heap.size<=ba:=by rw[g8];exact g7.size
   clear g8
   go_wp2
   go_loopw [15,90] (fun v iv wr=>∃ (j n:Nat) (sl:Option Addr) (c:Nat) (svs:List Value),iv=.int .i64 (j:Int)/\j<=ws.length/\v=.slice sl n c /\
     LUp 28 ba wr (.slice sl n c) n svs (genL 6 i (ws.take j))/\RowT ba 9 wr (.slice (some ⟨b,off,none⟩) ws.length sc) (strs ws)/\w.grownBy wr none/\ba<=wr.heap.size)
    (fun _ iv _=>ws.length - (intOf iv).toNat)
   case atStart=>exact⟨0,0,none,0,[],rfl,Nat.zero_le _,rfl,by simpa [genL] using LUp.nil (by decide) _ _,H7,g7,e4⟩
   case round =>
    clear H7 g7 e4
    obtain⟨j,n,sl,c,svs,rfl,hj,rfl,h8,hT,hg,e4⟩:=hrel
    obtain⟨wo,rfl⟩:∃ wo:World,wo=wr:=⟨_,rfl⟩
    have hn:n<=1600:=by
     have h1:=h8.len
     have h2:=fS 6 i (ws.take j)
     rw[List.length_take]at h2;omega
    have h0:=Kh h8
    clear h8
    by_cases hlt:j < ws.length
    ·have g4:(j:Int) < ws.length:=by omega
     have a9:=eN hT hlt
     have m6:=o4.out _ (List.getElem_mem hlt)
     have d8:=cJ 6 i hlt
     obtain⟨u,f4⟩:∃ u,u=ws[j]:=⟨_,rfl⟩
     rw[<- f4]at a9 m6 d8
     rw[qCR]at d8
     have HU:=Kh f4;have e7:=Kh d8
     clear f4 d8
     have q1:(strOfNums u).size=u.length:=strOfNums_size u
     have H9:=qCT u
     by_cases he:u=[]
     ·have c9:(strOfNums u).toList.isEmpty=true:=by rw[H9,he];rfl
      clear H9
      have j1:=Kh he
      clear he
      rw[if_pos j1.out,List.append_nil]at e7
      go_wp2
      go_roundw
      case rel=>exact⟨j+1,_,sl,c,_,by go_num,by omega,rfl,by rw[e7.out];exact h0.out,hT,hg,e4⟩
      case measure=>simp[intOf];omega
     ·have c9:(strOfNums u).toList.isEmpty=false:=by rw[H9,List.isEmpty_eq_false_iff];exact he
      clear H9
      have j1:=Kh he
      clear he
      rw[if_neg j1.out]at e7
      have o9:=Kh (o8.out u (by rw[HU.out];exact List.getElem_mem hlt))
      have g0:wo.grownBy (wo.alloc (.cells #[.string ⟨#[]⟩] 9)) none:=Ga _ _ _
      have ho:=World.ownsRow_lit (e:=9) (size:=1) wo #[.string ⟨#[]⟩] 1 (Nat.le_refl _) (by unfold maxLen;omega) (by simp)
      have k4:((wo.alloc (.cells #[.string ⟨#[]⟩] 9)).iter (strOfNums u) 0).heap[wo.heap.size+1]?=some (.stringIter (strOfNums u) 0):=by
       have:=World.iter_heap (wo.alloc (.cells #[.string ⟨#[]⟩] 9)) (strOfNums u) 0
       rwa [zM]at this
      have l7:=Kh (ho.alloc (.stringIter (strOfNums u) 0));have l9:=Kh k4
      have m1:=Kh (xO g0 (.stringIter (strOfNums u) 0))
      clear ho k4 g0
      go_wp2
      go_loopg [18] u.length (fun gh v wq=>∃ (p:Nat) (sb:Option Addr) (cb:Nat),gh+p=u.length/\v=.slice sb (1+p) cb/\wq.ownsRow wo.heap.size 9 1 (.slice sb (1+p) cb) (1+p) (strs (qA u p))/\wq.heap[wo.heap.size+1]?=some (.stringIter (strOfNums u) p)/\wo.grownBy wq none)
      case atStart=>exact⟨0,_,_,rfl,rfl,l7.out,l9.out,m1.out⟩
      case round =>
       clear l7 l9 m1
       obtain⟨p,sb,cb,a8,rfl,h4,H0,c8⟩:=hrel
       obtain⟨wq,rfl⟩:∃ wq:World,wq=wr:=⟨_,rfl⟩
       have b4:=Kh a8
       clear a8
       by_cases a5:p < u.length
       ·have a4:p < (strOfNums u).size:=by omega
        have c4:∀ ty,(Instr.next (.pointer (some ⟨wo.heap.size+1,0,none⟩)) true ty).run Try.prog wq=_:=fun ty=>Lib.run_next_ascii_at wq (wo.heap.size+1) (strOfNums u) p ty H0 a4 (str_ascii o9.out a5 a4)
        have o0:=extract_one u p a5
        have b1:=Lib.iterAt_heap wq (wo.heap.size+1) (strOfNums u) p (p+1) H0
        have g6:=grown_iterAt wq (wo.heap.size+1) (strOfNums u) (p+1)
        have h7:=h4.kept g6 (.inr (lB h4 H0).symm)
        have H8:=zB c8 g6 (fun q e=>by have:=Oj e;omega)
        obtain⟨BY,l3⟩:∃ BY:Nat,BY=((strOfNums u)[p]'a4).toNat:=⟨_,rfl⟩
        rw[<- l3]at c4
        obtain⟨wi,j2⟩:∃ wi,wq.iterAt (wo.heap.size+1) (strOfNums u) (p+1)=wi:=⟨_,rfl⟩
        rw[j2]at c4 b1 h7 H8
        have d5:=Kh b1
        have n3:(p:Int)+1<=8:=by omega
        have q3:(p:Int) < ((strOfNums u).size:Int):=by omega
        have n4:(p:Int)+1<=((strOfNums u).size:Int):=by omega
        clear l3 j2 g6 h4 H0 c8 b1
        go_wp2_with (at_builtin;refine app1 rfl (.tmp 166) (.tmp 172) _ rfl pR wo.heap.size _ (1+p) (strs (qA u p)) rfl h7 _ rfl rfl ?c1 ?c2 ?c3 ?_)
        case c1=>unfold maxLen;omega
        case c2=>omega
        case c3=>exact H8.size
        intro sb' cb' w3 h5 b8 _
        have k7:=fun q (e:(Value.slice sb (1+p) cb).ownBlock=some q)=>(h7.lt q e).1
        have b7:=zB H8 b8 k7
        have c7:=zA d5.out b8 (fun e=>lB h7 d5.out e.symm)
        have e1:strs (qA u (p+1))=strs (qA u p) ++ [.string (strOfNums [u[p]])]:=by
         rw[qA,qA,List.take_succ_eq_append_getElem a5,List.map_append,<- List.append_assoc,oH];rfl
        have HE:=Kh e1;have p0:=Kh h5;have p4:=Kh c7
        clear h7 H8 b8 o0 e1 h5 c7 c4 k7
        go_wp2
        go_roundg (u.length - (p+1))
        case measure=>have:=b4.out;omega
        case rel=>exact⟨p+1,sb',cb',by have:=b4.out;omega,rfl,by rw[HE.out];exact p0.out,p4.out,b7⟩
       ·obtain⟨ub,d7⟩:∃ ub,ub=qA u p:=⟨_,rfl⟩
        have n0:p=u.length:=by have:=b4.out;omega
        have f3:ub.length=1+p:=by rw[d7];simp[qA];omega
        have c0:tC u=ub ++ [[]]:=by rw[d7,qA,List.take_of_length_le (by omega)];rfl
        have a4:¬ p < (strOfNums u).size:=by omega
        have n3:p<=8:=by omega
        have c4:∀ ty,(Instr.next (.pointer (some ⟨wo.heap.size+1,0,none⟩)) true ty).run Try.prog wq=_:=fun ty=>Lib.run_next_end_at wq (wo.heap.size+1) (strOfNums u) p ty H0 a4
        rw[<- d7]at h4
        have e6:=Kh c0
        clear d7 f3 c0 n0 H0 a5
        go_wp2_with (at_builtin;refine app1 rfl (.tmp 175) (.tmp 176) _ rfl pR wo.heap.size _ (1+p) (strs ub) rfl h4 _ rfl rfl ?c1 ?c2 ?c3 ?_)
        case c1=>unfold maxLen;omega
        case c2=>omega
        case c3=>exact c8.size
        intro sb' cb' w3 h5 b8 _
        have b7:=zB c8 b8 (fun q e=>(h4.lt q e).1)
        have e3:strs ub ++ [.string ⟨#[]⟩]=strs (tC u):=by rw[e6.out,oH];rfl
        rw[e3]at h5
        have c6:=h0.out.kept b7 (by simp)
        have m9:=b7.size
        clear h4 b8 c8 c4 e3
        go_wp2_with (at_builtin;refine app1 rfl (.tmp 174) (.tmp 179) _ rfl uN ba _ n svs rfl c6.own _ rfl rfl ?c1 ?c2 ?c3 ?_)
        case c1=>unfold maxLen;omega
        case c2=>omega
        case c3=>omega
        intro sl5 c5 w5 a6 k5 _
        obtain⟨j6,e0⟩:=h0.out.push (us:=tC u) b7 h5 a6 k5
        have g9:=fun q (e:(Value.slice sl n c).ownBlock=some q)=>(h0.out.own.lt q e).1
        have o1:=hT.kept e0 (fun q e=>.inl (g9 q e))
        have d9:=zB hg e0 (fun q e=>by have:=g9 q e;omega)
        have m3:ba<=w5.heap.size:=by have:=e0.size;omega
        have o7:=Kh j6
        clear h5 a6 b7 k5 e0 c6 j6 hT hg g9 h0 m9 a9
        go_wp2
        go_roundw
        case rel=>exact⟨j+1,n+1,sl5,c5,_,by go_num,by omega,rfl,by rw[e7.out];exact o7.out,o1,d9,m3⟩
        case measure=>simp[intOf];omega
    ·obtain rfl:j=ws.length:=by omega
     rw[List.take_length]at h0
     have b2:Hid (refL 6 L i M=genL 6 i ws ++ []):=Kh (by rw[refL,o3.out];rfl)
     clear hlt hj
     rw[List.append_nil]at b2
     clear hT
     rw[<- b2.out]at h0
     obtain⟨RL,i0⟩:∃ RL,RL=refL 6 L i M:=⟨_,rfl⟩
     have h9:=Kh i0
     rw[<- i0]at h0
     clear i0 b2
     have j7:=h0.out.len
     by_cases hlim:300 < n
     ·have a7:(300:Int) < (n:Int):=by omega
      have H3:=Kh (nT HO.out (.inr (i3.out.2 (l4.out.1 (by rw[<- h9.out];omega)))))
      clear hlim
      go_wp2
      refine bodyPost_ret (v:=.tuple #[.slice none 0 0,.int .i64 3]) (by simp[results,Try.results45,go_sem]) rfl ?_
      rw[H3.out.1,H3.out.2]
      exact pE.nil hg
     have a7:¬ (300:Int) < (n:Int):=by omega
     have m2:=Kh (gC HO.out (fun h=>by omega) (fun h=>by have:=l4.out.2 (i3.out.1 h);rw[<- h9.out]at this;omega))
     have l8:Hid RL.Nodup:=Kh (by rw[h9.out];exact dB (by decide) (by decide) (by rw[<- h9.out];omega))
     have j0:Hid (∀ ps,tB ps->ps.Perm RL->ps=famP 6 L i M):=Kh (fun ps h1 h2=>iN (by decide) (by decide) (by rw[<- h9.out];omega) h1 (by rw[<- h9.out];exact h2))
     have l6:Hid (∀ p∈RL,okP p):=Kh (fun p hp=>by rw[h9.out]at hp;exact qAQ hl6 hk8 (by omega) hp)
     have d3:n<=300:=by omega
     have p3:=Kh j7
     clear hlim j7 h9
     obtain⟨NL,l2⟩:∃ NL,NL=n:=⟨_,rfl⟩
     rw[<- l2]at h0 p3 d3 a7 ⊢
     clear l2
     obtain⟨SL,l0⟩:∃ SL,SL=sl:=⟨_,rfl⟩
     rw[<- l0]at h0 ⊢
     clear l0
     obtain⟨SC,l1⟩:∃ SC,SC=c:=⟨_,rfl⟩
     rw[<- l1]at h0 ⊢
     clear l1
     go_wp2
     go_loopg [194] NL (fun gh iv wx=>∃ (q:Nat) (sv:List Value) (ps:List (List (List Int))),gh+q=NL/\iv=.int .i64 (q:Int)/\LUp 28 ba wx (.slice SL NL SC) NL sv ps/\Hid (tB (ps.take q)/\ps.Perm RL)/\w.grownBy wx none)
     case atStart=>exact⟨0,_,_,rfl,rfl,h0.out,Kh ⟨by simp[tB],List.Perm.refl _⟩,hg⟩
     case round =>
      clear h0 hg
      obtain⟨q,sv,ps,a8,rfl,h8,b5,hg⟩:=hrel
      obtain⟨wa,rfl⟩:∃ wa:World,wa=wr:=⟨_,rfl⟩
      have H5:=Kh a8;have h0:=Kh h8
      clear a8
      by_cases hq:q < NL
      ·have q2:(q:Int) < (NL:Int):=by omega
       rcases id h8.own.2 with ⟨_,e2⟩|⟨g,cap,cur,e1,hgb,_,hnc,hcm,_,_⟩
       ·omega
       simp only[Value.slice.injEq]at e1
       obtain⟨rfl,_,rfl⟩:=e1
       have o2:SC<=9223372036854775807:=by unfold maxLen at hcm;omega
       have p9:w.heap.size<=g:=by omega
       have m0:Hid (InsI RL ps q q):=Kh (dV b5.out.1 (by have:=h8.len;omega) b5.out.2)
       clear h8 b5 hcm
       go_wp2
       go_loopg [21] q (fun gh jv wx=>∃ (j:Nat) (sv:List Value) (ps:List (List (List Int))),j=gh/\j<=q/\jv=.int .i64 (j:Int)/\LUp 28 ba wx (.slice (some ⟨g,0,none⟩) NL SC) NL sv ps/\Hid (InsI RL ps q j)/\w.grownBy wx none)
       case atStart=>exact⟨q,sv,ps,rfl,Nat.le_refl _,rfl,h0.out,m0,hg⟩
       case round =>
        clear h0 m0 hg
        obtain⟨j,sv,ps,rfl,q6,rfl,h8,b6,hg⟩:=hrel
        obtain⟨wb,rfl⟩:∃ wb:World,wb=wr:=⟨_,rfl⟩
        by_cases hj0:j=0
        ·subst hj0
         have h0:=Kh h8
         clear h8
         go_wp2
         go_quiet (fail)
         go_wp2
         go_roundg (NL - (q+1))
         case measure=>have:=H5.out;omega
         case rel=>exact⟨q+1,sv,ps,by have:=H5.out;omega,by go_num,h0.out.kept (zU wb _ none) (by simp),Kh (kC b6.out l8.out (.inl rfl)),zB hg (zU wb _ none) (by simp)⟩
        ·obtain⟨k,k3⟩:∃ k,j=k+1:=⟨j - 1,by omega⟩
         obtain⟨a1,d1,p1,f7,g1,a3,j5⟩:=h8.at (i:=k) (by omega)
         obtain⟨a2,d2,p2,f6,f9,a0,j4⟩:=h8.at (i:=j) (by omega)
         obtain⟨A0,x0,B0,C0,f8,_,_,_,_,H1⟩:=b6.out
         have g3:=l6.out p1 (H1.mem_iff.1 (List.mem_of_getElem? g1))
         have g2:=l6.out p2 (H1.mem_iff.1 (List.mem_of_getElem? f9))
         clear f8 H1
         have H2:wb.grownBy wb.drew none:=zL wb none
         have b3:=Kh (aJ wb.heap.size wb.heap.size wb.drew (.slice a2 p2.length d2) (.slice a1 p1.length d1) p2 p1 (j4.kept H2 (by simp)).row (j5.kept H2 (by simp)).row g2.2 g3.2 g2.1 g3.1)
         have h0:=Kh h8
         have n8:(0:Int) < (j:Int):=by omega
         have g5:0 < j:=by omega
         have q8:decide ((0:Int) < (j:Int))=true:=decide_eq_true n8
         have q7:decide (0 < j)=true:=decide_eq_true g5
         have q5:(j:Int) < (NL:Int):=by omega
         have n6:(k:Int) < (NL:Int):=by omega
         have p8:IntKind.i64.wrap ((j:Int) - 1)=(k:Int):=by rw[IntWalk.i64_in _ (by omega)];omega
         have m4:IntKind.i64.wrap (k:Int)=(k:Int):=IntWalk.i64_in _ (by omega)
         have n7:(0:Int)<=(k:Int):=by omega
         have k0:(k:Int)<=300:=by omega
         have m8:(j:Int) - 1=(k:Int):=by omega
         have b9:=Kh k3
         have f0:Hid (∀ W,wb.drew.grownBy W none->W.cell? ⟨g,j,none⟩=some (.slice a2 p2.length d2)/\W.cell? ⟨g,k,none⟩=some (.slice a1 p1.length d1)):=Kh (fun W hW=>⟨yL (yL a0 H2) hW,yL (yL a3 H2) hW⟩)
         obtain⟨n2,j8⟩:∃ n2,n2=p2.length:=⟨_,rfl⟩
         obtain⟨n1,j9⟩:∃ n1,n1=p1.length:=⟨_,rfl⟩
         rw[<- j9]at f7 a3 b3 f0
         rw[<- j8]at f6 a0 b3 f0
         have o5:=Kh f7;have e8:=Kh f6;have i6:=Kh g1;have i5:=Kh f9
         clear h8 j5 j4 g3 g2 f7 f6 g1 f9 j9 j8 k3 hj0
         cases hle:xR p2 p1 with
         | false =>
          rw[hle]at b3
          have p7:=Kh (kC b6.out l8.out (.inr ⟨k,p1,p2,b9.out,i6.out,by rw[<- b9.out];exact i5.out,hle⟩))
          clear hle b6
          go_wp2
          go_region_held3 (fun W=>W.cell? ⟨g,j,none⟩=some (.slice a2 n2 d2)/\W.cell? ⟨g,k,none⟩=some (.slice a1 n1 d1))
           (first|go_keep|exact f0.out _ H4|fail)
           (first|(go_at_call 78;(with_reducible refine b3.out.mono ?_);rintro e w7 ⟨rfl,H4⟩)|fail)
          go_wp2
          go_roundg (NL - (q+1))
          case measure=>have:=H5.out;omega
          case rel=>exact⟨q+1,sv,ps,by have:=H5.out;omega,by go_num,(h0.out.kept H2 (by simp)).kept H4 (by simp),p7,zB (zB hg H2 (by simp)) H4 (by simp)⟩
         | true =>
          rw[hle]at b3
          have i4:=Kh (aO (by rw[<- b9.out];exact b6.out) i6.out (by rw[<- b9.out];exact i5.out) hle)
          clear hle b6
          go_wp2
          go_region_held3 (fun W=>W.cell? ⟨g,j,none⟩=some (.slice a2 n2 d2)/\W.cell? ⟨g,k,none⟩=some (.slice a1 n1 d1))
           (first|go_keep|exact f0.out _ H4|fail)
           (first|(go_at_call 78;(with_reducible refine b3.out.mono ?_);rintro e w7 ⟨rfl,H4⟩)|fail)
          have b0:=(h0.out.kept H2 (by simp)).kept H4 (by simp)
          have d9:=zB (zB hg H2 (by simp)) H4 (by simp)
          have k1:=yL (yL a3 H2) H4
          have k2:=yL (yL a0 H2) H4
          rcases id b0.own.2 with ⟨e1,_⟩|⟨g',cap,cur,e1,_,hgk,_,_,_,_⟩
          ·simp at e1
          simp only[Value.slice.injEq,Option.some.injEq,Addr.mk.injEq,and_true]at e1
          obtain⟨rfl,_,rfl⟩:=e1
          have f1:=frozen_of_row w7 g k _ _ hgk
          have f2:=frozen_of_row w7 g j _ _ hgk
          have i8:=Kh b0;have p6:=Kh d9;have r2:=Kh hgk
          clear b0 d9 hgk hg H2 H4 a3 a0 h0 b3
          go_wp2
          go_region
          all_goals
           go_wp2
           go_roundg k
           case measure=>have:=b9.out;omega
           case rel =>
            have e9:=b9.out
            subst e9
            obtain⟨m7,n9⟩:=i8.out.drewN.swap o5.out e8.out i6.out i5.out (W:=_) (by first|exact .inl rfl|exact .inr rfl)
            exact⟨k,_,_,rfl,by omega,by go_num,m7,i4,zB (zB p6.out (zL w7 none) (by simp)) n9 (fun x e=>by have:g=x:=Oj e;omega)⟩
      ·obtain rfl:q=NL:=by have:=H5.out;omega
       have a5:=h8.len
       have a4:ps=famP 6 L i M:=j0.out ps (by have:=b5.out.1;rwa [a5,List.take_length]at this) b5.out.2
       have o6:=Kh a4;have l5:=Kh a5
       clear a4 a5 h8 b5
       go_wp2
       refine bodyPost_ret (v:=.tuple #[.slice SL q SC,.int .i64 0]) (by simp[results,Try.results45,go_sem]) rfl ?_
       rw[m2.out.1,m2.out.2,<- o6.out]
       exact⟨SL,SC,sv,by rw[<- l5.out],by rw[<- l5.out];exact RowT.of_owns h0.out.own,h0.out.rows,hg⟩
end Go.Proofs.Ytjfdomfendbhfaa
namespace Go.Proofs.Ytjfdomfendbhfaa
open Go.RowKit Go.Maps
theorem famB_total {p:List (List Int)}:uP (p.map strOfNums)=(p.map List.length).sum:=by
 unfold uP
 induction p with
 | nil=>rfl
 | cons a p ih =>
  rw[List.map_cons,List.map_cons,List.sum_cons]
  simp only[List.map_cons,List.sum_cons,List.foldl_cons]at ih ⊢
  first|(rw[<- ih,strOfNums_size])|(simp[strOfNums_size,ih])
theorem wO {B:Nat} {w:World} {tb:Nat} (h:xB B w tb):∀ k,some tb=some k->zY w 28 k/\zY w 9 k:=fun k e=>by
 have e:tb=k:=Oj e
 subst e
 obtain⟨sl,zs,n,hb,_⟩:=h
 exact⟨⟨_,_,_,hb,by decide⟩,⟨_,_,_,hb,by decide⟩⟩
end Go.Proofs.Ytjfdomfendbhfaa
