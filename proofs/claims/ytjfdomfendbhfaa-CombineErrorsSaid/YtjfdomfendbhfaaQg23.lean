/- Part 23 of the proof. -/
import Derived.Test.YtjfdomfendbhfaaQg22
import Derived.Lib.OthersKept
set_option linter.unusedVariables false
set_option linter.unusedSimpArgs false
set_option maxRecDepth 100000
set_option maxHeartbeats 16000000
namespace Go.Proofs.Ytjfdomfendbhfaa
open Go.RowKit
def allC (ws:List (List Int)):Nat->List (List (List Int))
 | 0=>[]
 | i+1=>allC ws i++exts (chB ws i) ws
theorem aS (ws:List (List Int)):∀ i,chL ws i=ws.map oneB++allC ws i
 | 0=>by simp[chL,allC]
 | i+1=>by rw[chL,aS ws i,allC,List.append_assoc]
theorem qFA (ws:List (List Int))(i:Nat):∀ d,allC ws i <+: allC ws (i+d)
 | 0=>List.prefix_refl _
 | d+1=>(qFA ws i d).trans (List.prefix_append _ _)
theorem allC_pre' (ws:List (List Int)){i j:Nat}(h:i<=j):allC ws i <+: allC ws j:=by
 obtain⟨d,rfl⟩:∃ d,j=i+d:=⟨j - i,by omega⟩;exact qFA ws i d
theorem part_pre (ws:List (List Int)){n m p:Nat}(hn:n<=m)(hp:p<(chB ws n).length)(r:Nat):allC ws n++exts ((chB ws n).take p) ws++(ws.take r).map (fun u=>(chB ws n)[p]++[u]) <+: allC ws (m+1):=by
 refine List.IsPrefix.trans ?_ (allC_pre' ws (show n+1<=m+1 by omega));rw[allC,List.append_assoc];exact List.prefix_append_right_inj _ |>.2 (eB hp r)
theorem take_of_pre {α:Type}{a b:List α}(h:a <+: b){n:Nat}(hn:a.length=n):a=b.take n:=by rw[<- hn];exact List.prefix_iff_eq_take.1 h
theorem chB_all {ws:List (List Int)}(hw:1<=ws.length){n:Nat}:(chB ws n).length<=ws.length+(allC ws n).length:=by
 cases n with
 | zero=>simp[chB,allC]
 | succ n =>
  rw[chB,allC,List.length_append,vT,vT,List.length_drop];have:=Nat.mul_le_mul_left (chB ws n).length (show ws.length - 1<=ws.length by omega);omega
theorem qHV (l:List Int):(strOfNums l).toList.isEmpty=l.isEmpty:=by
 rw[ByteArray.toList_eq,strOfNums_data,Bool.eq_iff_iff,List.isEmpty_iff,List.isEmpty_iff,List.map_eq_nil_iff]
def sR (ws:List (List Int))(r:Nat):List (List Int):=(ws.take r).drop 1
theorem tailTo_one (ws:List (List Int)):sR ws 1=[]:=by cases ws<;>simp[sR]
theorem gK (ws:List (List Int)):sR ws 0=[]:=by simp[sR]
theorem tailTo_succ {ws:List (List Int)}{r:Nat}(h1:1<=r)(h:r<ws.length):sR ws (r+1)=sR ws r++[ws[r]]:=by
 rw[sR,List.take_succ_eq_append_getElem h,List.drop_append_of_le_length (by rw[List.length_take];omega)];rfl
theorem tailTo_all (ws:List (List Int)):sR ws ws.length=ws.drop 1:=by rw[sR,List.take_length]
def nxP (b:Bool)(l:List (List (List Int))):List (List (List Int)):=if b then l else []
def opP (ws:List (List Int))(m n:Nat):List (List (List Int)):=if n<=m then chB ws n else []
theorem rchains_any (B:Nat)(w:World)(v:Value)(ws:List (List Int))(m:Nat)(hB:B<=w.heap.size)(h:RowT B 9 w v (strs ws))(hm4:m<=4)(h2w:2<=ws.length)(hwl:ws.length<=301)(hw0:ws[0]=[])(hwn:∀ r (h:r<ws.length),1<=r->ws[r]≠[]):Calls Try.prog 77 #[v,.int .i64 m] w (sE w ((allC ws (m+1)).take 301)):=by
 obtain⟨va,sc,rfl⟩:=h.row.shape;rw[yT]at h ⊢;obtain⟨b,off,rfl,n1,j7⟩:=wS h (by omega);have n0:sc<=9223372036854775807:=by unfold maxLen at j7;omega
 have n3:=Kh h
 have m0:Hid (∀ r (h:r<ws.length),(strOfNums ws[r]).toList.isEmpty=decide (r=0)):=Kh (fun r h=>by
  rw[qHV];by_cases h0:r=0
  ·subst h0;rw[hw0];rfl
  ·rw[decide_eq_false h0,List.isEmpty_eq_false_iff];exact hwn r h (by omega))
 obtain⟨ba,f3⟩:∃ ba,ba=w.heap.size:=⟨_,rfl⟩;have m6:=Kh f3;have l6:w.heap.size<=ba:=by omega
 have l9:B<=ba:=by omega
 obtain⟨w1,f1⟩:∃ w1,w1=w.alloc (.cells #[] 26):=⟨_,rfl⟩;have f2:w.grownBy w1 none:=by rw[f1];exact Ga w _ none
 have g6:=heap_alloc_new w (.cells #[] 26);rw[<- f1,<- f3]at g6;have k7:Hid (LUp 26 ba w1 (.slice (some ⟨ba,0,none⟩) 0 0) 0 [] []):=Kh ⟨pK g6 (Nat.le_refl _),wH.nil,by decide⟩;have m1:=Kh f1;have j9:=h.kept f2 (by simp);have b5:ba<=w1.heap.size:=by rw[f3];exact f2.size
 clear h j7 hw0 hwn f3 f1 g6;go_enter Try.func77,Try.ntmps77;go_upto_region 3 with fail;rw[<- m1.out,<- m6.out];go_wp2
 go_loopw [6,18] (fun v i wr=>∃ (sb:Option Addr) (cb j:Nat) (svb:List Value),i=.int .i64 j/\j<=ws.length/\v=.slice sb j cb /\
   LUp 26 ba wr (.slice sb j cb) j svb ((ws.take j).map oneB)/\RowT B 9 wr (.slice (some ⟨b,off,none⟩) ws.length sc) (strs ws)/\w.grownBy wr none/\ba<=wr.heap.size)
  (fun _ i _=>ws.length - (intOf i).toNat)
 case atStart=>exact⟨_,_,0,_,rfl,Nat.zero_le _,rfl,by simpa using k7.out,j9,f2,b5⟩
 case round =>
  clear k7 j9 f2 b5;obtain⟨sb,cb,j,svb,rfl,hj,rfl,j2,hT,hg,b5⟩:=hrel;obtain⟨wo,rfl⟩:∃ wo:World,wo=wr:=⟨_,rfl⟩;have d4:=Kh j2;clear j2;by_cases hlt:j<ws.length
  ·have g0:(j:Int)<ws.length:=by omega
   have h9:=xJ hT hlt;obtain⟨u,b6⟩:∃ u,u=ws[j]:=⟨_,rfl⟩;have HU:=Kh b6;rw[<- b6]at h9;clear b6;have g1:=Ga wo (.cells #[.string (strOfNums u)] 9) none;have j0:=(d4.out.kept g1 (by simp)).own;have d8:=World.ownsRow_lit (e:=9) (size:=1) wo #[.string (strOfNums u)] 1 (Nat.le_refl _) (by unfold maxLen;omega) (by simp);go_wp2_with (at_builtin;refine app1 rfl (.tmp 22) (.tmp 25) _ rfl nW ba _ j svb rfl j0 _ (by rw[zJ];rfl) rfl ?c1 ?c2 ?c3 ?_)
   case c1=>unfold maxLen;omega
   case c2=>omega
   case c3=>(try rw[zJ]);omega
   intro sb' cb' w4 h7 e0 _;obtain⟨i9,b9⟩:=d4.out.push (us:=oneB u) g1 d8 h7 e0;have g9:=fun q (e:(Value.slice sb j cb).ownBlock=some q)=>(d4.out.own.lt q e).1;have l8:=hT.kept b9 (fun q e=>.inl (by have:=g9 q e;omega));have b0:=zA hg b9 (fun q e=>by have:=g9 q e;omega);have m8:=b9.size;have m3:=Kh i9;clear h7 e0 b9 j0 h9 i9 hT g1 d8 g9;go_wp2;go_roundw
   case rel =>
    refine⟨sb',cb',j+1,svb++[Value.slice (some ⟨wo.heap.size,0,none⟩) 1 1],by go_num,by omega,rfl,?_,l8,b0,by omega⟩;have e9:ws[j]'hlt=u:=HU.out.symm;rw[yC oneB _ j hlt,e9];exact m3.out
   case measure=>simp[intOf];omega
  ·obtain rfl:j=ws.length:=by omega
   rw[List.take_length]at d4;clear hlt;have d5:Hid (LRead wo.heap.size wo (.slice sb ws.length cb) svb (opP ws m 0)):=Kh (by rw[opP,if_pos (Nat.zero_le _)];exact LRead.of d4.out);have k5:Hid (ws.length=(opP ws m 0).length):=Kh (by rw[opP,if_pos (Nat.zero_le _)];simp[chB]);have h6:Hid (LUp 28 ba wo (.slice none 0 0) 0 [] (allC ws 0)):=Kh (LUp.nil (by decide) _ _);clear d4;go_wp2
   go_loopg [5,6,9,10] (m+1) (fun gh v5 v6 i v10 wx=>∃ (q n nb:Nat) (sl:Option Addr) (c:Nat) (svs:List Value) (sb:Option Addr) (cb:Nat) (svb:List Value),gh+q=m+1/\i=.int .i64 (q:Int)/\v5=.slice sl n c/\v6=.slice sb nb cb /\
     LUp 28 ba wx (.slice sl n c) n svs (allC ws q)/\Hid (n<=301)/\LRead wx.heap.size wx (.slice sb nb cb) svb (opP ws m q)/\Hid (nb=(opP ws m q).length)/\RowT B 9 wx (.slice (some ⟨b,off,none⟩) ws.length sc) (strs ws)/\w.grownBy wx none/\ba<=wx.heap.size)
   case atStart=>exact⟨0,0,_,none,0,[],sb,cb,svb,rfl,rfl,rfl,rfl,h6.out,Kh (by omega),d5.out,k5,hT,hg,b5⟩
   case round =>
    clear h6 d5 k5 hT hg b5 hj;obtain⟨q,n,nb,sl,c,svs,sb,cb,svb,j3,rfl,rfl,rfl,a8,H4,H0,d2,hT,hg,b5⟩:=hrel;obtain⟨wo,rfl⟩:∃ wo:World,wo=wr:=⟨_,rfl⟩;have i5:=Kh j3;have h6:=Kh a8;have H5:=Kh H0;clear j3 a8 H0;by_cases hq:q<=m
    ·have l0:(q:Int)<=(m:Int):=by omega
     have k0:opP ws m q=chB ws q:=by rw[opP,if_pos hq]
     rw[k0]at H5 d2;have f9:1<=nb:=by rw[d2.out];exact qCU h2w q
     have a7:=H4.out;have d1:=h6.out.len
     have l1:nb<=700:=by
      have:=chB_all (ws:=ws) (by omega) (n:=q);rw[d2.out];omega
     have e8:Hid (∀ bb∈chB ws q,bb.length=q+1):=Kh (fun bb h=>lU q h);have k3:Hid (∀ p (hp:p<(chB ws q).length) r,allC ws q++exts ((chB ws q).take p) ws++(ws.take r).map (fun u=>(chB ws q)[p]++[u]) <+: allC ws (m+1)):=Kh (fun p hp r=>part_pre ws hq hp r)
     have f0:Hid (allC ws (q+1)=allC ws q++exts (chB ws q) ws/\opP ws m (q+1)=nxP (decide (q<m)) (exts (chB ws q) (ws.drop 1))):=Kh ⟨rfl,by
      by_cases d6:q<m
      ·rw[opP,if_pos (by omega),decide_eq_true d6];rfl
      ·rw[opP,if_neg (by omega),decide_eq_false d6];rfl⟩
     obtain⟨Bs,f5⟩:∃ Bs,Bs=chB ws q:=⟨_,rfl⟩;obtain⟨L0,i0⟩:∃ L0,L0=allC ws q:=⟨_,rfl⟩;obtain⟨FU,f4⟩:∃ FU,FU=allC ws (m+1):=⟨_,rfl⟩;rw[<- f5]at H5 e8 f0 d2;rw[<- i0]at h6 f0
     have i1:Hid (∀ p (hp:p<Bs.length) r,L0++exts (Bs.take p) ws++(ws.take r).map (fun u=>Bs[p]++[u]) <+: FU):=Kh (by
      intro p hp r;have:=k3.out p (by rw[<- f5];exact hp) r;simp only[<- f5,<- i0,<- f4]at this
      exact this)
     rw[<- f4];have n5:=Kh f4;clear k3 f5 i0 f4 k0 H4 d1;obtain⟨nq,d1⟩:∃ nq,nq=decide (q<m):=⟨_,rfl⟩;rw[<- d1]at f0;have d6:decide ((q:Int)<(m:Int))=nq:=by rw[d1];exact decide_eq_decide.2 (by omega)
     have n4:=Kh d1;clear d1;obtain⟨bb,bo,rfl,l5,e4⟩:=qAO H5.out.row f9;have l4:cb<=9223372036854775807:=by unfold maxLen at e4;omega
     have d0:=d2;obtain⟨BB,c7⟩:∃ BB,BB=wo.heap.size:=⟨_,rfl⟩;have n2:ba<=BB:=by rw[c7];exact b5
     have c6:BB<=wo.heap.size:=by omega
     rw[<- c7]at H5
     have k4:Hid (LUp 26 BB wo (.slice none 0 0) 0 [] (nxP nq (exts (Bs.take 0) (ws.drop 1)))):=Kh (by
      have:nxP nq (exts (Bs.take 0) (ws.drop 1))=[]:=by cases nq<;>simp[nxP,exts]
      rw[this];exact LUp.nil (by decide) _ _)
     have k6:=Kh a7;clear c7 e4 d2 b5 a7;go_wp2
     go_loopw [5,10,35] (fun v5 v10 i wx=>∃ (p n nl:Nat) (sl:Option Addr) (c:Nat) (svs:List Value) (sg:Option Addr) (cg:Nat) (svg:List Value),i=.int .i64 p/\p<=nb/\v5=.slice sl n c/\v10=.slice sg nl cg /\
       LUp 28 ba wx (.slice sl n c) n svs (L0++exts (Bs.take p) ws)/\LUp 26 BB wx (.slice sg nl cg) nl svg (nxP nq (exts (Bs.take p) (ws.drop 1)))/\Hid (n<=301)/\LRead BB wx (.slice (some ⟨bb,bo,none⟩) nb cb) svb Bs/\RowT B 9 wx (.slice (some ⟨b,off,none⟩) ws.length sc) (strs ws)/\w.grownBy wx none/\BB<=wx.heap.size)
      (fun _ _ i _=>nb - (intOf i).toNat)
     case atStart=>exact⟨0,n,0,sl,c,svs,none,0,[],rfl,Nat.zero_le _,rfl,rfl,by simpa [exts] using h6.out,k4.out,k6,H5.out,hT,hg,c6⟩
     case round =>
      clear h6 k4 H5 hT hg c6 k6;obtain⟨p,n,nl,sl,c,svs,sg,cg,svg,rfl,hp,rfl,rfl,a8,d3,a7,H0,hT,hg,c6⟩:=hrel;obtain⟨wo,rfl⟩:∃ wo:World,wo=wr:=⟨_,rfl⟩;have h6:=Kh a8;have a5:=Kh d3;have H5:=Kh H0;clear a8 d3 H0;by_cases hlt:p<nb
      ·have g0:(p:Int)<(nb:Int):=by omega
       have d7:p<Bs.length:=(by rw[<- d0.out];exact hlt);obtain⟨ra,rc,g7,a0⟩:=H5.out.at d0.out hlt;have j1:=e8.out _ (List.getElem_mem d7);obtain⟨bl,g5⟩:∃ bl,bl=Bs[p]'d7:=⟨_,rfl⟩;have d5:=Kh g5;rw[<- g5]at g7 a0 j1;obtain⟨bn,g4⟩:∃ bn,bn=bl.length:=⟨_,rfl⟩;rw[<- g4]at g7 a0;have k8:=Kh g4;have l3:bn<=100:=by omega
       have e7:Hid (∀ x∈strs bl,x.oneCell'=true):=Kh (fun x hx=>by
        obtain⟨y,_,rfl⟩:=List.mem_map.1 hx;rfl)
       clear g5 g4 j1;go_wp2
       go_loopw [5,10,41] (fun v5 v10 i wx=>∃ (r n nl:Nat) (sl:Option Addr) (c:Nat) (svs:List Value) (sg:Option Addr) (cg:Nat) (svg:List Value),i=.int .i64 r/\r<=ws.length/\v5=.slice sl n c/\v10=.slice sg nl cg /\
         LUp 28 ba wx (.slice sl n c) n svs (L0++exts (Bs.take p) ws++(ws.take r).map (fun u=>bl++[u]))/\LUp 26 BB wx (.slice sg nl cg) nl svg (nxP nq (exts (Bs.take p) (ws.drop 1)++(sR ws r).map (fun u=>bl++[u])))/\Hid (n<=301)/\LRead BB wx (.slice (some ⟨bb,bo,none⟩) nb cb) svb Bs/\RowT BB 9 wx (.slice ra bn rc) (strs bl)/\RowT B 9 wx (.slice (some ⟨b,off,none⟩) ws.length sc) (strs ws)/\w.grownBy wx none/\BB<=wx.heap.size)
        (fun _ _ i _=>ws.length - (intOf i).toNat)
       case atStart=>exact⟨0,n,nl,sl,c,svs,sg,cg,svg,rfl,Nat.zero_le _,rfl,rfl,by simpa using h6.out,by simpa [gK] using a5.out,a7,H5.out,a0,hT,hg,c6⟩
       case round =>
        clear h6 a5 H5 hT hg c6 a0 g7 a7;obtain⟨r,n,nl,sl,c,svs,sg,cg,svg,rfl,hr,rfl,rfl,a8,d3,a7,H0,a0,hT,hg,c6⟩:=hrel;obtain⟨wo,rfl⟩:∃ wo:World,wo=wr:=⟨_,rfl⟩;have h6:=Kh a8;have a5:=Kh d3;have H5:=Kh H0;have H4:=a7.out
        have m9:nl<=1000:=by
         have h1:=d3.len;have h2:=a8.len
         have h3:(nxP nq (exts (Bs.take p) (ws.drop 1)++(sR ws r).map (fun u=>bl++[u]))).length<=(exts (Bs.take p) ws).length+r:=by
          cases nq with
          | false=>simp[nxP]
          | true =>
           show (exts (Bs.take p) (ws.drop 1)++(sR ws r).map (fun u=>bl++[u])).length<=_;have h4:(sR ws r).length<=r:=by rw[sR,List.length_drop,List.length_take];omega
           rw[List.length_append,List.length_map,vT,vT,List.length_drop];have:=Nat.mul_le_mul_left (Bs.take p).length (show ws.length - 1<=ws.length by omega);omega
         simp only[List.length_append,List.length_map]at h2;omega
        clear a8 d3 H0;by_cases H0:r<ws.length
        ·have l2:(r:Int)<ws.length:=by omega
         have h9:=xJ hT H0;have H3:=m0.out r H0;obtain⟨u,b6⟩:∃ u,u=ws[r]:=⟨_,rfl⟩;have HU:=Kh b6;rw[<- b6]at h9 H3;clear b6;by_cases hfull:300<n
         ·have c0:(300:Int)<n:=by omega
          have hl:=h6.out.len;have b7:=i1.out p d7 r;rw[<- d5.out]at b7;have e1:=take_of_pre b7 (n:=301) (by omega);have HL:=Kh hl;have i6:=Kh e1;clear e1 hl b7 H3;go_wp2;go_ret;rw[<- i6.out];exact⟨sl,c,svs,by rw[<- HL.out];rfl,by rw[<- HL.out];exact RowT.of_owns h6.out.own,h6.out.rows,hg⟩
         have c0:¬ (300:Int)<n:=(by omega);have a9:=Ga wo (.cells #[] 9) none;have e3:=heap_alloc_new wo (.cells #[] 9);obtain⟨we,f7⟩:∃ we,we=wo.alloc (.cells #[] 9):=⟨_,rfl⟩;have b8:=pK (base:=wo.heap.size) e3 (Nat.le_refl _);have H9:=a0.kept a9 (by simp);go_wp2_with (at_builtin;refine appR rfl (.tmp 50) (.tmp 51) _ rfl uO wo.heap.size _ 0 [] rfl b8 _ (strs bl) rfl ⟨_,H9.row⟩ e7.out bn ?a1 ?a2 ?a3 a9.size ?_)
         case a1=>rw[yT,<- k8.out]<;>omega
         case a2=>unfold maxLen;omega
         case a3=>omega
         intro s2 c2 w2 h5 e2
         try rw[List.nil_append]at h5
         have H2:=zA a9 e2 (fun q e=>(b8.lt q e).1);go_wp2_with (at_builtin;refine app1 rfl (.tmp 52) (.tmp 54) _ rfl uO wo.heap.size _ bn (strs bl) rfl h5 _ rfl rfl ?c1 ?c2 ?c3 ?_)
         case c1=>unfold maxLen;omega
         case c2=>omega
         case c3=>exact H2.size
         intro s4 c4 w4 h7 e0 _;have b2:=zA H2 e0 (fun q e=>(h5.lt q e).1);rw[gM]at h7;clear a9 e3 b8 H9 h5 e2 H2 e0 f7 we;have k2:=h6.out.kept b2 (by simp);go_wp2_with (at_builtin;refine app1 rfl (.tmp 49) (.tmp 57) _ rfl xZ ba _ n svs rfl k2.own _ rfl rfl ?c1 ?c2 ?c3 ?_)
         case c1=>unfold maxLen;omega
         case c2=>omega
         case c3=>have:=b2.size;omega
         intro sl5 c5 w5 b4 b9 _;obtain⟨i8,b0⟩:=h6.out.push (us:=bl++[u]) b2 h7 b4 b9;have j8:=fun q (e:(Value.slice sl n c).ownBlock=some q)=>(h6.out.own.lt q e).1;have a6:=zS h6.out.own (e':=9) (by decide);have H6:=zS h6.out.own (e':=26) (by decide);have e5:=hT.kept b0 (fun q e=>.inr (a6 q e));have H7:=a0.kept b0 (fun q e=>.inr (a6 q e));have a4:=Kh (H5.out.kept b0 (fun q e=>.inr ⟨H6 q e,a6 q e⟩));have h8:=Kh (a5.out.kept b0 (fun q e=>.inr ⟨a6 q e,H6 q e⟩));have d9:=zA hg b0 (fun q e=>by have:=j8 q e;omega);have m7:=b0.size
         have e6:Hid (LUp 28 ba w5 (.slice sl5 (n+1) c5) (n+1) (svs++[Value.slice s4 (bn+1) c4]) (L0++exts (Bs.take p) ws++(ws.take (r+1)).map (fun u=>bl++[u]))):=Kh (by
          have e9:ws[r]'H0=u:=HU.out.symm
          rw[yC (fun u=>bl++[u]) _ r H0,e9,<- List.append_assoc];exact i8)
         have f6:Hid (n+1<=301):=Kh (by omega);clear h7 b4 b2 b9 b0 k2 h9 i8 hT a0 a6 H6 j8 h6 H5 a5 hg a7;cases nq with
         | false =>
          have f8:¬ (q:Int)<(m:Int):=of_decide_eq_false d6;cases hdd:decide (r=0) with
          | true =>
           rw[hdd]at H3;go_wp2;go_roundw
           case rel =>
            exact⟨r+1,n+1,nl,sl5,c5,svs++[Value.slice s4 (bn+1) c4],sg,cg,svg,by go_num,by omega,rfl,rfl,e6.out,h8.out,f6,a4.out,H7,e5,d9,by omega⟩
           case measure=>simp[intOf];omega
          | false =>
           rw[hdd]at H3;go_wp2;go_roundw
           case rel =>
            exact⟨r+1,n+1,nl,sl5,c5,svs++[Value.slice s4 (bn+1) c4],sg,cg,svg,by go_num,by omega,rfl,rfl,e6.out,h8.out,f6,a4.out,H7,e5,d9,by omega⟩
           case measure=>simp[intOf];omega
         | true =>
          have f8:(q:Int)<(m:Int):=of_decide_eq_true d6;by_cases hr0:r=0
          ·have m5:Hid (nxP true (exts (Bs.take p) (ws.drop 1)++(sR ws (r+1)).map (fun u=>bl++[u]))=nxP true (exts (Bs.take p) (ws.drop 1)++(sR ws r).map (fun u=>bl++[u]))):=Kh (by rw[hr0,gK,tailTo_one])
           rw[decide_eq_true hr0]at H3;go_wp2;go_roundw
           case rel =>
            exact⟨r+1,n+1,nl,sl5,c5,svs++[Value.slice s4 (bn+1) c4],sg,cg,svg,by go_num,by omega,rfl,rfl,e6.out,by rw[m5.out];exact h8.out,f6,a4.out,H7,e5,d9,by omega⟩
           case measure=>simp[intOf];omega
          ·have j6:(strOfNums u).toList.isEmpty=false:=by rw[H3];exact decide_eq_false hr0
           clear H3;obtain⟨wo2,rfl⟩:∃ wo2:World,wo2=w5:=⟨_,rfl⟩;have a0:=H7;have a9:=Ga wo2 (.cells #[] 9) none;have e3:=heap_alloc_new wo2 (.cells #[] 9);obtain⟨we,f7⟩:∃ we,we=wo2.alloc (.cells #[] 9):=⟨_,rfl⟩;have b8:=pK (base:=wo2.heap.size) e3 (Nat.le_refl _);have H9:=a0.kept a9 (by simp);go_wp2_with (at_builtin;refine appR rfl (.tmp 67) (.tmp 68) _ rfl uO wo2.heap.size _ 0 [] rfl b8 _ (strs bl) rfl ⟨_,H9.row⟩ e7.out bn ?a1 ?a2 ?a3 a9.size ?_)
           case a1=>rw[yT,<- k8.out]<;>omega
           case a2=>unfold maxLen;omega
           case a3=>omega
           intro s2 c2 w2 h5 e2
           try rw[List.nil_append]at h5
           have H2:=zA a9 e2 (fun q e=>(b8.lt q e).1);go_wp2_with (at_builtin;refine app1 rfl (.tmp 69) (.tmp 71) _ rfl uO wo2.heap.size _ bn (strs bl) rfl h5 _ rfl rfl ?c1 ?c2 ?c3 ?_)
           case c1=>unfold maxLen;omega
           case c2=>omega
           case c3=>exact H2.size
           intro s8 c8 w8 H8 j5 _;have b1:=zA H2 j5 (fun q e=>(h5.lt q e).1);rw[gM]at H8;clear a9 e3 b8 H9 h5 e2 H2 j5 f7 we;have k1:=h8.out.kept b1 (by simp);go_wp2_with (at_builtin;refine app1 rfl (.tmp 66) (.tmp 73) _ rfl nW BB _ nl svg rfl k1.own _ rfl rfl ?c1 ?c2 ?c3 ?_)
           case c1=>unfold maxLen;omega
           case c2=>omega
           case c3=>have:=b1.size;omega
           intro sg9 c9 w9 b3 j4 _;obtain⟨i7,H1⟩:=h8.out.push (us:=bl++[u]) b1 H8 b3 j4;have g8:=fun q (e:(Value.slice sg nl cg).ownBlock=some q)=>(h8.out.own.lt q e).1;have a6:=zS h8.out.own (e':=9) (by decide);have H6:=zS h8.out.own (e':=28) (by decide);have l7:=e5.kept H1 (fun q e=>.inr (a6 q e));have g3:=H7.kept H1 (fun q e=>.inr (a6 q e));have i3:=Kh (e6.out.kept H1 (fun q e=>.inr ⟨a6 q e,H6 q e⟩));have i2:=Kh (a4.out.kept H1 (fun q e=>.inl (by have:=g8 q e;omega)));have g2:=zA d9 H1 (fun q e=>by have:=g8 q e;omega);have k9:=H1.size
           have m2:Hid (LUp 26 BB w9 (.slice sg9 (nl+1) c9) (nl+1) (svg++[Value.slice s8 (bn+1) c8]) (nxP true (exts (Bs.take p) (ws.drop 1)++(sR ws (r+1)).map (fun u=>bl++[u])))):=Kh (by
            have e9:ws[r]'H0=u:=HU.out.symm
            rw[tailTo_succ (by omega) H0,e9,List.map_append,<- List.append_assoc];exact i7)
           clear H8 b3 b1 j4 H1 k1 i7 e5 H7 a6 H6 g8 h8 a4 e6 d9 a0;go_wp2;go_roundw
           case rel =>
            exact⟨r+1,n+1,nl+1,sl5,c5,svs++[Value.slice s4 (bn+1) c4],sg9,c9,svg++[Value.slice s8 (bn+1) c8],by go_num,by omega,rfl,rfl,i3.out,m2.out,f6,i2.out,g3,l7,g2,by omega⟩
           case measure=>simp[intOf];omega
        ·obtain rfl:r=ws.length:=by omega
         rw[List.take_length,List.append_assoc,d5.out,<- nT d7]at h6;rw[tailTo_all,d5.out,<- nT d7]at a5;go_wp2;go_roundw
         case rel=>exact⟨p+1,n,nl,sl,c,svs,sg,cg,svg,by go_num,by omega,rfl,rfl,h6.out,a5.out,a7,H5.out,hT,hg,c6⟩
         case measure=>simp[intOf];omega
      ·obtain rfl:p=nb:=by omega
       rw[d0.out,List.take_length]at h6 a5;rw[<- f0.out.1]at h6;rw[<- f0.out.2]at a5;have i4:=Kh (LRead.of a5.out);have m4:=Kh a5.out.len;clear hlt;go_wp2;go_roundg (m+1 - (q+1))
       case measure=>have:=i5.out;omega
       case rel=>exact⟨q+1,n,nl,sl,c,svs,sg,cg,svg,by have:=i5.out;omega,by go_num,rfl,rfl,h6.out,a7,i4.out,m4,hT,hg,by omega⟩
    ·obtain rfl:q=m+1:=by have:=i5.out;omega
     have l0:¬ ((m+1:Nat):Int)<=(m:Int):=by omega
     have hl:=h6.out.len;have e1:(allC ws (m+1)).take 301=allC ws (m+1):=List.take_of_length_le (by rw[<- hl];exact H4.out);have i6:=Kh e1;clear e1;go_wp2;go_ret;rw[i6.out];exact⟨sl,c,svs,by rw[<- hl];rfl,by rw[<- hl];exact RowT.of_owns h6.out.own,h6.out.rows,hg⟩
def lexZ:List Int->List Int->Bool
 | _,[]=>false
 | [],_::_=>true
 | a::x,b::y=>decide (a<b) || (decide (a=b) && lexZ x y)
def rL (u v:List Int):Bool:=decide (u.length<v.length) || (decide (u.length=v.length) && lexZ u v)
theorem bE:∀ u v:List Int,u.length=v.length->u≠v->lexZ u v=true\/lexZ v u=true
 | [],[],_,h=>absurd rfl h
 | [],_::_,h,_=>by simp at h
 | _::_,[],h,_=>by simp at h
 | a::x,b::y,hl,hne=>by
  simp only[lexZ,Bool.or_eq_true,Bool.and_eq_true,decide_eq_true_eq]
  rcases Int.lt_trichotomy a b with h|h|h
  ·exact .inl (.inl h)
  ·subst h
   rcases bE x y (by simpa using hl) (fun e=>hne (by rw[e])) with h|h
   ·exact .inl (.inr ⟨rfl,h⟩)
   ·exact .inr (.inr ⟨rfl,h⟩)
  ·exact .inr (.inl h)
theorem bD:∀ u v w:List Int,lexZ u v=true->lexZ v w=true->lexZ u w=true
 | _,[],_,h,_=>by cases ‹List Int› <;> simp[lexZ]at h
 | _,_::_,[],_,h=>by simp[lexZ]at h
 | [],_::_,_::_,_,_=>rfl
 | a::x,b::y,c::z,h1,h2=>by
  simp only[lexZ,Bool.or_eq_true,Bool.and_eq_true,decide_eq_true_eq]at h1 h2 ⊢
  rcases h1 with h1|⟨rfl,h1⟩
  ·rcases h2 with h2|⟨rfl,h2⟩
   ·exact .inl (by omega)
   ·exact .inl h1
  ·rcases h2 with h2|⟨rfl,h2⟩
   ·exact .inl h2
   ·exact .inr ⟨rfl,bD x y z h1 h2⟩
theorem fO:∀ u:List Int,lexZ u u=false
 | []=>rfl
 | a::x=>by simp[lexZ,fO x]
theorem qO (u:List Int):rL u u=false:=by simp[rL,fO]
theorem lessW_total {u v:List Int}(h:u≠v):rL u v=true\/rL v u=true:=by
 simp only[rL,Bool.or_eq_true,Bool.and_eq_true,decide_eq_true_eq];rcases Nat.lt_trichotomy u.length v.length with h1|h1|h1
 ·exact .inl (.inl h1)
 ·rcases bE u v h1 h with h2|h2
  ·exact .inl (.inr ⟨h1,h2⟩)
  ·exact .inr (.inr ⟨h1.symm,h2⟩)
 ·exact .inr (.inl h1)
theorem lessW_trans {u v w:List Int}(h1:rL u v=true)(h2:rL v w=true):rL u w=true:=by
 simp only[rL,Bool.or_eq_true,Bool.and_eq_true,decide_eq_true_eq]at h1 h2 ⊢;rcases h1 with h1|⟨e1,h1⟩
 ·rcases h2 with h2|⟨e2,h2⟩
  ·exact .inl (by omega)
  ·exact .inl (by omega)
 ·rcases h2 with h2|⟨e2,h2⟩
  ·exact .inl (by omega)
  ·exact .inr ⟨by omega,bD u v w h1 h2⟩
def yX:List (List Int)->List (List Int)->Bool
 | [],_=>false
 | _::_,[]=>false
 | a::p,b::q=>rL a b || (decide (a=b) && yX p q)
def wY (p q:List (List Int)):Bool:=decide (p.length<q.length) || (decide (p.length=q.length) && yX p q)
theorem jF:∀ p q:List (List Int),p.length=q.length->p≠q->yX p q=true\/yX q p=true
 | [],[],_,h=>absurd rfl h
 | [],_::_,h,_=>by simp at h
 | _::_,[],h,_=>by simp at h
 | a::p,b::q,hl,hne=>by
  simp only[yX,Bool.or_eq_true,Bool.and_eq_true,decide_eq_true_eq]
  by_cases e:a=b
  ·subst e
   rcases jF p q (by simpa using hl) (fun e=>hne (by rw[e])) with h|h
   ·exact .inl (.inr ⟨rfl,h⟩)
   ·exact .inr (.inr ⟨rfl,h⟩)
  ·rcases lessW_total e with h|h
   ·exact .inl (.inl h)
   ·exact .inr (.inl h)
theorem jE:∀ p q r:List (List Int),yX p q=true->yX q r=true->yX p r=true
 | [],_,_,h,_=>by simp[yX]at h
 | _::_,[],_,h,_=>by simp[yX]at h
 | _::_,_::_,[],_,h=>by simp[yX]at h
 | a::p,b::q,c::r,h1,h2=>by
  simp only[yX,Bool.or_eq_true,Bool.and_eq_true,decide_eq_true_eq]at h1 h2 ⊢
  rcases h1 with h1|⟨rfl,h1⟩
  ·rcases h2 with h2|⟨rfl,h2⟩
   ·exact .inl (lessW_trans h1 h2)
   ·exact .inl h1
  ·rcases h2 with h2|⟨rfl,h2⟩
   ·exact .inl h2
   ·exact .inr ⟨rfl,jE p q r h1 h2⟩
theorem lD:∀ p:List (List Int),yX p p=false
 | []=>rfl
 | a::p=>by simp[yX,qO,lD p]
theorem qP (p:List (List Int)):wY p p=false:=by simp[wY,lD]
theorem lessP_total {p q:List (List Int)}(h:p≠q):wY p q=true\/wY q p=true:=by
 simp only[wY,Bool.or_eq_true,Bool.and_eq_true,decide_eq_true_eq];rcases Nat.lt_trichotomy p.length q.length with h1|h1|h1
 ·exact .inl (.inl h1)
 ·rcases jF p q h1 h with h2|h2
  ·exact .inl (.inr ⟨h1,h2⟩)
  ·exact .inr (.inr ⟨h1.symm,h2⟩)
 ·exact .inr (.inl h1)
theorem fP {p q r:List (List Int)}(h1:wY p q=true)(h2:wY q r=true):wY p r=true:=by
 simp only[wY,Bool.or_eq_true,Bool.and_eq_true,decide_eq_true_eq]at h1 h2 ⊢;rcases h1 with h1|⟨e1,h1⟩
 ·rcases h2 with h2|⟨e2,h2⟩
  ·exact .inl (by omega)
  ·exact .inl (by omega)
 ·rcases h2 with h2|⟨e2,h2⟩
  ·exact .inl (by omega)
  ·exact .inr ⟨by omega,jE p q r h1 h2⟩
theorem lessP_asymm {p q:List (List Int)}(h:wY p q=true):wY q p=false:=by
 cases e:wY q p with
 | false=>rfl
 | true=>have:=fP h e;rw[qP]at this;cases this
theorem qBI:∀ {l m:List (List (List Int))},l.Pairwise (fun a b=>wY a b=true)->m.Pairwise (fun a b=>wY a b=true)->(∀ a,a∈l ↔ a∈m)->l=m
 | [],[],_,_,_=>rfl
 | [],b::m,_,_,h=>by have:=(h b).2 (by simp);simp at this
 | a::l,[],_,_,h=>by have:=(h a).1 (by simp);simp at this
 | a::l,b::m,hl,hm,h=>by
  have hl':=List.pairwise_cons.1 hl
  have hm':=List.pairwise_cons.1 hm
  have e:a=b:=by
   rcases List.mem_cons.1 ((h a).1 (by simp)) with h1|h1
   ·exact h1
   ·rcases List.mem_cons.1 ((h b).2 (by simp)) with h2|h2
    ·exact h2.symm
    ·have h3:=hl'.1 b h2
     have h4:=lessP_asymm (hm'.1 a h1);rw[h3]at h4;cases h4
  subst e;congr 1;refine qBI hl'.2 hm'.2 fun c=>?_;constructor
  ·intro hc
   have h1:=hl'.1 c hc;rcases List.mem_cons.1 ((h c).1 (List.mem_cons_of_mem _ hc)) with e|e
   ·rw[e,qP]at h1;cases h1
   ·exact e
  ·intro hc
   have h1:=hm'.1 c hc;rcases List.mem_cons.1 ((h c).2 (List.mem_cons_of_mem _ hc)) with e|e
   ·rw[e,qP]at h1;cases h1
   ·exact e
def okW (u:List Int):Prop:=∀ x∈u,aB 6 x
theorem qIJ {a b:Int}(ha:aB 6 a)(hb:aB 6 b):(UInt8.ofNat a.toNat<UInt8.ofNat b.toNat ↔ a<b)/\(UInt8.ofNat a.toNat=UInt8.ofNat b.toNat ↔ a=b):=by
 obtain⟨a1,a2⟩:=ha;obtain⟨b1,b2⟩:=hb;have e1:(UInt8.ofNat a.toNat).toNat=a.toNat:=by rw[UInt8.toNat_ofNat'];omega
 have e2:(UInt8.ofNat b.toNat).toNat=b.toNat:=by rw[UInt8.toNat_ofNat'];omega
 refine⟨by rw[UInt8.lt_iff_toNat_lt,e1,e2];omega,⟨fun h=>?_,fun h=>by rw[h]⟩⟩;have:=congrArg UInt8.toNat h;rw[e1,e2]at this;omega
theorem qCD:∀ u v:List Int,okW u->okW v->Op.bytesLess ((u.map fun n=>UInt8.ofNat n.toNat)) ((v.map fun n=>UInt8.ofNat n.toNat))=lexZ u v
 | [],[],_,_=>rfl
 | [],_::_,_,_=>rfl
 | _::_,[],_,_=>rfl
 | a::x,b::y,hu,hv=>by
  have ih:=qCD x y (fun c hc=>hu c (by simp[hc])) (fun c hc=>hv c (by simp[hc]))
  obtain⟨h1,h2⟩:=qIJ (hu a (by simp)) (hv b (by simp))
  simp only[List.map_cons,Op.bytesLess,lexZ]
  rw[ih,decide_eq_decide.2 h1]
  congr 1
  congr 1
  rw[Bool.eq_iff_iff,beq_iff_eq,decide_eq_true_eq];exact h2
theorem qEX:∀ u v:List Int,okW u->okW v->((u.map fun n=>UInt8.ofNat n.toNat)=(v.map fun n=>UInt8.ofNat n.toNat) ↔ u=v)
 | [],[],_,_=>by simp
 | [],_::_,_,_=>by simp
 | _::_,[],_,_=>by simp
 | a::x,b::y,hu,hv=>by
  have ih:=qEX x y (fun c hc=>hu c (by simp[hc])) (fun c hc=>hv c (by simp[hc]))
  obtain⟨_,h2⟩:=qIJ (hu a (by simp)) (hv b (by simp))
  simp only[List.map_cons,List.cons.injEq]
  rw[h2,ih]
def cmpI (u v:List Int):Int:=if rL u v then -1 else if u=v then 0 else 1
theorem compare_any (u v:List Int)(w:World)(hu:u.length<=1000)(hv:v.length<=1000)(ou:okW u)(ov:okW v):
  Calls Try.prog 98 #[.string (strOfNums u),.string (strOfNums v)] w fun e w'=>e=.returned (.int .i64 (cmpI u v))/\w=w':=by
 have h1:=strOfNums_size u;have h2:=strOfNums_size v;have hb:Op.bytesLess (strOfNums u).toList (strOfNums v).toList=lexZ u v:=by rw[ByteArray.toList_eq,ByteArray.toList_eq,strOfNums_data,strOfNums_data];exact qCD u v ou ov
 have he:((strOfNums u).toList == (strOfNums v).toList)=decide (u=v):=by
  rw[ByteArray.toList_eq,ByteArray.toList_eq,strOfNums_data,strOfNums_data,Bool.eq_iff_iff,beq_iff_eq,decide_eq_true_eq];exact qEX u v ou ov
 obtain⟨lb,h3⟩:∃ lb,lb=lexZ u v:=⟨_,rfl⟩;obtain⟨eb,h0⟩:∃ eb,eb=decide (u=v):=⟨_,rfl⟩
 have HC:Hid (cmpI u v=if decide (u.length<v.length) || (decide (u.length=v.length) && lb) then -1 else if eb then 0 else 1):=Kh (by
  rw[cmpI,rL,h3,h0];simp)
 rw[<- h3]at hb;rw[<- h0]at he;have h5:Hid (eb=true->u.length=v.length):=Kh (fun h=>by rw[h0,decide_eq_true_eq]at h;rw[h]);clear h3 h0;by_cases hlt:u.length<v.length
 ·go_enter Try.func98,Try.ntmps98
  go_wp2;go_ret;exact⟨yA (by rw[HC.out];simp[hlt]),rfl⟩
 ·by_cases heq:u.length=v.length
  ·cases lb<;>cases eb
   all_goals
    go_enter Try.func98,Try.ntmps98;go_wp2;go_ret;exact⟨yA (by rw[HC.out];simp[heq]),rfl⟩
  ·have h4:eb=false:=by
    cases eb with
    | false=>rfl
    | true=>exact absurd (h5.out rfl) heq
   subst h4;go_enter Try.func98,Try.ntmps98;go_wp2;go_ret;exact⟨yA (by rw[HC.out];simp[hlt,heq]),rfl⟩
theorem blk_drop {p q:List (List Int)}{k:Nat}(hp:k<p.length)(hq:k<q.length):yX (p.drop k) (q.drop k)=(rL p[k] q[k] || (decide (p[k]=q[k]) && yX (p.drop (k+1)) (q.drop (k+1)))):=by
 rw[List.drop_eq_getElem_cons hp,List.drop_eq_getElem_cons hq];rfl
theorem cmpI_cases (u v:List Int):(cmpI u v = -1/\rL u v=true)\/(cmpI u v=0/\u=v/\rL u v=false)\/(cmpI u v=1/\rL u v=false/\u≠v):=by
 unfold cmpI;cases h:rL u v with
 | true=>exact .inl ⟨by simp,rfl⟩
 | false =>
  by_cases e:u=v
  ·exact .inr (.inl ⟨by simp[e],e,rfl⟩)
  ·exact .inr (.inr ⟨by simp[e],rfl,e⟩)
theorem qAN {b off:Nat}{w:World}{ls:List (List Int)}(hra:uV w b off (strs ls)){i:Nat}(hi:i<ls.length):w.cell? ⟨b,off+i,none⟩=some (.string (strOfNums ls[i])):=hra.map i hi
theorem less_any (B1 B2:Nat)(w:World)(v1 v2:Value)(p q:List (List Int))(h1:Row B1 w v1 (strs p))(h2:Row B2 w v2 (strs q))(hp:∀ u∈p,okW u/\u.length<=8)(hq:∀ u∈q,okW u/\u.length<=8)(hpl:p.length<=100)(hql:q.length<=100):
  Calls Try.prog 78 #[.agg #[v1],.agg #[v2]] w fun e w'=>e=.returned (.bool (wY p q))/\w.grownBy w' none:=by
 have H1:=Kh h1;have H2:=Kh h2;have HP:=Kh hp;have HQ:=Kh hq;obtain⟨a1,c1,rfl⟩:=h1.shape;obtain⟨a2,c2,rfl⟩:=h2.shape;rw[yT]at H1 H2 ⊢;rw[yT];clear h1 h2 hp hq;obtain⟨P,hP⟩:∃ P,P=w.heap.size:=⟨_,rfl⟩;obtain⟨wA,h8⟩:∃ wA,wA=(w.alloc (.cells #[.slice a1 p.length c1] 28)).alloc (.cells #[.slice a2 q.length c2] 28):=⟨_,rfl⟩;have b1:=zB (heap_alloc_new w (.cells #[.slice a1 p.length c1] 28)) (Ga _ (.cells #[.slice a2 q.length c2] 28) none) (by simp);have b2:=heap_alloc_new (w.alloc (.cells #[.slice a1 p.length c1] 28)) (.cells #[.slice a2 q.length c2] 28);rw[zJ]at b2;rw[<- h8,<- hP]at b1 b2;have H3:w.grownBy wA none:=by rw[h8];exact wL (Ga w _ none) _
 have h3:=Kh H3;have H6:=Kh h8;have H7:=Kh hP;have a0:=Kh b1;have H9:=Kh b2;clear H3 h8 hP b1 b2;go_enter Try.func78,Try.ntmps78;go_upto_region 1 with fail;rw[<- H6.out,<- H7.out];have k1:=zH a0.out 0 (by simp);have k2:=zH H9.out 0 (by simp);simp only[List.getElem_toArray,List.getElem_cons_zero]at k1 k2;by_cases hl:p.length=q.length
 ·have H4:((p.length:Int) != (q.length:Int))=false:=by rw[hl];simp
  go_wp2
  go_loopg [24] p.length (fun gh i wr=>∃ (k m:Nat),gh+k=p.length/\i=.int .i64 (k:Int)/\Hid (wY p q=yX (p.drop k) (q.drop k))/\wr=wA.drewN m)
  case atStart=>exact⟨0,0,rfl,rfl,Kh (by simp[wY,hl]),rfl⟩
  case round =>
   obtain⟨k,m,H0,rfl,h7,rfl⟩:=hrel;have H8:=Kh H0;clear H0;by_cases hk:k<p.length
   ·have a5:(k:Int)<p.length:=by omega
    have h9:k<q.length:=(by omega);have H5:(k:Int)<q.length:=(by omega);obtain⟨b1,o1,d1,e1,_,f1,g1,r1⟩:=(H1.out.kept h3.out (by simp)).some_ (by rw[yT];omega);obtain⟨b2,o2,d2,e2,_,f2,g2,r2⟩:=(H2.out.kept h3.out (by simp)).some_ (by rw[yT];omega);rw[yT]at e1 f1 e2 f2;simp only[Value.slice.injEq]at e1 e2;obtain⟨rfl,_,rfl⟩:=e1;obtain⟨rfl,_,rfl⟩:=e2;have x1:=qAN r1 hk;have x2:=qAN r2 h9;have a4:c1<=9223372036854775807:=by unfold maxLen at g1;omega
    have a3:c2<=9223372036854775807:=by unfold maxLen at g2;omega
    have hu:=HP.out _ (List.getElem_mem hk);have hv:=HQ.out _ (List.getElem_mem h9);have h0:=blk_drop hk h9;obtain⟨u,h6⟩:∃ u,u=p[k]:=⟨_,rfl⟩;obtain⟨v,h5⟩:∃ v,v=q[k]:=⟨_,rfl⟩;rw[<- h6]at x1 hu h0;rw[<- h5]at x2 hv h0;have h4:∀ W:World,Hid (Calls Try.prog 98 #[.string (strOfNums u),.string (strOfNums v)] W fun e w'=>e=.returned (.int .i64 (cmpI u v))/\W=w'):=fun W=>Kh (compare_any u v W (by omega) (by omega) hu.1 hv.1);rcases cmpI_cases u v with ⟨hc,hw⟩|⟨hc,he,hw⟩|⟨hc,hw,he⟩
    ·have HR:Hid (wY p q=true):=Kh (by rw[h7.out,h0,hw];rfl)
     rw[hc]at h4;clear r1 r2 g1 g2 hu hv h0 h6 h5 hw hc;go_wp2
     go_quiet ((go_at_call 98;exact qX (h4 _).out))
     go_wp2;go_ret;exact⟨yB HR.out.symm,zA h3.out (zN wA _ none) (by simp)⟩
    ·have HR:Hid (wY p q=yX (p.drop (k+1)) (q.drop (k+1))):=Kh (by rw[h7.out,h0,hw,decide_eq_true he];rfl)
     rw[hc]at h4;clear r1 r2 g1 g2 hu hv h0 h6 h5 hw hc he;go_wp2
     go_quiet ((go_at_call 98;exact qX (h4 _).out))
     go_wp2;go_roundg (p.length - (k+1))
     case measure=>have:=H8.out;omega
     case rel=>exact⟨k+1,_,by omega,by go_num,HR,rfl⟩
    ·have HR:Hid (wY p q=false):=Kh (by rw[h7.out,h0,hw,decide_eq_false he];rfl)
     rw[hc]at h4;clear r1 r2 g1 g2 hu hv h0 h6 h5 hw hc he;go_wp2
     go_quiet ((go_at_call 98;exact qX (h4 _).out))
     go_wp2;go_ret;exact⟨yB HR.out.symm,zA h3.out (zN wA _ none) (by simp)⟩
   ·have HR:Hid (wY p q=false):=Kh (by rw[h7.out,List.drop_of_length_le (by omega)];rfl)
    go_wp2;go_ret;exact⟨yB HR.out.symm,zA h3.out (zN wA _ none) (by simp)⟩
 ·have H4:((p.length:Int) != (q.length:Int))=true:=by rw[bne_iff_ne];omega
  have HR:Hid (wY p q=decide (p.length<q.length)):=Kh (by
   rw[wY,decide_eq_false hl,Bool.false_and,Bool.or_false])
  go_wp2;go_ret;exact⟨yB (by rw[HR.out]),h3.out⟩
end Go.Proofs.Ytjfdomfendbhfaa
namespace Go.Proofs.Ytjfdomfendbhfaa
theorem qBH:∀ (w x y:List Int),lexZ (w++x) (w++y)=lexZ x y
 | [],_,_=>rfl
 | a::w,x,y=>by simp[lexZ,qBH w x y]
theorem bF:∀ (w v x y:List Int),w.length=v.length->lexZ w v=true->lexZ (w++x) (v++y)=true
 | [],[],_,_,_,h=>by simp[lexZ]at h
 | [],_::_,_,_,h,_=>by simp at h
 | _::_,[],_,_,h,_=>by simp at h
 | a::w,b::v,x,y,hl,h=>by
  simp only[List.cons_append,lexZ,Bool.or_eq_true,Bool.and_eq_true,decide_eq_true_eq]at h ⊢
  rcases h with h|⟨rfl,h⟩
  ·exact .inl h
  ·exact .inr ⟨rfl,bF w v x y (by simpa using hl) h⟩
theorem block_sorted (letters:Nat)(w:List Int):(block letters w 0).Pairwise (fun a b=>lexZ a b=true):=by
 rw[block,List.pairwise_map];refine List.Pairwise.imp ?_ (List.pairwise_lt_range' (s:=0) (n:=letters - 0) (step:=1) );intro a b h;rw[qBH];simp[lexZ];omega
theorem fN {letters:Nat}{w x:List Int}(h:x∈block letters w 0):∃ c:Int,x=w++[c]:=by
 obtain⟨c,_,rfl⟩:=List.mem_map.1 h;exact⟨_,rfl⟩
theorem bC (letters:Nat):∀ n,(lex letters n).Pairwise (fun a b=>lexZ a b=true)
 | 0=>by simp[lex]
 | n+1=>by
  rw[kV,List.pairwise_flatMap]
  refine⟨fun w _=>block_sorted letters w,?_⟩
  have ih:=bC letters n
  refine List.Pairwise.imp_of_mem ?_ ih
  intro a b ha hb hab x hx y hy
  obtain⟨c,rfl⟩:=fN hx
  obtain⟨d,rfl⟩:=fN hy
  exact bF a b [c] [d] (by rw[(sM ha).1,(sM hb).1]) hab
def iS (l:List (List Int)):Prop:=l.Pairwise (fun a b=>rL a b=true)
def qF (l:List (List (List Int))):Prop:=l.Pairwise (fun a b=>wY a b=true)
theorem lG (letters:Nat):∀ n,iS (upTo letters n)
 | 0=>by simp[upTo,iS]
 | n+1=>by
  rw[xK,iS,List.pairwise_append]
  refine⟨lG letters n,?_,fun a ha b hb=>?_⟩
  ·refine List.Pairwise.imp_of_mem ?_ (bC letters n)
   intro a b ha hb h
   simp only[rL,Bool.or_eq_true,Bool.and_eq_true,decide_eq_true_eq]
   exact .inr ⟨by rw[(sM ha).1,(sM hb).1],h⟩
  ·simp only[rL,Bool.or_eq_true,decide_eq_true_eq]
   exact .inl (by rw[(sM hb).1];exact lH ha)
theorem gF (letters n:Nat):∃ r,upTo letters (n+1)=[]::r/\∀ u∈r,u≠[]:=by
 have e:=kA letters n;refine⟨_,e,fun u hu=>?_⟩;obtain⟨w,_,hx⟩:=List.mem_flatMap.1 hu;obtain⟨c,rfl⟩:=fN hx;simp
def mono (f:List Int->List (List Int)):Prop:=∀ u v,rL u v=true->wY (f u) (f v)=true
theorem gA:mono oneB:=fun u v h=>by simp[wY,oneB,yX,h]
theorem mono_pre:mono preB:=fun u v h=>by simp[wY,preB,yX,h]
theorem mono_suf:mono sufB:=fun u v h=>by simp[wY,sufB,yX,h,qO]
theorem mono_fac:mono facB:=fun u v h=>by simp[wY,facB,yX,h,qO]
theorem qEY (w x y:List (List Int)):yX (w++x) (w++y)=yX x y:=by
 induction w with
 | nil=>rfl
 | cons a w ih=>simp[yX,qO,ih]
theorem eS:∀ (w v x y:List (List Int)),w.length=v.length->yX w v=true->yX (w++x) (v++y)=true
 | [],_,_,_,_,h=>by simp[yX]at h
 | _::_,[],_,_,h,_=>by simp at h
 | a::w,b::v,x,y,hl,h=>by
  simp only[List.cons_append,yX,Bool.or_eq_true,Bool.and_eq_true,decide_eq_true_eq]at h ⊢
  rcases h with h|⟨rfl,h⟩
  ·exact .inl h
  ·exact .inr ⟨rfl,eS w v x y (by simpa using hl) h⟩
theorem eR:∀ u v:List Int,u.length=v.length->lexZ u v=true->yX (u.map fun c=>[c]) (v.map fun c=>[c])=true
 | [],[],_,h=>by simp[lexZ]at h
 | [],_::_,h,_=>by simp at h
 | _::_,[],h,_=>by simp at h
 | a::x,b::y,hl,h=>by
  simp only[lexZ,Bool.or_eq_true,Bool.and_eq_true,decide_eq_true_eq]at h
  simp only[List.map_cons,yX,Bool.or_eq_true,Bool.and_eq_true,decide_eq_true_eq]
  rcases h with h|⟨rfl,h⟩
  ·exact .inl (by simp[rL,lexZ,h])
  ·exact .inr ⟨rfl,eR x y (by simpa using hl) h⟩
theorem mono_piece:mono wK:=fun u v h=>by
 simp only[rL,Bool.or_eq_true,Bool.and_eq_true,decide_eq_true_eq]at h
 simp only[wY,Bool.or_eq_true,Bool.and_eq_true,decide_eq_true_eq,wK,List.length_append,List.length_map,List.length_singleton]
 rcases h with h|⟨e,h⟩
 ·exact .inl (by omega)
 ·refine .inr ⟨by omega,?_⟩
  rw[List.append_assoc,List.append_assoc,qEY]
  exact eS _ _ _ _ (by simp[e]) (eR u v e h)
theorem qJ {f:List Int->List (List Int)}(hf:mono f){l:List (List Int)}(h:iS l):qF (l.map f):=by
 rw[qF,List.pairwise_map];exact List.Pairwise.imp (fun h=>hf _ _ h) h
theorem qAI {l:List (List Int)}(h:iS l)(n:Nat):iS (l.drop n):=List.Pairwise.drop h
theorem sV {a b:List (List (List Int))}(ha:qF a)(hb:qF b)(h:∀ p∈a,∀ q∈b,wY p q=true):qF (a++b):=by
 rw[qF,List.pairwise_append];exact⟨ha,hb,h⟩
theorem nS {p q:List (List Int)}(h:p.length<q.length):wY p q=true:=by simp[wY,h]
theorem suf_pre {u v:List Int}(hv:v≠[]):wY (sufB u) (preB v)=true:=by
 have:0<v.length:=List.length_pos_iff.2 hv;simp[wY,sufB,preB,yX,rL,this]
theorem fZ {bs:List (List (List Int))}{ws:List (List Int)}{n:Nat}(hb:qF bs)(hw:iS ws)(hl:∀ b∈bs,b.length=n):qF (exts bs ws):=by
 rw[qF,exts,List.pairwise_flatMap];refine⟨fun b _=>?_,?_⟩
 ·rw[List.pairwise_map]
  refine List.Pairwise.imp ?_ hw;intro u v h;simp only[wY,Bool.or_eq_true,Bool.and_eq_true,decide_eq_true_eq];exact .inr ⟨by simp,by rw[qEY];simp[yX,h]⟩
 ·refine List.Pairwise.imp_of_mem ?_ hb
  intro a b ha h0 h x hx y hy;obtain⟨u,_,rfl⟩:=List.mem_map.1 hx;obtain⟨v,_,rfl⟩:=List.mem_map.1 hy;have e:a.length=b.length:=by rw[hl a ha,hl b h0]
  simp only[wY,Bool.or_eq_true,Bool.and_eq_true,decide_eq_true_eq]at h ⊢;rcases h with h|⟨_,h⟩
  ·omega
  ·exact .inr ⟨by simp[e],eS a b _ _ e h⟩
theorem bK {ws:List (List Int)}(hw:iS ws):∀ i,qF (chB ws i)
 | 0=>qJ gA hw
 | i+1=>fZ (bK hw i) (qAI hw 1) (fun _ h=>lU i h)
theorem iN {ws:List (List Int)}{i:Nat}{p:List (List Int)}(h:p∈exts (chB ws i) ws):p.length=i+2:=by
 obtain⟨c,hc,hb⟩:=List.mem_flatMap.1 h;obtain⟨u,_,rfl⟩:=List.mem_map.1 hb;rw[List.length_append,lU i hc];rfl
theorem eM {ws:List (List Int)}:∀ {i:Nat} {p:List (List Int)},p∈chL ws i->p.length<=i+1
 | 0,p,h=>by
  obtain⟨u,_,rfl⟩:=List.mem_map.1 h;exact Nat.le_refl _
 | i+1,p,h=>by
  rcases List.mem_append.1 h with h|h
  ·have:=eM h;omega
  ·rw[iN h];omega
theorem bJ {ws:List (List Int)}(hw:iS ws):∀ i,qF (chL ws i)
 | 0=>qJ gA hw
 | i+1=>sV (bJ hw i) (fZ (bK hw i) hw (fun _ h=>lU i h)) (fun p hp q hq=>nS (by have:=eM hp;rw[iN hq];omega))
theorem drop_ne {letters n:Nat}{u:List Int}(h:u∈(upTo letters (n+1)).drop 1):u≠[]:=by
 obtain⟨r,e,hr⟩:=gF letters n;rw[e]at h;exact hr u (by simpa using h)
theorem fY (kind:Int)(letters k m:Nat):qF (famP kind letters k m):=by
 have hW:iS (xG letters k):=lG letters (k+1);have hS:iS (upTo letters k):=lG letters k;have hD:iS ((xG letters k).drop 1):=qAI hW 1;have h0:∀ u∈(xG letters k).drop 1,u≠[]:=fun u h=>drop_ne h;have l1:∀ p∈(upTo letters k).map oneB,p.length=1:=fun p hp=>by obtain⟨u,_,rfl⟩:=List.mem_map.1 hp;rfl
 have l2:∀ p∈((xG letters k).drop 1).map preB,p.length=2:=fun p hp=>by obtain⟨u,_,rfl⟩:=List.mem_map.1 hp;rfl
 have l3:∀ p∈((xG letters k).drop 1).map sufB,p.length=2:=fun p hp=>by obtain⟨u,_,rfl⟩:=List.mem_map.1 hp;rfl
 have l4:∀ p∈((xG letters k).drop 1).map facB,p.length=3:=fun p hp=>by obtain⟨u,_,rfl⟩:=List.mem_map.1 hp;rfl
 have h1:∀ p∈((xG letters k).drop 1).map sufB,∀ q∈((xG letters k).drop 1).map preB,wY p q=true:=fun p hp q hq=>by
  obtain⟨u,_,rfl⟩:=List.mem_map.1 hp;obtain⟨v,hv,rfl⟩:=List.mem_map.1 hq;exact suf_pre (h0 v hv)
 have A:=qJ gA hS;have S:=qJ mono_suf hD;have P:=qJ mono_pre hD;have F:=qJ mono_fac hD;have AS:=sV A S (fun p hp q hq=>nS (by rw[l1 p hp,l3 q hq];decide))
 have ASP:=sV AS P (fun p hp q hq=>by
  rcases List.mem_append.1 hp with h|h
  ·exact nS (by rw[l1 p h,l2 q hq];decide)
  ·exact h1 p h q hq)
 unfold famP;simp only
 split
 ·exact qJ gA hW
 split
 ·exact sV A P (fun p hp q hq=>nS (by rw[l1 p hp,l2 q hq];decide))
 split
 ·exact AS
 split
 ·exact ASP
 split
 ·refine sV ASP F (fun p hp q hq=>nS ?_)
  rw[l4 q hq];rcases List.mem_append.1 hp with h|h
  ·rcases List.mem_append.1 h with h|h
   ·rw[l1 p h];decide
   ·rw[l3 p h];decide
  ·rw[l2 p h];decide
 split
 ·exact qJ mono_piece hD
 ·exact bJ hW _
def genU (kind:Int)(k:Nat)(u:List Int):List (List (List Int)) :=
 (if kind=1\/kind=7\/(kind≠6/\u.length<k) then [oneB u] else [])++(if u=[] then [] else (if kind=2\/kind=4\/kind=5 then [preB u] else [])++((if kind=3\/kind=4\/kind=5 then [sufB u] else [])++((if kind=5 then [facB u] else [])++(if kind=6 then [wK u] else []))))
def genL (kind:Int)(k:Nat)(W:List (List Int)):List (List (List Int)):=W.flatMap (genU kind k)
def refL (kind:Int)(letters k m:Nat):List (List (List Int)):=genL kind k (xG letters k)++(if kind=7 then (allC (xG letters k) (m+1)).take 301 else [])
theorem genL_snoc (kind:Int)(k:Nat){W:List (List Int)}{j:Nat}(h:j<W.length):genL kind k (W.take (j+1))=genL kind k (W.take j)++genU kind k W[j]:=by
 rw[genL,List.take_succ_eq_append_getElem h,List.flatMap_append];simp[genL]
theorem sX {α β:Type}(f g:α->List β):∀ l:List α,(l.flatMap fun x=>f x++g x).Perm (l.flatMap f++l.flatMap g)
 | []=>by simp
 | a::l=>by
  simp only[List.flatMap_cons]
  have ih:=sX f g l
  have h1:(f a++g a++l.flatMap fun x=>f x++g x).Perm (f a++g a++(l.flatMap f++l.flatMap g)):=List.Perm.append_left _ ih
  refine h1.trans ?_
  rw[List.append_assoc,List.append_assoc]
  refine List.Perm.append_left _ ?_
  rw[<- List.append_assoc,<- List.append_assoc]
  exact List.Perm.append_right _ List.perm_append_comm
theorem qGH {α β:Type}(c:α->Prop)[DecidablePred c](h:α->β):∀ l:List α,(l.flatMap fun x=>if c x then [h x] else [])=(l.filter fun x=>decide (c x)).map h
 | []=>rfl
 | a::l=>by
  simp only[List.flatMap_cons,qGH c h l,List.filter_cons]
  by_cases hc:c a<;>simp[hc]
theorem filter_short (letters k:Nat):((xG letters k).filter fun u=>decide (u.length<k))=upTo letters k:=by
 rw[xG,xK,List.filter_append];have e1:(upTo letters k).filter (fun u=>decide (u.length<k))=upTo letters k:=List.filter_eq_self.2 fun u hu=>by simpa using lH hu
 have e2:(lex letters k).filter (fun u=>decide (u.length<k))=[]:=List.filter_eq_nil_iff.2 fun u hu=>by rw[(sM hu).1];simp
 rw[e1,e2,List.append_nil]
theorem uN {α β:Type}{f g:α->List β}:∀ {l:List α},(∀ x∈l,f x=g x)->l.flatMap f=l.flatMap g
 | [],_=>rfl
 | a::l,h=>by rw[List.flatMap_cons,List.flatMap_cons,h a (by simp),uN fun x hx=>h x (by simp[hx])]
theorem fT {letters k:Nat}(f:List Int->List (List (List Int))):((xG letters k).flatMap fun u=>if u=[] then [] else f u)=((xG letters k).drop 1).flatMap f:=by
 obtain⟨r,e,hr⟩:=gF letters k;rw[xG,e];simp only[List.flatMap_cons,if_pos,List.nil_append,List.drop_one,List.tail_cons];exact uN fun u hu=>by rw[if_neg (hr u hu)]
theorem sP {α β:Type}(h:α->β)(l:List α):(l.flatMap fun x=>[h x])=l.map h:=by induction l with
 | nil=>rfl
 | cons a l ih=>simp[ih]
theorem genU_1 (k:Nat)(u:List Int):genU 1 k u=[oneB u]:=by unfold genU;by_cases h:u=[]<;>simp[h]
theorem genU_7 (k:Nat)(u:List Int):genU 7 k u=[oneB u]:=by unfold genU;by_cases h:u=[]<;>simp[h]
theorem genU_2 (k:Nat)(u:List Int):genU 2 k u=(if u.length<k then [oneB u] else [])++(if u=[] then [] else [preB u]):=by unfold genU;by_cases h:u=[]<;>simp[h]
theorem genU_3 (k:Nat)(u:List Int):genU 3 k u=(if u.length<k then [oneB u] else [])++(if u=[] then [] else [sufB u]):=by unfold genU;by_cases h:u=[]<;>simp[h]
theorem genU_4 (k:Nat)(u:List Int):genU 4 k u=(if u.length<k then [oneB u] else [])++(if u=[] then [] else [preB u]++[sufB u]):=by unfold genU;by_cases h:u=[]<;>simp[h]
theorem genU_5 (k:Nat)(u:List Int):genU 5 k u=(if u.length<k then [oneB u] else [])++(if u=[] then [] else [preB u]++([sufB u]++[facB u])):=by unfold genU;by_cases h:u=[]<;>simp[h]
theorem genU_6 (k:Nat)(u:List Int):genU 6 k u=(if u=[] then [] else [wK u]):=by unfold genU;by_cases h:u=[]<;>simp[h]
theorem bW {kind:Int}{letters k:Nat}(h1:1<=kind)(h7:kind<=7)(m:Nat)(hm:(allC (xG letters k) (m+1)).length<=301\/kind≠7):(refL kind letters k m).Perm (famP kind letters k m):=by
 have h2:kind=1\/kind=2\/kind=3\/kind=4\/kind=5\/kind=6\/kind=7:=by omega
 have h0:((xG letters k).flatMap fun u=>if u.length<k then [oneB u] else [])=(upTo letters k).map oneB:=by rw[qGH (fun u:List Int=>u.length<k) oneB,filter_short]
 rcases h2 with rfl|rfl|rfl|rfl|rfl|rfl|rfl
 ·have e:refL 1 letters k m=famP 1 letters k m:=by
   rw[refL,if_neg (by decide),List.append_nil,genL,uN fun u _=>genU_1 k u,sP];rfl
  rw[e]
 ·rw[refL,if_neg (by decide),List.append_nil,genL,uN fun u _=>genU_2 k u]
  refine(sX _ _ _).trans ?_;rw[h0,fT,sP];exact List.Perm.refl _
 ·rw[refL,if_neg (by decide),List.append_nil,genL,uN fun u _=>genU_3 k u]
  refine(sX _ _ _).trans ?_;rw[h0,fT,sP];exact List.Perm.refl _
 ·rw[refL,if_neg (by decide),List.append_nil,genL,uN fun u _=>genU_4 k u]
  refine(sX _ _ _).trans ?_;rw[h0,fT];show List.Perm _ ((upTo letters k).map oneB++((xG letters k).drop 1).map sufB++((xG letters k).drop 1).map preB);rw[List.append_assoc];refine List.Perm.append_left _ ((sX _ _ _).trans ?_);rw[sP,sP];exact List.perm_append_comm
 ·rw[refL,if_neg (by decide),List.append_nil,genL,uN fun u _=>genU_5 k u]
  refine(sX _ _ _).trans ?_;rw[h0,fT];show List.Perm _ ((upTo letters k).map oneB++((xG letters k).drop 1).map sufB++((xG letters k).drop 1).map preB++((xG letters k).drop 1).map facB);rw[List.append_assoc,List.append_assoc];refine List.Perm.append_left _ ((sX _ _ _).trans ?_);rw[sP];refine(List.Perm.append_left _ (sX _ _ _)).trans ?_;rw[sP,sP,<- List.append_assoc,<- List.append_assoc];exact List.Perm.append_right _ List.perm_append_comm
 ·have e:refL 6 letters k m=famP 6 letters k m:=by
   rw[refL,if_neg (by decide),List.append_nil,genL,uN fun u _=>genU_6 k u,fT,sP];rfl
  rw[e]
 ·have e:refL 7 letters k m=famP 7 letters k m:=by
   rw[refL,if_pos rfl,genL,uN fun u _=>genU_7 k u,sP,List.take_of_length_le (by rcases hm with h|h;exact h;exact absurd rfl h)];show _=chL (xG letters k) (m+1);rw[aS]
  rw[e]
theorem sortP_nodup {l:List (List (List Int))}(h:qF l):l.Nodup:=List.Pairwise.imp (fun {a b} h e=>by rw[e,qP]at h;cases h) h
theorem ref_len {kind:Int}{letters k:Nat}(h1:1<=kind)(h7:kind<=7)(m:Nat):(300<(refL kind letters k m).length ↔ 300<(famP kind letters k m).length):=by
 by_cases hm:(allC (xG letters k) (m+1)).length<=301\/kind≠7
 ·rw[(bW h1 h7 m hm).length_eq]
 ·have h0:¬ (allC (xG letters k) (m+1)).length<=301:=fun h=>hm (.inl h)
  have hk:kind=7:=Decidable.not_not.1 fun h=>hm (.inr h);subst hk
  have e1:301<=(refL 7 letters k m).length:=by
   rw[refL,if_pos rfl,List.length_append,List.length_take];omega
  have e2:301<=(famP 7 letters k m).length:=by
   show 301<=(chL (xG letters k) (m+1)).length;rw[aS,List.length_append];omega
  omega
open Go.RowKit
theorem iZ {w:World}{base e g n c:Nat}{xs:List Value}(h:w.ownsRow base e 1 (.slice (some ⟨g,0,none⟩) n c) n xs)(i:Nat)(u:Value):(w.setCell ⟨g,i,none⟩ u).ownsRow base e 1 (.slice (some ⟨g,0,none⟩) n c) n (xs.set i u):=by
 obtain⟨h1,h2⟩:=h;refine⟨by simpa using h1,?_⟩;rcases h2 with ⟨e1,_⟩|⟨g',cap,cur,e1,hb,hg,hnc,hcm,hcs,htake⟩
 ·simp at e1
 ·simp only[Value.slice.injEq,Option.some.injEq,Addr.mk.injEq,and_true]at e1
  obtain⟨rfl,_,rfl⟩:=e1;refine .inr ⟨g,c,cur.setIfInBounds i u,rfl,hb,heap_setCell_same w g i _ _ u hg,hnc,hcm,by simpa using hcs,?_⟩;rw[<- htake,Array.toList_setIfInBounds,List.take_set]
theorem wH.swap {α:Type}{B:Nat}{e:TypeId}{f:α->List Value}{w:World}{svs:List Value}{ps:List α}(h:wH B e f w svs ps){i:Nat}{x y:Value}{p q:α}(hx:svs[i]?=some x)(hy:svs[i+1]?=some y)(hp:ps[i]?=some p)(hq:ps[i+1]?=some q):wH B e f w ((svs.set i y).set (i+1) x) ((ps.set i q).set (i+1) p):=by
 obtain⟨a1,rfl⟩:=List.getElem?_eq_some_iff.1 hx;obtain⟨a2,rfl⟩:=List.getElem?_eq_some_iff.1 hy;obtain⟨b1,rfl⟩:=List.getElem?_eq_some_iff.1 hp;obtain⟨b2,rfl⟩:=List.getElem?_eq_some_iff.1 hq;refine⟨by simpa using h.1,fun k h1 h2=>?_⟩;rw[List.getElem_set,List.getElem_set,List.getElem_set,List.getElem_set];by_cases e1:i+1=k
 ·rw[if_pos e1,if_pos e1];exact h.2 i a1 b1
 ·rw[if_neg e1,if_neg e1]
  by_cases e2:i=k
  ·rw[if_pos e2,if_pos e2];exact h.2 (i+1) a2 b2
  ·rw[if_neg e2,if_neg e2];exact h.2 k (by simpa using h1) (by simpa using h2)
theorem LUp.swap {e base g n c i:Nat}{w:World}{svs:List Value}{ps:List (List (List Int))}(h:LUp e base w (.slice (some ⟨g,0,none⟩) n c) n svs ps){x y:Value}{p q:List (List Int)}(hx:svs[i]?=some x)(hy:svs[i+1]?=some y)(hp:ps[i]?=some p)(hq:ps[i+1]?=some q){W:World}(hW:W=(w.setCell ⟨g,i+1,none⟩ x).setCell ⟨g,i,none⟩ y\/W=(w.setCell ⟨g,i,none⟩ y).setCell ⟨g,i+1,none⟩ x):LUp e base W (.slice (some ⟨g,0,none⟩) n c) n ((svs.set i y).set (i+1) x) ((ps.set i q).set (i+1) p)/\w.grownBy W (some g):=by
 have hg:w.grownBy W (some g):=by
  rcases hW with rfl|rfl
  ·exact zD (zC w ⟨g,i+1,none⟩ x) (zC _ ⟨g,i,none⟩ y)
  ·exact zD (zC w ⟨g,i,none⟩ y) (zC _ ⟨g,i+1,none⟩ x)
 refine⟨⟨?_,?_,h.ne⟩,hg⟩
 ·rcases hW with rfl|rfl
  ·have h2:=iZ (iZ h.own (i+1) x) i y
   rwa [List.set_comm _ _ (by omega)]at h2
  ·exact iZ (iZ h.own i y) (i+1) x
 ·have h0:=zS h.own h.ne
  exact(((h.rows.swap hx hy hp hq).kept hg (fun k e=>.inr (h0 k (by rw[<- e];rfl)))).mono hg.size)
theorem LUp.drewN {e base n:Nat}{w:World}{v:Value}{svs:List Value}{ps:List (List (List Int))}(h:LUp e base w v n svs ps):LUp e base w.drew v n svs ps:=h.kept (zO w none) (by simp)
theorem LUp.at {base g n c i:Nat}{w:World}{svs:List Value}{ps:List (List (List Int))}(h:LUp 28 base w (.slice (some ⟨g,0,none⟩) n c) n svs ps)(hi:i<n):∃ (a:Option Addr) (d:Nat) (p:List (List Int)),svs[i]?=some (.slice a p.length d)/\ps[i]?=some p/\w.cell? ⟨g,i,none⟩=some (.slice a p.length d)/\RowT w.heap.size 9 w (.slice a p.length d) (strs p):=by
 have hl:=h.own.1;have h0:=h.rows.1;have hr:=h.rows.2 i (by omega) (by omega);obtain⟨a,d,e⟩:=hr.row.shape;rw[yT]at e;refine⟨a,d,ps[i]'(by omega),by rw[<- e];exact List.getElem?_eq_getElem _,List.getElem?_eq_getElem _,?_,by rw[<- e];exact hr⟩;have:=(RowT.of_owns h.own).row;rcases this with ⟨a0,c0,e0,hx⟩|⟨b',off',cap',hv,_,_,_,hra⟩
 ·simp only[Value.slice.injEq]at e0;omega
 ·simp only[Value.slice.injEq,Option.some.injEq,Addr.mk.injEq,and_true]at hv
  obtain⟨⟨rfl,rfl⟩,_⟩:=hv;have hc:=hra.2 i (by omega);rw[Nat.zero_add]at hc;rw[hc,<- e]
def InsI (L ps:List (List (List Int)))(i j:Nat):Prop:=∃ A x B C,ps=A++x::(B++C)/\A.length=j/\A.length+B.length=i/\qF (A++B)/\(∀ b∈B,wY x b=true)/\ps.Perm L
theorem ins_start {L ps:List (List (List Int))}{i:Nat}(hs:qF (ps.take i))(hi:i<ps.length)(hp:ps.Perm L):InsI L ps i i :=
 ⟨ps.take i,ps[i],[],ps.drop (i+1),by rw[List.nil_append,<- List.drop_eq_getElem_cons hi,List.take_append_drop],by simp;omega,by simp;omega,by simpa using hs,by simp,hp⟩
theorem qAF {α:Type}(a x:α)(R:List α):∀ A:List α,((A++a::x::R).set A.length x).set (A.length+1) a=A++x::a::R
 | []=>rfl
 | b::A=>by have:=qAF a x R A;simp[this]
theorem dU {α:Type}{A:List α}{j:Nat}(h:A.length=j+1):∃ A' a,A=A'++[a]/\A'.length=j:=by
 have h0:A≠[]:=by intro e;rw[e]at h;simp at h
 exact⟨A.dropLast,A.getLast h0,(List.dropLast_concat_getLast h0).symm,by simp[h]⟩
theorem ins_step {L ps:List (List (List Int))}{i j:Nat}{p q:List (List Int)}(h:InsI L ps i (j+1))(hp:ps[j]?=some p)(hq:ps[j+1]?=some q)(hl:wY q p=true):InsI L ((ps.set j q).set (j+1) p) i j:=by
 obtain⟨A,x,B,C,rfl,hA,hi,hs,hB,h0⟩:=h;obtain⟨A',a,rfl,rfl⟩:=dU hA;have e0:A'++[a]++x::(B++C)=A'++a::x::(B++C):=by simp
 rw[e0]at hp hq h0 ⊢;have e1:a=p:=by rw[List.getElem?_append_right (Nat.le_refl _)]at hp;simpa using hp
 have e2:x=q:=by rw[List.getElem?_append_right (by omega)]at hq;simpa using hq
 subst e1;subst e2;rw[qAF];refine⟨A',x,a::B,C,by simp,rfl,by simp at hi ⊢;omega,by simpa using hs,?_,(List.Perm.append_left A' (List.Perm.swap _ _ _)).trans h0⟩;intro b hb;rcases List.mem_cons.1 hb with rfl|hb
 ·exact hl
 ·exact hB b hb
theorem qEH {L ps:List (List (List Int))}{i j:Nat}(h:InsI L ps i j)(hn:L.Nodup)(hd:j=0\/∃ k p q,j=k+1/\ps[k]?=some p/\ps[k+1]?=some q/\wY q p=false):qF (ps.take (i+1))/\ps.Perm L:=by
 obtain⟨A,x,B,C,rfl,hA,hi,hs,hB,h0⟩:=h;refine⟨?_,h0⟩
 have et:(A++x::(B++C)).take (i+1)=A++x::B:=by
  have e3:A++x::(B++C)=(A++x::B)++C:=by simp
  rw[e3,List.take_left' (by simp;omega)]
 rw[et];have h1:=List.pairwise_append.1 hs;have h2:=h0.nodup_iff.2 hn
 have h8:∀ a∈A,wY a x=true:=by
  rcases hd with rfl|⟨k,p,q,rfl,hp,hq,hl⟩
  ·intro a ha;rw[List.eq_nil_of_length_eq_zero hA]at ha;simp at ha
  ·obtain⟨A',a,rfl,rfl⟩:=dU hA
   have e0:A'++[a]++x::(B++C)=A'++a::x::(B++C):=by simp
   rw[e0]at hp hq h2;have e1:a=p:=by rw[List.getElem?_append_right (Nat.le_refl _)]at hp;simpa using hp
   have e2:x=q:=by rw[List.getElem?_append_right (by omega)]at hq;simpa using hq
   subst e1;subst e2
   have h7:a≠x:=by
    have h3:=(List.pairwise_append.1 h2).2.1;have h4:=(List.pairwise_cons.1 h3).1 x (by simp);exact h4
   have h6:wY a x=true:=by
    rcases lessP_total h7 with h|h
    ·exact h
    ·rw[hl]at h;cases h
   intro b hb;rcases List.mem_append.1 hb with hb|hb
   ·have h5:=(List.pairwise_append.1 h1.1).2.2 b hb a (by simp)
    exact fP h5 h6
   ·have:b=a:=by simpa using hb
    rw[this];exact h6
 refine List.pairwise_append.2 ⟨h1.1,List.pairwise_cons.2 ⟨hB,h1.2.1⟩,fun a ha b hb=>?_⟩;rcases List.mem_cons.1 hb with rfl|hb
 ·exact h8 a ha
 ·exact h1.2.2 a ha b hb
theorem sorted_is {l m:List (List (List Int))}(h1:qF l)(h2:qF m)(h:l.Perm m):l=m:=qBI h1 h2 fun _=>h.mem_iff
theorem rfam_err (kind letters k m:Int)(w:World)(ho:tI kind letters k m=false):Calls Try.prog 45 #[.int .i64 kind,.int .i64 letters,.int .i64 k,.int .i64 m] w (vE w 1 []):=by
 have h0:=Kh (yK w letters);simp only[tI,decide_eq_false_iff_not]at ho;have HO:=Kh ho;clear ho;by_cases a1:kind<1
 ·by_cases k1:kind=1
  ·omega
  have k1':(kind == 1)=false:=by simpa using k1
  clear k1;go_enter Try.func45,Try.ntmps45;go_wp2;refine bodyPost_ret (v:=.tuple #[.slice none 0 0,.int .i64 1]) (by simp[results,Try.results45,go_sem]) rfl ?_;exact vE.nil (zL _ _)
 by_cases a2:7<kind
 ·have k1':(kind == 1)=false:=by simp;omega
  go_enter Try.func45,Try.ntmps45;go_wp2;refine bodyPost_ret (v:=.tuple #[.slice none 0 0,.int .i64 1]) (by simp[results,Try.results45,go_sem]) rfl ?_;exact vE.nil (zL _ _)
 by_cases a3:1<=letters/\letters<=6;rotate_left
 ·rw[decide_eq_false a3]at h0
  clear a3;by_cases k1:kind=1
  ·subst k1
   go_enter Try.func45,Try.ntmps45;go_wp2_with fail;refine h0.out.mono ?_;rintro e w ⟨rfl,rfl⟩;go_wp2;refine bodyPost_ret (v:=.tuple #[.slice none 0 0,.int .i64 1]) (by simp[results,Try.results45,go_sem]) rfl ?_;exact vE.nil (zL _ _)
  ·have k1':(kind == 1)=false:=by simpa using k1
   clear k1;go_enter Try.func45,Try.ntmps45;go_wp2_with fail;refine h0.out.mono ?_;rintro e w ⟨rfl,rfl⟩;go_wp2;refine bodyPost_ret (v:=.tuple #[.slice none 0 0,.int .i64 1]) (by simp[results,Try.results45,go_sem]) rfl ?_;exact vE.nil (zL _ _)
 rw[decide_eq_true a3]at h0;by_cases k1:kind=1
 ·subst k1
  by_cases b1:k<0
  ·go_enter Try.func45,Try.ntmps45
   go_wp2_with fail;refine h0.out.mono ?_;rintro e w ⟨rfl,rfl⟩;go_wp2;refine bodyPost_ret (v:=.tuple #[.slice none 0 0,.int .i64 1]) (by simp[results,Try.results45,go_sem]) rfl ?_;exact vE.nil (zL _ _)
  by_cases b2:8<k
  ·go_enter Try.func45,Try.ntmps45
   go_wp2_with fail;refine h0.out.mono ?_;rintro e w ⟨rfl,rfl⟩;go_wp2;refine bodyPost_ret (v:=.tuple #[.slice none 0 0,.int .i64 1]) (by simp[results,Try.results45,go_sem]) rfl ?_;exact vE.nil (zL _ _)
  have b3:(m != 0)=true:=by rw[bne_iff_ne];intro e;exact HO.out (by simp;omega)
  go_enter Try.func45,Try.ntmps45;go_wp2_with fail;refine h0.out.mono ?_;rintro e w ⟨rfl,rfl⟩;go_wp2;refine bodyPost_ret (v:=.tuple #[.slice none 0 0,.int .i64 1]) (by simp[results,Try.results45,go_sem]) rfl ?_;exact vE.nil (zL _ _)
 have k1':(kind == 1)=false:=by simpa using k1
 have H1:=Kh k1;clear k1;by_cases b1:k<1
 ·go_enter Try.func45,Try.ntmps45
  go_wp2_with fail;refine h0.out.mono ?_;rintro e w ⟨rfl,rfl⟩;go_wp2;refine bodyPost_ret (v:=.tuple #[.slice none 0 0,.int .i64 1]) (by simp[results,Try.results45,go_sem]) rfl ?_;exact vE.nil (zL _ _)
 by_cases b2:8<k
 ·go_enter Try.func45,Try.ntmps45
  go_wp2_with fail;refine h0.out.mono ?_;rintro e w ⟨rfl,rfl⟩;go_wp2;refine bodyPost_ret (v:=.tuple #[.slice none 0 0,.int .i64 1]) (by simp[results,Try.results45,go_sem]) rfl ?_;exact vE.nil (zL _ _)
 by_cases k7:kind=7
 ·subst k7
  by_cases b3:m<0
  ·go_enter Try.func45,Try.ntmps45
   go_wp2_with fail;refine h0.out.mono ?_;rintro e w ⟨rfl,rfl⟩;go_wp2;refine bodyPost_ret (v:=.tuple #[.slice none 0 0,.int .i64 1]) (by simp[results,Try.results45,go_sem]) rfl ?_;exact vE.nil (zL _ _)
  by_cases b4:4<m
  ·go_enter Try.func45,Try.ntmps45
   go_wp2_with fail;refine h0.out.mono ?_;rintro e w ⟨rfl,rfl⟩;go_wp2;refine bodyPost_ret (v:=.tuple #[.slice none 0 0,.int .i64 1]) (by simp[results,Try.results45,go_sem]) rfl ?_;exact vE.nil (zL _ _)
  exact absurd (by rw[if_neg H1.out,if_pos rfl];omega) HO.out
 ·have k7':(kind == 7)=false:=by simpa using k7
  have k7'':(kind != 7)=true:=by rw[bne_iff_ne];exact k7
  have b3:(m != 0)=true:=by rw[bne_iff_ne];intro e;exact HO.out (by rw[if_neg H1.out,if_neg k7];omega)
  clear k7;go_enter Try.func45,Try.ntmps45;go_wp2_with fail;refine h0.out.mono ?_;rintro e w ⟨rfl,rfl⟩;go_wp2;refine bodyPost_ret (v:=.tuple #[.slice none 0 0,.int .i64 1]) (by simp[results,Try.results45,go_sem]) rfl ?_;exact vE.nil (zL _ _)
theorem upTo_len_step (L i:Nat):(upTo L (i+2)).length=(upTo L (i+1)).length+L ^ i * L:=by
 rw[xK L (i+1),List.length_append,vN,Nat.pow_succ]
theorem famP_ge {kind:Int}{L K:Nat}(M:Nat):(xG L K).length<=(famP kind L K M).length+1:=by
 unfold famP;simp only
 split
 ·rw[List.length_map];omega
 split
 ·simp only[List.length_append,List.length_map,List.length_drop];omega
 split
 ·simp only[List.length_append,List.length_map,List.length_drop];omega
 split
 ·simp only[List.length_append,List.length_map,List.length_drop];omega
 split
 ·simp only[List.length_append,List.length_map,List.length_drop];omega
 split
 ·simp only[List.length_append,List.length_map,List.length_drop];omega
 ·rw[aS,List.length_append,List.length_map];omega
theorem aM {kind:Int}{L K M:Nat}(ho:tI kind L K M=true)(h:(kind=6/\8<(K:Int)+2)\/300<gO kind L K M):famE kind L K M=3/\famL kind L K M=[]:=by
 have e1:famE kind L K M=3:=by rw[famE,if_neg (by rw[ho];simp),if_pos (h.imp id (fun hs=>by simpa using hs))]
 exact⟨e1,by rw[famL,e1];rfl⟩
theorem famE_small {kind:Int}{L K M:Nat}(ho:tI kind L K M=true)(h6:¬ (kind=6/\8<(K:Int)+2))(h:¬ 300<gO kind L K M):famE kind L K M=0/\famL kind L K M=famP kind L K M:=by
 have e1:famE kind L K M=0:=by
  rw[famE,if_neg (by rw[ho];simp),if_neg];rintro (h1|h1)
  ·exact h6 h1
  ·exact h (by simpa using h1)
 exact⟨e1,by rw[famL,e1];simp⟩
theorem jA {α:Type}{c:Prop}[Decidable c](x:α):(if c then [x] else []).length<=1:=by split<;>simp
theorem genU_len (kind:Int)(k:Nat)(u:List Int):(genU kind k u).length<=5:=by
 unfold genU;rw[List.length_append];have h1:=jA (c:=kind=1\/kind=7\/(kind≠6/\u.length<k)) (oneB u);by_cases hu:u=[]
 ·rw[if_pos hu,List.length_nil];omega
 ·rw[if_neg hu]
  rw[List.length_append,List.length_append,List.length_append];have h2:=jA (c:=kind=2\/kind=4\/kind=5) (preB u);have h3:=jA (c:=kind=3\/kind=4\/kind=5) (sufB u);have h4:=jA (c:=kind=5) (facB u);have h5:=jA (c:=kind=6) (wK u);omega
theorem aK (kind:Int)(k:Nat):∀ W:List (List Int),(genL kind k W).length<=5 * W.length
 | []=>by simp[genL]
 | u::W=>by
  have:=aK kind k W
  have:=genU_len kind k u
  simp only[genL,List.flatMap_cons,List.length_append,List.length_cons]at *
  omega
theorem grown_iterAt (w:World)(k:Nat)(s:ByteArray)(pos:Nat):w.grownBy (w.iterAt k s pos) (some k) :=
 ⟨rfl,rfl,rfl,by rw[Lib.iterAt_size];exact Nat.le_refl _,fun i _ hne=>Lib.iterAt_other w k i s pos (fun e=>hne (by rw[e]))⟩
theorem wH.cat {α:Type}{B:Nat}{e:TypeId}{f:α->List Value}{w:World}{svs svs2:List Value}{ps ps2:List α}(h:wH B e f w svs ps)(h2:wH B e f w svs2 ps2):wH B e f w (svs++svs2) (ps++ps2):=by
 refine⟨by simp[h.1,h2.1],fun i a b=>?_⟩;have hl:=h.1;by_cases hi:i<svs.length
 ·rw[List.getElem_append_left hi,List.getElem_append_left (by omega)];exact h.2 i hi _
 ·rw[List.getElem_append_right (by omega),List.getElem_append_right (by omega)]
  have:=h2.2 (i - svs.length) (by rw[List.length_append]at a;omega) (by rw[List.length_append]at b;omega);simp only[hl]at this ⊢;exact this
theorem wH.one {w:World}{B:Nat}{e:TypeId}{svs:List Value}{ps:List (List (List Int))}(h:wH B e strs w svs ps):∀ u∈svs,u.oneCell'=true:=by
 intro u hu;obtain⟨i,hi,rfl⟩:=List.mem_iff_getElem.1 hu;have hl:=h.1;obtain⟨a,c,e⟩:=(h.2 i hi (by omega)).row.shape;rw[e];rfl
theorem LUp.cat {e base n n2:Nat}{w w1 w2:World}{v v2:Value}{svs svs2:List Value}{ps ps2:List (List (List Int))}(h:LUp e base w v n svs ps)(hg1:w.grownBy w1 none)(hr:wH w1.heap.size 9 strs w1 svs2 ps2)(hown:w2.ownsRow base e 1 v2 n2 (svs++svs2))(hg:w1.grownBy w2 v.ownBlock):LUp e base w2 v2 n2 (svs++svs2) (ps++ps2)/\w.grownBy w2 v.ownBlock:=by
 have h1:=h.kept hg1 (by simp);have h0:=zS h1.own h.ne;exact⟨⟨hown,((h1.rows.cat hr).kept hg (fun k e=>.inr (h0 k e))).mono hg.size,h.ne⟩,zD (wE hg1) hg⟩
theorem words_first {L K r:Nat}(h:r<(xG L K).length):((xG L K)[r]=[] ↔ r=0):=by
 obtain⟨t,e,ht⟩:=gF L K;have e':xG L K=[]::t:=e;constructor
 ·intro h0
  rcases r with _|r
  ·rfl
  ·exfalso
   simp only[e',List.getElem_cons_succ]at h0;exact ht _ (List.getElem_mem _) h0
 ·rintro rfl
  simp only[e',List.getElem_cons_zero]
theorem qAB {L K:Nat}(h6:K<=8){u:List Int}(hu:u∈xG L K):u.length<=8:=wI (n:=K+1) (by omega) hu
theorem okB {letters:Nat}(h:letters<=6){n:Nat}{u:List Int}(hu:u∈upTo letters n):okW u:=by
 simp only[upTo,List.mem_flatMap,List.mem_range]at hu;obtain⟨m,_,hu⟩:=hu;intro x hx;have:=(sM hu).2 x hx;unfold aB at *;omega
end Go.Proofs.Ytjfdomfendbhfaa
