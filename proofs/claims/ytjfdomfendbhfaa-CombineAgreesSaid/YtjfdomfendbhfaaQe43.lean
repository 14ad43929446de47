/- Part 43 of the proof: UptoW, RChains, Comp. -/
import Derived.Test.YtjfdomfendbhfaaQe42
import Derived.Deep.DeepCutAuto
set_option linter.unusedVariables false
set_option linter.unusedSimpArgs false
namespace Go.Proofs.Ytjfdomfendbhfaa
open Go.RowKit
theorem stepU_app1 {P:Program} {ops:Array Oper} {o:Oper} {a:Act} {w:World} {K:Act->World->Prop} {Q:Exit->Act->World->Prop} {R:Prop} (hgd:o.guard=none) (s x:Operand) (t:TypeId)
  (ho:o.op=.call { callee:=.builtin .append,args:=#[s,x],argTypes:=#[t,t] })
  {e:TypeId} {z:Value} {bytes:Nat} (E:ElemOk P t e z bytes) (base:Nat) (v:Value) (n:Nat) (xs:List Value) (hs:a.eval s=v) (hown:w.ownsRow base e 1 v n xs)
  (u:Value) (blk:Nat) (m:Nat × Nat) (hx:a.eval x=.slice (some ⟨blk,0,none⟩) 1 1) (hblk:w.heap[blk]?=some (.cells #[u] e m)) (h1:u.oneCell'=true) (h63:n+1<=maxLen) (hbytes:(n+1) * bytes<=140737488355328) (hbase:base<=w.heap.size)
  (h:∀ sa sc w',w'.ownsRow base e 1 (.slice sa (n+1) sc) (n+1) (xs ++ [u])->w.grownBy w' v.ownBlock->K (a.put o.dst (.slice sa (n+1) sc)) w') :
  if Region.wanted o (yielded ops a.tmps)=true then Oper.wp P o a w K Q else R:=by
 have hw:Region.wanted o (yielded ops a.tmps)=true:=by simp[Region.wanted,hgd]
 rw[if_pos hw]
 obtain⟨i,hi,hz,h0,h3⟩:=info_parts E.hi
 refine wp_append_own w s x t ho base e i z 1 bytes E.ht hi hz h0 h3 E.hz (by decide) v n xs hs hown ⟨blk,0,none⟩ 1 1 [u] hx rfl ?_ ?_ h63 hbytes hbase ?_
 ·intro j u' hj
  match j,hj with
  | 0,hj=>simp at hj;subst hj;simpa [Addr.add] using zK hblk 0 (by simp)
 ·intro u' hu;simp at hu;subst hu;exact h1
 ·intro v' w' h1 h2 _
  obtain⟨sa,sc,rfl⟩:=pJ h1
  exact h sa sc w' h1 h2
theorem eU {w:World} {kb:Nat} {l:List (List Int)} (h:Arr w kb 9 (strs l)) (i:Nat) (hi:i < l.length):w.cell? ⟨kb,i,none⟩=some (.string (strOfNums l[i])):=by
 rw[h.cell i (by rw[wE];exact hi)];simp[strs]
theorem strs_catU (u:List Int) (c:Int):strOfNums u ++ strOfNums [c]=strOfNums (u ++ [c]):=by
 have h:(strOfNums u ++ strOfNums [c]).data.toList=(strOfNums (u ++ [c])).data.toList:=by
  rw[ByteArray.data_append,Array.toList_append,strOfNums_data,strOfNums_data,strOfNums_data,List.map_append]
 have h2:=Array.toList_inj.1 h
 cases h3:strOfNums u ++ strOfNums [c]
 cases h4:strOfNums (u ++ [c])
 simp_all
set_option maxRecDepth 100000 in
set_option maxHeartbeats 2000000 in
theorem bN (letters n:Nat) (w:World) (h1:1<=letters) (h6:letters<=6) (hn8:n<=8) (hlim:(upTo letters (n+1)).length<=1000) :
  Calls Try.prog 76 #[.int .i64 letters,.int .i64 n] w (qCC w (upTo letters (n+1))):=by
 obtain⟨P,hP⟩:∃ P,P=w.heap.size:=⟨_,rfl⟩
 have a8:=Kh hP
 have HF:Hid (∀ i,(grown letters n i).length<=1000):=Kh (fun i=>Nat.le_trans (cA letters n i).length_le hlim)
 have d9:=Kh hlim
 have ho:(w.alloc (.cells #[.string ⟨#[]⟩] 9)).ownsRow P 9 1 (.slice (some ⟨P,0,none⟩) 1 1) 1 (strs (grown letters n 0)):=by
  rw[hP]
  exact World.ownsRow_lit (e:=9) (size:=1) w #[.string ⟨#[]⟩] 1 (Nat.le_refl _) (by unfold maxLen;omega) (by simp)
 have b5:w.grownBy (w.alloc (.cells #[.string ⟨#[]⟩] 9)) none:=Ga _ _ _
 have HO:=Kh ho;have HG:=Kh b5
 clear ho b5 hlim
 go_enter Try.func76,Try.ntmps76
 go_upto_region 2 with fail
 rw[<- a8.out]
 obtain⟨w1,b1⟩:∃ w1,w1=w.alloc (.cells #[.string ⟨#[]⟩] 9):=⟨_,rfl⟩
 rw[<- b1]at HO HG ⊢
 clear b1 hP
 go_wp2
 obtain⟨U,hU⟩:∃ U,U=upTo letters n:=⟨_,rfl⟩
 obtain⟨V,hV⟩:∃ V,V=upTo letters (n+1):=⟨_,rfl⟩
 have b6:Hid (U <+: V):=Kh (by rw[hU,hV];exact upTo_pre letters n)
 have e8:V.length<=1000:=by rw[hV];exact d9.out
 have h3:=Kh hU;have H2:=Kh hV
 rw[<- hV]
 clear hU hV
 have f0:=b6.out.length_le
 -- the outer loop
 go_loopg [5,6,7] V.length (fun gh lv iv av wr=>∃ (i L:Nat) (sa:Option Addr) (sc:Nat),gh+i=V.length/\iv=.int .i64 (i:Int)/\lv=.slice sa L sc/\Hid (L=(grown letters n i).length)/\Hid (wr.ownsRow P 9 1 (.slice sa L sc) L (strs (grown letters n i)))/\w.grownBy wr none)
 case atStart=>exact⟨0,1,some ⟨P,0,none⟩,1,rfl,rfl,rfl,Kh (by simp[grown]),HO,HG.out⟩
 case round =>
  obtain⟨i,L,sa,sc,hg,rfl,rfl,hL,h0,H5⟩:=hrel
  have a1:=Kh hg;have a0:=Kh H5
  have a7:L<=1000:=by rw[hL.out];exact HF.out i
  clear hg H5 HO HG
  rcases Nat.lt_or_ge i U.length with hiU|hiU
  ·-- a word of fewer than n letters
   have b3:i < L:=by
    have:=lI (n:=n) h1 i (by rw[<- h3.out];omega)
    rw[<- hL.out]at this;omega
   have H4:(i:Int) < L:=by omega
   have hm:=List.getElem_mem hiU
   have c5:(U[i]).length < n:=oF (by rw[<- h3.out];exact hm)
   obtain⟨u,hu⟩:∃ u,u=U[i]:=⟨_,rfl⟩
   have HU:=Kh hu
   rw[<- hu]at c5
   obtain⟨X,hX⟩:∃ X,X=strOfNums u:=⟨_,rfl⟩
   have c4:X.size=u.length:=by rw[hX,strOfNums_size]
   have HX:=Kh hX
   have d4:Hid (∀ x,x < letters->grown letters n i ++ (block letters u 0).take (x+1)=(grown letters n i ++ (block letters u 0).take x) ++ [u ++ [97+(x:Int)]]):=Kh (fun x hx=>by
    have:=grown_step (letters:=letters) (n:=n) (i:=i) (x:=x) (by rw[<- h3.out];exact hiU) hx
    have e:(upTo letters n)[i]'(by rw[<- h3.out];exact hiU)=u:=by rw[hu];congr 1;exact h3.out.symm
    rw[e]at this;exact this)
   have b7:Hid (∀ x,grown letters n i ++ (block letters u 0).take x <+: V):=Kh (fun x=>by
    have:=grown_part letters n i x (by rw[<- h3.out];exact hiU)
    have e:(upTo letters n)[i]'(by rw[<- h3.out];exact hiU)=u:=by rw[hu];congr 1;exact h3.out.symm
    rw[e,<- H2.out]at this;exact this)
   have d3:Hid (∀ h:i < V.length,V[i]=u):=Kh (fun h=>by rw[hu];exact(qAT b6.out hiU).symm)
   have b9:Hid (grown letters n (i+1)=grown letters n i ++ block letters u 0):=Kh (by
    rw[mK (by rw[<- h3.out];exact hiU)]
    have e:(upTo letters n)[i]'(by rw[<- h3.out];exact hiU)=u:=by rw[hu];congr 1;exact h3.out.symm
    rw[e])
   clear hu hX hm
   obtain⟨wo,a9⟩:∃ wo,wo=wr:=⟨_,rfl⟩
   rw[<- a9]at h0 a0 ⊢
   clear a9 wr
   go_wp2
   go_loopg [5,7] letters (fun gh lv av wr=>∃ (a:Nat) (sb:Option Addr) (sd:Nat),gh+a=letters/\av=.int .i64 (a:Int)/\lv=.slice sb (L+a) sd/\Hid (wr.ownsRow P 9 1 (.slice sb (L+a) sd) (L+a) (strs (grown letters n i ++ (block letters u 0).take a)))/\w.grownBy wr none)
   case atStart=>exact⟨0,sa,sc,rfl,rfl,rfl,Kh (by simpa using h0.out),a0.out⟩
   case round =>
    obtain⟨a,sb,sd,hg,rfl,rfl,h0,H5⟩:=hrel
    obtain⟨kb,rfl,c8,H8,h4⟩:=uS h0.out (by omega)
    have h5:(grown letters n i ++ (block letters u 0).take a).length=L+a:=by rw[List.length_append,List.length_take,vP,<- hL.out];omega
    have h2:=eU h4 i (by rw[h5];omega)
    have f1:L+a<=V.length:=by rw[<- h5];exact(b7.out a).length_le
    rw[qAT (b7.out a) (by rw[h5];omega),d3.out (by omega),<- HX.out]at h2
    have e2:(i:Int) < (L:Int)+(a:Int):=by omega
    have c7:i < L+a:=by omega
    have c2:=Kh hg;have H3:=Kh H5
    have h7:=h0
    have a6:sd<=9223372036854775807:=by unfold maxLen at H8;omega
    clear hg H5 h4 H8 h5 h0
    by_cases ha:a < letters
    ·have e7:(a:Int) < letters:=by omega
     have e1:(X.size:Int) < n:=by omega
     have f3:(L:Int)+(a:Int) < 2000:=by omega
     have f2:IntKind.i64.wrap (97+(a:Int))=97+(a:Int):=IntWalk.i64_in _ (by omega)
     have e6:IntKind.u8.wrap (97+(a:Int))=97+(a:Int):=IntWalk.u8_in _ (by omega)
     obtain⟨Y,hY⟩:∃ Y,Y=strOfNums [97+(a:Int)]:=⟨_,rfl⟩
     have e4:∀ (W:World) (g:Nat),W.cell? ⟨g,0,none⟩=some (.int .u8 (97+(a:Int)))->(convert 106 9 (.slice (some ⟨g,0,none⟩) 1 1)).run Try.prog W=.ok (.string Y) W:=fun W g h=>by rw[hY];exact run_byte1 106 5 Try.underlying106 Try.underlying5 9 Try.underlying9 h
     have e5:∀ W:World,(Op.stringOp .add X Y).run Try.prog W=.ok (.string (X ++ Y)) W:=fun W=>run_string_add_sum W X Y (by
      rw[hY,strOfNums_size];simp;omega)
     have d1:Hid (X ++ Y=strOfNums (u ++ [97+(a:Int)])):=Kh (by rw[HX.out,hY,strs_catU])
     clear hY
     obtain⟨w5,a2⟩:∃ w5,w5=wr.drew:=⟨_,rfl⟩
     have H9:wr.grownBy w5 none:=by rw[a2];exact zL wr none
     have d2:=Kh a2
     have b8:=Kh (wD h7.out H9 (by simp));have c1:=Kh (zB H3.out H9 (by simp))
     have C:=Kh (yL h2 H9)
     clear a2 H9 h7 H3
     go_upto_region 8 with fail
     clear h2
     refine wp_region_noPanic ?_
     refine wN (G:=uZ 10 (fun _=>True) (fun W=>W.cell? ⟨kb,i,none⟩=some (.string X))) (by kernel_rfl) ?_
     rw[<- d2.out]
     refine takeC (i:=0) (v:=?_) rfl rfl (Or.inl ⟨by rfl,?_⟩) ⟨trivial,fun _=>C.out⟩ ?_
     rotate_left
     ·(intro wz hz;(try dsimp only at hz);go_simp;(try with_reducible rfl))
     try simp only[Act.put,sPa,sPb,sPc]
     refine takeC (i:=1) (v:=?_) rfl rfl (Or.inl ⟨by rfl,?_⟩) ⟨trivial,fun _=>C.out⟩ ?_
     rotate_left
     ·(intro wz hz;(try dsimp only at hz);go_simp;(try with_reducible rfl))
     try simp only[Act.put,sPa,sPb,sPc]
     refine takeC (i:=2) (v:=?_) rfl rfl (Or.inl ⟨by rfl,?_⟩) ⟨trivial,fun _=>C.out⟩ ?_
     rotate_left
     ·(intro wz hz;(try dsimp only at hz);go_simp;(try with_reducible rfl))
     try simp only[Act.put,sPa,sPb,sPc]
     refine takeC (i:=3) (v:=?_) rfl rfl (Or.inl ⟨by rfl,?_⟩) ⟨trivial,fun _=>C.out⟩ ?_
     rotate_left
     ·(intro wz hz;(try dsimp only at hz);go_simp;(try with_reducible rfl))
     try simp only[Act.put,sPa,sPb,sPc]
     refine takeD (i:=4) (v:=?_) rfl rfl (Or.inl ⟨by rfl,?_⟩) ⟨trivial,fun _=>C.out⟩ ?_
     rotate_left
     ·(rintro wz ⟨-,hz⟩;(try dsimp only at hz);go_simp;(try with_reducible rfl))
     try simp only[Act.put,sPa,sPb,sPc]
     refine takeC (i:=5) (v:=?_) rfl rfl (Or.inl ⟨by rfl,?_⟩) ⟨trivial,fun _=>C.out⟩ ?_
     rotate_left
     ·(intro wz hz;(try dsimp only at hz);go_simp;(try with_reducible rfl))
     try simp only[Act.put,sPa,sPb,sPc]
     refine takeC (i:=6) (v:=?_) rfl rfl (Or.inl ⟨by rfl,?_⟩) ⟨trivial,fun _=>C.out⟩ ?_
     rotate_left
     ·(intro wz hz;(try dsimp only at hz);go_simp;(try with_reducible rfl))
     try simp only[Act.put,sPa,sPb,sPc]
     refine takeC (i:=7) (v:=?_) rfl rfl (Or.inl ⟨by rfl,?_⟩) ⟨trivial,fun _=>C.out⟩ ?_
     rotate_left
     ·(intro wz hz;(try dsimp only at hz);go_simp;(try with_reducible rfl))
     try simp only[Act.put,sPa,sPb,sPc]
     refine oneG (i:=8) (by kernel_rfl) rfl (fun K hK=>?_)
     go_simp
     have H0:=heap_alloc_new w5 (.cells #[.int .u8 (97+(a:Int))] 5)
     have H7:=Ga w5 (.cells #[.int .u8 (97+(a:Int))] 5) none
     obtain⟨g6,H6⟩:∃ g6,g6=w5.heap.size:=⟨_,rfl⟩
     obtain⟨w6,b0⟩:∃ w6,w6=w5.alloc (.cells #[.int .u8 (97+(a:Int))] 5):=⟨_,rfl⟩
     rw[<- H6]at H0 ⊢
     rw[<- b0]at H0 H7 ⊢
     have c9:=zK H0 0 (by simp)
     simp only[List.getElem_toArray,List.getElem_cons_zero]at c9
     have d6:=Kh (wD b8.out H7 (by simp));have c0:=Kh (zB c1.out H7 (by simp))
     have C6:=Kh (yL C.out H7)
     refine hK.out _ _ ⟨trivial,fun _=>C6.out⟩ ?_
     clear hK K H0 H7 H6 b0 b8 c1 C
     try simp only[Act.put,sPa,sPb,sPc]
     refine oneG (i:=9) (by kernel_rfl) rfl (fun K hK=>?_)
     go_simp
     refine hK.out _ _ ⟨trivial,fun _=>C6.out⟩ ?_
     clear hK K
     try simp only[Act.put,sPa,sPb,sPc]
     refine oneG (i:=10) (by kernel_rfl) rfl (fun K hK=>?_)
     go_simp
     refine hK.out _ _ ⟨trivial,fun h=>by simp at h⟩ ?_
     clear hK K
     try simp only[Act.put,sPa,sPb,sPc]
     refine oneG (i:=11) (by kernel_rfl) rfl (fun K hK=>?_)
     go_simp
     have H0:=heap_alloc_new w6 (.cells #[.string (X ++ Y)] 9)
     have a5:=Ga w6 (.cells #[.string (X ++ Y)] 9) none
     have a3:=wD d6.out a5 (by simp)
     refine hK.out _ _ ⟨trivial,fun h=>by simp at h⟩ ?_
     clear hK K
     try simp only[Act.put,sPa,sPb,sPc]
     have c6:P<=w6.heap.size:=by have:=c0.out.size;have:=a8.out;omega
     refine oneG (i:=12) (by kernel_rfl) rfl (fun K hK=>?_)
     refine stepU_app1 rfl (.tmp 34) (.tmp 45) 26 rfl pR P _ _ _ rfl a3 _ _ _ rfl H0 rfl ?g1 ?g2 ?g3 ?_
     case g1=>unfold maxLen;omega
     case g2=>omega
     case g3=>rw[zM];omega
     intro sa' sc' w8 h8 b4
     refine hK.out _ _ ⟨trivial,fun h=>by simp at h⟩ ?_
     clear hK K
     try simp only[Act.put,sPa,sPb,sPc]
     refine oneG (i:=13) (by kernel_rfl) rfl (fun K hK=>?_)
     go_simp
     refine hK.out _ _ ⟨trivial,fun h=>by simp at h⟩ ?_
     clear hK K
     try simp only[Act.put,sPa,sPb,sPc]
     refine jI (by kernel_rfl) ?_ _
     refine NoPanic.normal ?_
     have d5:=Kh h8
     have e0:=Kh (zB (zB c0.out a5 (by simp)) b4 (fun k e=>by have:=(a3.lt k e).1;have:=a8.out;omega))
     clear h8 b4 a5 a3 H0
     go_wp2
     go_roundg (letters - (a+1))
     case measure=>have:=c2.out;omega
     case rel =>
      refine⟨a+1,sa',sc',by omega,by go_num,by rw[Nat.add_assoc],Kh ?_,e0.out⟩
      rw[d4.out a ha,oH,<- Nat.add_assoc]
      have e9:strs [u ++ [97+(a:Int)]]=[.string (X ++ Y)]:=by rw[d1.out];rfl
      rw[e9];exact d5.out
    ·have d0:a=letters:=by have:=c2.out;omega
     subst d0
     have b2:(block a u 0).take a=block a u 0:=List.take_of_length_le (by rw[vP];exact Nat.le_refl _)
     rw[b2,<- b9.out]at h7
     have d8:Hid (L+a=(grown a n (i+1)).length):=Kh (by rw[b9.out,List.length_append,vP,<- hL.out])
     clear b2 h2
     go_wp2
     go_roundg (V.length - (i+1))
     case measure=>have:=a1.out;omega
     case rel=>exact⟨i+1,L+a,some ⟨kb,0,none⟩,sd,by have:=a1.out;omega,by go_num,rfl,d8,h7,H3.out⟩
  ·-- the list is whole
   have H1:grown letters n i=V:=by rw[cD (by rw[<- h3.out];exact hiU),H2.out]
   rw[H1]at hL h0
   have d7:=hL
   by_cases b3:i < L
   ·have H4:(i:Int) < L:=by omega
    obtain⟨kb,rfl,c8,H8,h4⟩:=uS h0.out (by omega)
    have a4:i < V.length:=by rw[<- hL.out];exact b3
    have h2:=eU h4 i a4
    have h9:(V[i]).length=n:=by
     have:=upTo_last (letters:=letters) (n:=n) (i:=i) (by rw[<- h3.out];exact hiU) (by rw[<- H2.out];exact a4)
     have e:V[i]=(upTo letters (n+1))[i]'(by rw[<- H2.out];exact a4):=by congr 1
     rw[e];exact this
    obtain⟨X,hX⟩:∃ X,X=strOfNums V[i]:=⟨_,rfl⟩
    have c4:¬ (X.size:Int) < n:=by rw[hX,strOfNums_size,h9];omega
    rw[<- hX]at h2
    have a6:sc<=9223372036854775807:=by unfold maxLen at H8;omega
    have e3:(0:Int) < letters:=by omega
    have c3:Hid (grown letters n (i+1)=V):=Kh (by rw[cD (by rw[<- h3.out];omega),H2.out])
    clear h4 H8 hX h9 H1
    obtain⟨wo,rfl⟩:∃ wo:World,wo=wr:=⟨_,rfl⟩
    go_wp2
    go_loopg [5,7] 0 (fun gh lv av wq=>lv=.slice (some ⟨kb,0,none⟩) L sc/\av=.int .i64 0/\wq=wo)
    case atStart=>exact⟨rfl,rfl,rfl⟩
    case round =>
     obtain⟨rfl,rfl,rfl⟩:=hrel
     go_wp2
     go_roundg (V.length - (i+1))
     case measure=>have:=a1.out;omega
     case rel=>exact⟨i+1,L,some ⟨kb,0,none⟩,sc,by have:=a1.out;have:=hL.out;omega,by go_num,rfl,by rw[c3.out];exact d7,by rw[c3.out];exact h0,a0.out⟩
   ·have H4:¬ (i:Int) < L:=by omega
    clear H1
    go_wp2
    go_ret
    exact⟨sa,sc,by rw[<- H2.out,<- hL.out];rfl,by rw[<- H2.out,<- hL.out];exact RowT.of_owns h0.out,a0.out⟩
def allC (ws:List (List Int)):Nat->List (List (List Int))
 | 0=>[]
 | i+1=>allC ws i ++ exts (chB ws i) ws
theorem eE (ws:List (List Int)):∀ i,chL ws i=ws.map oneB ++ allC ws i
 | 0=>by simp[chL,allC]
 | i+1=>by rw[chL,eE ws i,allC,List.append_assoc]
theorem qCT (l:List Int):(strOfNums l).toList.isEmpty=l.isEmpty:=by
 rw[ByteArray.toList_eq,strOfNums_data,Bool.eq_iff_iff,List.isEmpty_iff,List.isEmpty_iff,List.map_eq_nil_iff]
def lexZ:List Int->List Int->Bool
 | _,[]=>false
 | [],_ :: _=>true
 | a :: x,b :: y=>decide (a < b) || (decide (a=b) && lexZ x y)
def tN (u v:List Int):Bool:=decide (u.length < v.length) || (decide (u.length=v.length) && lexZ u v)
theorem iZ:∀ u v:List Int,u.length=v.length->u≠v->lexZ u v=true\/lexZ v u=true
 | [],[],_,h=>absurd rfl h
 | [],_ :: _,h,_=>by simp at h
 | _ :: _,[],h,_=>by simp at h
 | a :: x,b :: y,hl,hne=>by
  simp only[lexZ,Bool.or_eq_true,Bool.and_eq_true,decide_eq_true_eq]
  rcases Int.lt_trichotomy a b with h|h|h
  ·exact .inl (.inl h)
  ·subst h
   rcases iZ x y (by simpa using hl) (fun e=>hne (by rw[e])) with h|h
   ·exact .inl (.inr ⟨rfl,h⟩)
   ·exact .inr (.inr ⟨rfl,h⟩)
  ·exact .inr (.inl h)
theorem iY:∀ u v w:List Int,lexZ u v=true->lexZ v w=true->lexZ u w=true
 | _,[],_,h,_=>by cases ‹List Int› <;> simp[lexZ]at h
 | _,_ :: _,[],_,h=>by simp[lexZ]at h
 | [],_ :: _,_ :: _,_,_=>rfl
 | a :: x,b :: y,c :: z,h1,h2=>by
  simp only[lexZ,Bool.or_eq_true,Bool.and_eq_true,decide_eq_true_eq]at h1 h2 ⊢
  rcases h1 with h1|⟨rfl,h1⟩
  ·rcases h2 with h2|⟨rfl,h2⟩
   ·exact .inl (by omega)
   ·exact .inl h1
  ·rcases h2 with h2|⟨rfl,h2⟩
   ·exact .inl h2
   ·exact .inr ⟨rfl,iY x y z h1 h2⟩
theorem jA:∀ u:List Int,lexZ u u=false
 | []=>rfl
 | a :: x=>by simp[lexZ,jA x]
theorem sJ (u:List Int):tN u u=false:=by simp[tN,jA]
theorem lessW_total {u v:List Int} (h:u≠v):tN u v=true\/tN v u=true:=by
 simp only[tN,Bool.or_eq_true,Bool.and_eq_true,decide_eq_true_eq]
 rcases Nat.lt_trichotomy u.length v.length with h1|h1|h1
 ·exact .inl (.inl h1)
 ·rcases iZ u v h1 h with h2|h2
  ·exact .inl (.inr ⟨h1,h2⟩)
  ·exact .inr (.inr ⟨h1.symm,h2⟩)
 ·exact .inr (.inl h1)
theorem lessW_trans {u v w:List Int} (h1:tN u v=true) (h2:tN v w=true):tN u w=true:=by
 simp only[tN,Bool.or_eq_true,Bool.and_eq_true,decide_eq_true_eq]at h1 h2 ⊢
 rcases h1 with h1|⟨e1,h1⟩
 ·rcases h2 with h2|⟨e2,h2⟩
  ·exact .inl (by omega)
  ·exact .inl (by omega)
 ·rcases h2 with h2|⟨e2,h2⟩
  ·exact .inl (by omega)
  ·exact .inr ⟨by omega,iY u v w h1 h2⟩
def yJ:List (List Int)->List (List Int)->Bool
 | [],_=>false
 | _ :: _,[]=>false
 | a :: p,b :: q=>tN a b || (decide (a=b) && yJ p q)
def xR (p q:List (List Int)):Bool:=decide (p.length < q.length) || (decide (p.length=q.length) && yJ p q)
theorem nX:∀ p q:List (List Int),p.length=q.length->p≠q->yJ p q=true\/yJ q p=true
 | [],[],_,h=>absurd rfl h
 | [],_ :: _,h,_=>by simp at h
 | _ :: _,[],h,_=>by simp at h
 | a :: p,b :: q,hl,hne=>by
  simp only[yJ,Bool.or_eq_true,Bool.and_eq_true,decide_eq_true_eq]
  by_cases e:a=b
  ·subst e
   rcases nX p q (by simpa using hl) (fun e=>hne (by rw[e])) with h|h
   ·exact .inl (.inr ⟨rfl,h⟩)
   ·exact .inr (.inr ⟨rfl,h⟩)
  ·rcases lessW_total e with h|h
   ·exact .inl (.inl h)
   ·exact .inr (.inl h)
theorem nW:∀ p q r:List (List Int),yJ p q=true->yJ q r=true->yJ p r=true
 | [],_,_,h,_=>by simp[yJ]at h
 | _ :: _,[],_,h,_=>by simp[yJ]at h
 | _ :: _,_ :: _,[],_,h=>by simp[yJ]at h
 | a :: p,b :: q,c :: r,h1,h2=>by
  simp only[yJ,Bool.or_eq_true,Bool.and_eq_true,decide_eq_true_eq]at h1 h2 ⊢
  rcases h1 with h1|⟨rfl,h1⟩
  ·rcases h2 with h2|⟨rfl,h2⟩
   ·exact .inl (lessW_trans h1 h2)
   ·exact .inl h1
  ·rcases h2 with h2|⟨rfl,h2⟩
   ·exact .inl h2
   ·exact .inr ⟨rfl,nW p q r h1 h2⟩
theorem oC:∀ p:List (List Int),yJ p p=false
 | []=>rfl
 | a :: p=>by simp[yJ,sJ,oC p]
theorem sK (p:List (List Int)):xR p p=false:=by simp[xR,oC]
theorem lessP_total {p q:List (List Int)} (h:p≠q):xR p q=true\/xR q p=true:=by
 simp only[xR,Bool.or_eq_true,Bool.and_eq_true,decide_eq_true_eq]
 rcases Nat.lt_trichotomy p.length q.length with h1|h1|h1
 ·exact .inl (.inl h1)
 ·rcases nX p q h1 h with h2|h2
  ·exact .inl (.inr ⟨h1,h2⟩)
  ·exact .inr (.inr ⟨h1.symm,h2⟩)
 ·exact .inr (.inl h1)
theorem jB {p q r:List (List Int)} (h1:xR p q=true) (h2:xR q r=true):xR p r=true:=by
 simp only[xR,Bool.or_eq_true,Bool.and_eq_true,decide_eq_true_eq]at h1 h2 ⊢
 rcases h1 with h1|⟨e1,h1⟩
 ·rcases h2 with h2|⟨e2,h2⟩
  ·exact .inl (by omega)
  ·exact .inl (by omega)
 ·rcases h2 with h2|⟨e2,h2⟩
  ·exact .inl (by omega)
  ·exact .inr ⟨by omega,nW p q r h1 h2⟩
theorem lessP_asymm {p q:List (List Int)} (h:xR p q=true):xR q p=false:=by
 cases e:xR q p with
 | false=>rfl
 | true=>have:=jB h e;rw[sK]at this;cases this
theorem dR:∀ {l m:List (List (List Int))},l.Pairwise (fun a b=>xR a b=true)->m.Pairwise (fun a b=>xR a b=true)->(∀ a,a∈l ↔ a∈m)->l=m
 | [],[],_,_,_=>rfl
 | [],b :: m,_,_,h=>by have:=(h b).2 (by simp);simp at this
 | a :: l,[],_,_,h=>by have:=(h a).1 (by simp);simp at this
 | a :: l,b :: m,hl,hm,h=>by
  have hl':=List.pairwise_cons.1 hl
  have hm':=List.pairwise_cons.1 hm
  have e:a=b:=by
   rcases List.mem_cons.1 ((h a).1 (by simp)) with h1|h1
   ·exact h1
   ·rcases List.mem_cons.1 ((h b).2 (by simp)) with h2|h2
    ·exact h2.symm
    ·have h3:=hl'.1 b h2
     have h4:=lessP_asymm (hm'.1 a h1)
     rw[h3]at h4;cases h4
  subst e
  congr 1
  refine dR hl'.2 hm'.2 fun c=>?_
  constructor
  ·intro hc
   have h1:=hl'.1 c hc
   rcases List.mem_cons.1 ((h c).1 (List.mem_cons_of_mem _ hc)) with e|e
   ·rw[e,sK]at h1;cases h1
   ·exact e
  ·intro hc
   have h1:=hm'.1 c hc
   rcases List.mem_cons.1 ((h c).2 (List.mem_cons_of_mem _ hc)) with e|e
   ·rw[e,sK]at h1;cases h1
   ·exact e
def okW (u:List Int):Prop:=∀ x∈u,qQ 6 x
theorem qDB {a b:Int} (ha:qQ 6 a) (hb:qQ 6 b):(UInt8.ofNat a.toNat < UInt8.ofNat b.toNat ↔ a < b)/\(UInt8.ofNat a.toNat=UInt8.ofNat b.toNat ↔ a=b):=by
 obtain⟨a1,a2⟩:=ha
 obtain⟨b1,b2⟩:=hb
 have e1:(UInt8.ofNat a.toNat).toNat=a.toNat:=by rw[UInt8.toNat_ofNat'];omega
 have e2:(UInt8.ofNat b.toNat).toNat=b.toNat:=by rw[UInt8.toNat_ofNat'];omega
 refine⟨by rw[UInt8.lt_iff_toNat_lt,e1,e2];omega,⟨fun h=>?_,fun h=>by rw[h]⟩⟩
 have:=congrArg UInt8.toNat h
 rw[e1,e2]at this;omega
theorem cU:∀ u v:List Int,okW u->okW v->Op.bytesLess ((u.map fun n=>UInt8.ofNat n.toNat)) ((v.map fun n=>UInt8.ofNat n.toNat))=lexZ u v
 | [],[],_,_=>rfl
 | [],_ :: _,_,_=>rfl
 | _ :: _,[],_,_=>rfl
 | a :: x,b :: y,hu,hv=>by
  have ih:=cU x y (fun c hc=>hu c (by simp[hc])) (fun c hc=>hv c (by simp[hc]))
  obtain⟨h1,h2⟩:=qDB (hu a (by simp)) (hv b (by simp))
  simp only[List.map_cons,Op.bytesLess,lexZ]
  rw[ih,decide_eq_decide.2 h1]
  congr 1
  congr 1
  rw[Bool.eq_iff_iff,beq_iff_eq,decide_eq_true_eq];exact h2
theorem qAC:∀ u v:List Int,okW u->okW v->((u.map fun n=>UInt8.ofNat n.toNat)=(v.map fun n=>UInt8.ofNat n.toNat) ↔ u=v)
 | [],[],_,_=>by simp
 | [],_ :: _,_,_=>by simp
 | _ :: _,[],_,_=>by simp
 | a :: x,b :: y,hu,hv=>by
  have ih:=qAC x y (fun c hc=>hu c (by simp[hc])) (fun c hc=>hv c (by simp[hc]))
  obtain⟨_,h2⟩:=qDB (hu a (by simp)) (hv b (by simp))
  simp only[List.map_cons,List.cons.injEq]
  rw[h2,ih]
def cmpI (u v:List Int):Int:=if tN u v then -1 else if u=v then 0 else 1
set_option maxHeartbeats 800000 in
theorem compare_any (u v:List Int) (w:World) (hu:u.length<=1000) (hv:v.length<=1000) (ou:okW u) (ov:okW v) :
  Calls Try.prog 98 #[.string (strOfNums u),.string (strOfNums v)] w fun e w'=>e=.returned (.int .i64 (cmpI u v))/\w=w':=by
 have h1:=strOfNums_size u
 have h2:=strOfNums_size v
 have hb:Op.bytesLess (strOfNums u).toList (strOfNums v).toList=lexZ u v:=by rw[ByteArray.toList_eq,ByteArray.toList_eq,strOfNums_data,strOfNums_data];exact cU u v ou ov
 have he:((strOfNums u).toList == (strOfNums v).toList)=decide (u=v):=by
  rw[ByteArray.toList_eq,ByteArray.toList_eq,strOfNums_data,strOfNums_data,Bool.eq_iff_iff,beq_iff_eq,decide_eq_true_eq];exact qAC u v ou ov
 obtain⟨lb,h3⟩:∃ lb,lb=lexZ u v:=⟨_,rfl⟩
 obtain⟨eb,h0⟩:∃ eb,eb=decide (u=v):=⟨_,rfl⟩
 have HC:Hid (cmpI u v=if decide (u.length < v.length) || (decide (u.length=v.length) && lb) then -1 else if eb then 0 else 1):=Kh (by
  rw[cmpI,tN,h3,h0];simp)
 rw[<- h3]at hb
 rw[<- h0]at he
 have h5:Hid (eb=true->u.length=v.length):=Kh (fun h=>by rw[h0,decide_eq_true_eq]at h;rw[h])
 clear h3 h0
 by_cases hlt:u.length < v.length
 ·go_enter Try.func98,Try.ntmps98
  go_wp2
  go_ret
  exact⟨yF (by rw[HC.out];simp[hlt]),rfl⟩
 ·by_cases heq:u.length=v.length
  ·cases lb <;> cases eb
   all_goals
    go_enter Try.func98,Try.ntmps98
    go_wp2
    go_ret
    exact⟨yF (by rw[HC.out];simp[heq]),rfl⟩
  ·have h4:eb=false:=by
    cases eb with
    | false=>rfl
    | true=>exact absurd (h5.out rfl) heq
   subst h4
   go_enter Try.func98,Try.ntmps98
   go_wp2
   go_ret
   exact⟨yF (by rw[HC.out];simp[hlt,heq]),rfl⟩
end Go.Proofs.Ytjfdomfendbhfaa
