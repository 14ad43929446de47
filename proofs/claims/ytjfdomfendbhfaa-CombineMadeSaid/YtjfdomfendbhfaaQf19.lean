/- Part 19 of the proof. -/
import Derived.Test.YtjfdomfendbhfaaQf18
import Derived.Deep.DeepCutAuto
import Derived.Lib.OthersKept
set_option linter.unusedVariables false
set_option linter.unusedSimpArgs false
set_option maxRecDepth 100000
set_option maxHeartbeats 16000000
namespace Go.Proofs.Ytjfdomfendbhfaa
open Go.RowKit
theorem stepU_app1 {P:Program}{ops:Array Oper}{o:Oper}{a:Act}{w:World}{K:Act->World->Prop}{Q:Exit->Act->World->Prop}{R:Prop}(hgd:o.guard=none)(s x:Operand)(t:TypeId)(ho:o.op=.call { callee:=.builtin .append,args:=#[s,x],argTypes:=#[t,t] }){e:TypeId}{z:Value}{bytes:Nat}(E:ElemOk P t e z bytes)(base:Nat)(v:Value)(n:Nat)(xs:List Value)(hs:a.eval s=v)(hown:w.ownsRow base e 1 v n xs)(u:Value)(blk:Nat)(m:Nat×Nat)(hx:a.eval x=.slice (some ⟨blk,0,none⟩) 1 1)(hblk:w.heap[blk]?=some (.cells #[u] e m))(h1:u.oneCell'=true)(h63:n+1<=maxLen)(hbytes:(n+1) * bytes<=140737488355328)(hbase:base<=w.heap.size)(h:∀ sa sc w',w'.ownsRow base e 1 (.slice sa (n+1) sc) (n+1) (xs++[u])->w.grownBy w' v.ownBlock->K (a.put o.dst (.slice sa (n+1) sc)) w'):
  if Region.wanted o (yielded ops a.tmps)=true then Oper.wp P o a w K Q else R:=by
 have hw:Region.wanted o (yielded ops a.tmps)=true:=by simp[Region.wanted,hgd]
 rw[if_pos hw];obtain⟨i,hi,hz,h0,h3⟩:=info_parts E.hi;refine wp_append_own w s x t ho base e i z 1 bytes E.ht hi hz h0 h3 E.hz (by decide) v n xs hs hown ⟨blk,0,none⟩ 1 1 [u] hx rfl ?_ ?_ h63 hbytes hbase ?_
 ·intro j u' hj
  match j,hj with
  | 0,hj=>simp at hj;subst hj;simpa [Addr.add] using zJ hblk 0 (by simp)
 ·intro u' hu;simp at hu;subst hu;exact h1
 ·intro v' w' h1 h2 _
  obtain⟨sa,sc,rfl⟩:=rU h1;exact h sa sc w' h1 h2
theorem qBC {w:World}{kb:Nat}{l:List (List Int)}(h:Arr w kb 9 (strs l))(i:Nat)(hi:i<l.length):w.cell? ⟨kb,i,none⟩=some (.string (strOfNums l[i])):=by
 rw[h.cell i (by rw[vT];exact hi)];simp[strs]
theorem strs_catU (u:List Int)(c:Int):strOfNums u++strOfNums [c]=strOfNums (u++[c]):=by
 have h:(strOfNums u++strOfNums [c]).data.toList=(strOfNums (u++[c])).data.toList:=by
  rw[ByteArray.data_append,Array.toList_append,strOfNums_data,strOfNums_data,strOfNums_data,List.map_append]
 have h2:=Array.toList_inj.1 h;cases h3:strOfNums u++strOfNums [c];cases h4:strOfNums (u++[c])
 simp_all
theorem qDY (letters n:Nat) (w:World) (h1:1<=letters) (h6:letters<=6) (hn8:n<=8) (hlim:(upTo letters (n+1)).length<=1000) :
  Calls Try.prog 76 #[.int .i64 letters,.int .i64 n] w (qHY w (upTo letters (n+1))):=by
 obtain⟨P,hP⟩:∃ P,P=w.heap.size:=⟨_,rfl⟩
 have a8:=Kh hP
 have HF:Hid (∀ i,(grown letters n i).length<=1000):=Kh (fun i=>Nat.le_trans (qCR letters n i).length_le hlim)
 have d9:=Kh hlim
 have ho:(w.alloc (.cells #[.string ⟨#[]⟩] 9)).ownsRow P 9 1 (.slice (some ⟨P,0,none⟩) 1 1) 1 (strs (grown letters n 0)):=by
  rw[hP]
  exact World.ownsRow_lit (e:=9) (size:=1) w #[.string ⟨#[]⟩] 1 (Nat.le_refl _) (by unfold maxLen;omega) (by simp)
 have b5:w.grownBy (w.alloc (.cells #[.string ⟨#[]⟩] 9)) none:=Ga _ _ _
 have HO:=Kh ho;have HG:=Kh b5
 clear ho b5 hlim
 go_enter Try.func76,Try.ntmps76
 go_upto_region 2 with fail
 rw[<- a8.out]
 obtain⟨w1,b1⟩:∃ w1,w1=w.alloc (.cells #[.string ⟨#[]⟩] 9):=⟨_,rfl⟩
 rw[<- b1]at HO HG ⊢
 clear b1 hP
 go_wp2
 obtain⟨U,hU⟩:∃ U,U=upTo letters n:=⟨_,rfl⟩
 obtain⟨V,hV⟩:∃ V,V=upTo letters (n+1):=⟨_,rfl⟩
 have b6:Hid (U <+: V):=Kh (by rw[hU,hV];exact upTo_pre letters n)
 have e8:V.length<=1000:=by rw[hV];exact d9.out
 have h3:=Kh hU;have H2:=Kh hV
 rw[<- hV]
 clear hU hV
 have f0:=b6.out.length_le
 -- the outer loop
 go_loopg [5,6,7] V.length (fun gh lv iv av wr=>∃ (i L:Nat) (sa:Option Addr) (sc:Nat),gh+i=V.length/\iv=.int .i64 (i:Int)/\lv=.slice sa L sc/\Hid (L=(grown letters n i).length)/\Hid (wr.ownsRow P 9 1 (.slice sa L sc) L (strs (grown letters n i)))/\w.grownBy wr none)
 case atStart=>exact⟨0,1,some ⟨P,0,none⟩,1,rfl,rfl,rfl,Kh (by simp[grown]),HO,HG.out⟩
 case round =>
  obtain⟨i,L,sa,sc,hg,rfl,rfl,hL,h0,H5⟩:=hrel
  have a1:=Kh hg;have a0:=Kh H5
  have a7:L<=1000:=by rw[hL.out];exact HF.out i
  clear hg H5 HO HG
  rcases Nat.lt_or_ge i U.length with hiU|hiU
  ·-- a word of fewer than n letters
   have b3:i<L:=by
    have:=hH (n:=n) h1 i (by rw[<- h3.out];omega)
    rw[<- hL.out]at this;omega
   have H4:(i:Int)<L:=by omega
   have hm:=List.getElem_mem hiU
   have c5:(U[i]).length<n:=lS (by rw[<- h3.out];exact hm)
   obtain⟨u,hu⟩:∃ u,u=U[i]:=⟨_,rfl⟩
   have HU:=Kh hu
   rw[<- hu]at c5
   obtain⟨X,hX⟩:∃ X,X=strOfNums u:=⟨_,rfl⟩
   have c4:X.size=u.length:=by rw[hX,strOfNums_size]
   have HX:=Kh hX
   have d4:Hid (∀ x,x<letters->grown letters n i++(block letters u 0).take (x+1)=(grown letters n i++(block letters u 0).take x)++[u++[97+(x:Int)]]):=Kh (fun x hx=>by
    have:=grown_step (letters:=letters) (n:=n) (i:=i) (x:=x) (by rw[<- h3.out];exact hiU) hx
    have e:(upTo letters n)[i]'(by rw[<- h3.out];exact hiU)=u:=by rw[hu];congr 1;exact h3.out.symm
    rw[e]at this;exact this)
   have b7:Hid (∀ x,grown letters n i++(block letters u 0).take x <+: V):=Kh (fun x=>by
    have:=grown_part letters n i x (by rw[<- h3.out];exact hiU)
    have e:(upTo letters n)[i]'(by rw[<- h3.out];exact hiU)=u:=by rw[hu];congr 1;exact h3.out.symm
    rw[e,<- H2.out]at this;exact this)
   have d3:Hid (∀ h:i<V.length,V[i]=u):=Kh (fun h=>by rw[hu];exact(qGM b6.out hiU).symm)
   have b9:Hid (grown letters n (i+1)=grown letters n i++block letters u 0):=Kh (by
    rw[iD (by rw[<- h3.out];exact hiU)]
    have e:(upTo letters n)[i]'(by rw[<- h3.out];exact hiU)=u:=by rw[hu];congr 1;exact h3.out.symm
    rw[e])
   clear hu hX hm
   obtain⟨wo,a9⟩:∃ wo,wo=wr:=⟨_,rfl⟩
   rw[<- a9]at h0 a0 ⊢
   clear a9 wr
   go_wp2
   go_loopg [5,7] letters (fun gh lv av wr=>∃ (a:Nat) (sb:Option Addr) (sd:Nat),gh+a=letters/\av=.int .i64 (a:Int)/\lv=.slice sb (L+a) sd/\Hid (wr.ownsRow P 9 1 (.slice sb (L+a) sd) (L+a) (strs (grown letters n i++(block letters u 0).take a)))/\w.grownBy wr none)
   case atStart=>exact⟨0,sa,sc,rfl,rfl,rfl,Kh (by simpa using h0.out),a0.out⟩
   case round =>
    obtain⟨a,sb,sd,hg,rfl,rfl,h0,H5⟩:=hrel
    obtain⟨kb,rfl,c8,H8,h4⟩:=wQ h0.out (by omega)
    have h5:(grown letters n i++(block letters u 0).take a).length=L+a:=by rw[List.length_append,List.length_take,tM,<- hL.out];omega
    have h2:=qBC h4 i (by rw[h5];omega)
    have f1:L+a<=V.length:=by rw[<- h5];exact(b7.out a).length_le
    rw[qGM (b7.out a) (by rw[h5];omega),d3.out (by omega),<- HX.out]at h2
    have e2:(i:Int)<(L:Int)+(a:Int):=by omega
    have c7:i<L+a:=by omega
    have c2:=Kh hg;have H3:=Kh H5
    have h7:=h0
    have a6:sd<=9223372036854775807:=by unfold maxLen at H8;omega
    clear hg H5 h4 H8 h5 h0
    by_cases ha:a<letters
    ·have e7:(a:Int)<letters:=by omega
     have e1:(X.size:Int)<n:=by omega
     have f3:(L:Int)+(a:Int)<2000:=by omega
     have f2:IntKind.i64.wrap (97+(a:Int))=97+(a:Int):=IntWalk.i64_in _ (by omega)
     have e6:IntKind.u8.wrap (97+(a:Int))=97+(a:Int):=IntWalk.u8_in _ (by omega)
     obtain⟨Y,hY⟩:∃ Y,Y=strOfNums [97+(a:Int)]:=⟨_,rfl⟩
     have e4:∀ (W:World) (g:Nat),W.cell? ⟨g,0,none⟩=some (.int .u8 (97+(a:Int)))->(convert 106 9 (.slice (some ⟨g,0,none⟩) 1 1)).run Try.prog W=.ok (.string Y) W:=fun W g h=>by rw[hY];exact qBH 106 5 Try.underlying106 Try.underlying5 9 Try.underlying9 h
     have e5:∀ W:World,(Op.stringOp .add X Y).run Try.prog W=.ok (.string (X++Y)) W:=fun W=>run_string_add_sum W X Y (by
      rw[hY,strOfNums_size];simp;omega)
     have d1:Hid (X++Y=strOfNums (u++[97+(a:Int)])):=Kh (by rw[HX.out,hY,strs_catU])
     clear hY
     obtain⟨w5,a2⟩:∃ w5,w5=wr.drew:=⟨_,rfl⟩
     have H9:wr.grownBy w5 none:=by rw[a2];exact zP wr none
     have d2:=Kh a2
     have b8:=Kh (yM h7.out H9 (by simp));have c1:=Kh (zB H3.out H9 (by simp))
     have C:=Kh (xD h2 H9)
     clear a2 H9 h7 H3
     go_upto_region 8 with fail
     clear h2
     refine wp_region_noPanic ?_
     refine xZ (G:=tG 10 (fun _=>True) (fun W=>W.cell? ⟨kb,i,none⟩=some (.string X))) (by kernel_rfl) ?_
     rw[<- d2.out]
     refine yK 0 ⟨trivial,fun _=>C.out⟩ ?_
     refine yK 1 ⟨trivial,fun _=>C.out⟩ ?_
     refine yK 2 ⟨trivial,fun _=>C.out⟩ ?_
     refine yK 3 ⟨trivial,fun _=>C.out⟩ ?_
     refine vX 4 ⟨trivial,fun _=>C.out⟩ ?_
     refine yK 5 ⟨trivial,fun _=>C.out⟩ ?_
     refine yK 6 ⟨trivial,fun _=>C.out⟩ ?_
     refine yK 7 ⟨trivial,fun _=>C.out⟩ ?_
     refine oneG (i:=8) (by kernel_rfl) rfl (fun K hK=>?_)
     go_simp
     have H0:=heap_alloc_new w5 (.cells #[.int .u8 (97+(a:Int))] 5)
     have H7:=Ga w5 (.cells #[.int .u8 (97+(a:Int))] 5) none
     obtain⟨g6,H6⟩:∃ g6,g6=w5.heap.size:=⟨_,rfl⟩
     obtain⟨w6,b0⟩:∃ w6,w6=w5.alloc (.cells #[.int .u8 (97+(a:Int))] 5):=⟨_,rfl⟩
     rw[<- H6]at H0 ⊢
     rw[<- b0]at H0 H7 ⊢
     have c9:=zJ H0 0 (by simp)
     simp only[List.getElem_toArray,List.getElem_cons_zero]at c9
     have d6:=Kh (yM b8.out H7 (by simp));have c0:=Kh (zB c1.out H7 (by simp))
     have C6:=Kh (xD C.out H7)
     refine hK.out _ _ ⟨trivial,fun _=>C6.out⟩ ?_
     clear hK K H0 H7 H6 b0 b8 c1 C
     try simp only[Act.put,sPa,sPb,sPc]
     refine oneG (i:=9) (by kernel_rfl) rfl (fun K hK=>?_)
     go_simp
     refine hK.out _ _ ⟨trivial,fun _=>C6.out⟩ ?_
     clear hK K
     try simp only[Act.put,sPa,sPb,sPc]
     refine oneG (i:=10) (by kernel_rfl) rfl (fun K hK=>?_)
     go_simp
     refine hK.out _ _ ⟨trivial,fun h=>by simp at h⟩ ?_
     clear hK K
     try simp only[Act.put,sPa,sPb,sPc]
     refine oneG (i:=11) (by kernel_rfl) rfl (fun K hK=>?_)
     go_simp
     have H0:=heap_alloc_new w6 (.cells #[.string (X++Y)] 9)
     have a5:=Ga w6 (.cells #[.string (X++Y)] 9) none
     have a3:=yM d6.out a5 (by simp)
     refine hK.out _ _ ⟨trivial,fun h=>by simp at h⟩ ?_
     clear hK K
     try simp only[Act.put,sPa,sPb,sPc]
     have c6:P<=w6.heap.size:=by have:=c0.out.size;have:=a8.out;omega
     refine oneG (i:=12) (by kernel_rfl) rfl (fun K hK=>?_)
     refine stepU_app1 rfl (.tmp 34) (.tmp 45) 26 rfl lB P _ _ _ rfl a3 _ _ _ rfl H0 rfl ?g1 ?g2 ?g3 ?_
     case g1=>unfold maxLen;omega
     case g2=>omega
     case g3=>rw[zO];omega
     intro sa' sc' w8 h8 b4
     refine hK.out _ _ ⟨trivial,fun h=>by simp at h⟩ ?_
     clear hK K
     try simp only[Act.put,sPa,sPb,sPc]
     refine oneG (i:=13) (by kernel_rfl) rfl (fun K hK=>?_)
     go_simp
     refine hK.out _ _ ⟨trivial,fun h=>by simp at h⟩ ?_
     clear hK K
     try simp only[Act.put,sPa,sPb,sPc]
     refine nE (by kernel_rfl) ?_ _
     refine NoPanic.normal ?_
     have d5:=Kh h8
     have e0:=Kh (zB (zB c0.out a5 (by simp)) b4 (fun k e=>by have:=(a3.lt k e).1;have:=a8.out;omega))
     clear h8 b4 a5 a3 H0
     go_wp2
     go_roundg (letters - (a+1))
     case measure=>have:=c2.out;omega
     case rel =>
      refine⟨a+1,sa',sc',by omega,by go_num,by rw[Nat.add_assoc],Kh ?_,e0.out⟩
      rw[d4.out a ha,lU,<- Nat.add_assoc]
      have e9:strs [u++[97+(a:Int)]]=[.string (X++Y)]:=by rw[d1.out];rfl
      rw[e9];exact d5.out
    ·have d0:a=letters:=by have:=c2.out;omega
     subst d0
     have b2:(block a u 0).take a=block a u 0:=List.take_of_length_le (by rw[tM];exact Nat.le_refl _)
     rw[b2,<- b9.out]at h7
     have d8:Hid (L+a=(grown a n (i+1)).length):=Kh (by rw[b9.out,List.length_append,tM,<- hL.out])
     clear b2 h2
     go_wp2
     go_roundg (V.length - (i+1))
     case measure=>have:=a1.out;omega
     case rel=>exact⟨i+1,L+a,some ⟨kb,0,none⟩,sd,by have:=a1.out;omega,by go_num,rfl,d8,h7,H3.out⟩
  ·-- the list is whole
   have H1:grown letters n i=V:=by rw[qCS (by rw[<- h3.out];exact hiU),H2.out]
   rw[H1]at hL h0
   have d7:=hL
   by_cases b3:i<L
   ·have H4:(i:Int)<L:=by omega
    obtain⟨kb,rfl,c8,H8,h4⟩:=wQ h0.out (by omega)
    have a4:i<V.length:=by rw[<- hL.out];exact b3
    have h2:=qBC h4 i a4
    have h9:(V[i]).length=n:=by
     have:=upTo_last (letters:=letters) (n:=n) (i:=i) (by rw[<- h3.out];exact hiU) (by rw[<- H2.out];exact a4)
     have e:V[i]=(upTo letters (n+1))[i]'(by rw[<- H2.out];exact a4):=by congr 1
     rw[e];exact this
    obtain⟨X,hX⟩:∃ X,X=strOfNums V[i]:=⟨_,rfl⟩
    have c4:¬ (X.size:Int)<n:=by rw[hX,strOfNums_size,h9];omega
    rw[<- hX]at h2
    have a6:sc<=9223372036854775807:=by unfold maxLen at H8;omega
    have e3:(0:Int)<letters:=by omega
    have c3:Hid (grown letters n (i+1)=V):=Kh (by rw[qCS (by rw[<- h3.out];omega),H2.out])
    clear h4 H8 hX h9 H1
    obtain⟨wo,rfl⟩:∃ wo:World,wo=wr:=⟨_,rfl⟩
    go_wp2
    go_loopg [5,7] 0 (fun gh lv av wq=>lv=.slice (some ⟨kb,0,none⟩) L sc/\av=.int .i64 0/\wq=wo)
    case atStart=>exact⟨rfl,rfl,rfl⟩
    case round =>
     obtain⟨rfl,rfl,rfl⟩:=hrel
     go_wp2
     go_roundg (V.length - (i+1))
     case measure=>have:=a1.out;omega
     case rel=>exact⟨i+1,L,some ⟨kb,0,none⟩,sc,by have:=a1.out;have:=hL.out;omega,by go_num,rfl,by rw[c3.out];exact d7,by rw[c3.out];exact h0,a0.out⟩
   ·have H4:¬ (i:Int)<L:=by omega
    clear H1
    go_wp2
    go_ret
    exact⟨sa,sc,by rw[<- H2.out,<- hL.out];rfl,by rw[<- H2.out,<- hL.out];exact RowT.of_owns h0.out,a0.out⟩
def allC (ws:List (List Int)):Nat->List (List (List Int))
 | 0=>[]
 | i+1=>allC ws i++exts (chB ws i) ws
theorem qAR (ws:List (List Int)):∀ i,chL ws i=ws.map oneB++allC ws i
 | 0=>by simp[chL,allC]
 | i+1=>by rw[chL,qAR ws i,allC,List.append_assoc]
theorem qIS (l:List Int):(strOfNums l).toList.isEmpty=l.isEmpty:=by
 rw[ByteArray.toList_eq,strOfNums_data,Bool.eq_iff_iff,List.isEmpty_iff,List.isEmpty_iff,List.map_eq_nil_iff]
def lexZ:List Int->List Int->Bool
 | _,[]=>false
 | [],_::_=>true
 | a::x,b::y=>decide (a<b) || (decide (a=b) && lexZ x y)
def rS (u v:List Int):Bool:=decide (u.length<v.length) || (decide (u.length=v.length) && lexZ u v)
theorem bU:∀ u v:List Int,u.length=v.length->u≠v->lexZ u v=true\/lexZ v u=true
 | [],[],_,h=>absurd rfl h
 | [],_::_,h,_=>by simp at h
 | _::_,[],h,_=>by simp at h
 | a::x,b::y,hl,hne=>by
  simp only[lexZ,Bool.or_eq_true,Bool.and_eq_true,decide_eq_true_eq]
  rcases Int.lt_trichotomy a b with h|h|h
  ·exact .inl (.inl h)
  ·subst h
   rcases bU x y (by simpa using hl) (fun e=>hne (by rw[e])) with h|h
   ·exact .inl (.inr ⟨rfl,h⟩)
   ·exact .inr (.inr ⟨rfl,h⟩)
  ·exact .inr (.inl h)
theorem bT:∀ u v w:List Int,lexZ u v=true->lexZ v w=true->lexZ u w=true
 | _,[],_,h,_=>by cases ‹List Int› <;> simp[lexZ]at h
 | _,_::_,[],_,h=>by simp[lexZ]at h
 | [],_::_,_::_,_,_=>rfl
 | a::x,b::y,c::z,h1,h2=>by
  simp only[lexZ,Bool.or_eq_true,Bool.and_eq_true,decide_eq_true_eq]at h1 h2 ⊢
  rcases h1 with h1|⟨rfl,h1⟩
  ·rcases h2 with h2|⟨rfl,h2⟩
   ·exact .inl (by omega)
   ·exact .inl h1
  ·rcases h2 with h2|⟨rfl,h2⟩
   ·exact .inl h2
   ·exact .inr ⟨rfl,bT x y z h1 h2⟩
theorem eQ:∀ u:List Int,lexZ u u=false
 | []=>rfl
 | a::x=>by simp[lexZ,eQ x]
theorem qY (u:List Int):rS u u=false:=by simp[rS,eQ]
theorem lessW_total {u v:List Int}(h:u≠v):rS u v=true\/rS v u=true:=by
 simp only[rS,Bool.or_eq_true,Bool.and_eq_true,decide_eq_true_eq];rcases Nat.lt_trichotomy u.length v.length with h1|h1|h1
 ·exact .inl (.inl h1)
 ·rcases bU u v h1 h with h2|h2
  ·exact .inl (.inr ⟨h1,h2⟩)
  ·exact .inr (.inr ⟨h1.symm,h2⟩)
 ·exact .inr (.inl h1)
theorem lessW_trans {u v w:List Int}(h1:rS u v=true)(h2:rS v w=true):rS u w=true:=by
 simp only[rS,Bool.or_eq_true,Bool.and_eq_true,decide_eq_true_eq]at h1 h2 ⊢;rcases h1 with h1|⟨e1,h1⟩
 ·rcases h2 with h2|⟨e2,h2⟩
  ·exact .inl (by omega)
  ·exact .inl (by omega)
 ·rcases h2 with h2|⟨e2,h2⟩
  ·exact .inl (by omega)
  ·exact .inr ⟨by omega,bT u v w h1 h2⟩
def yZ:List (List Int)->List (List Int)->Bool
 | [],_=>false
 | _::_,[]=>false
 | a::p,b::q=>rS a b || (decide (a=b) && yZ p q)
def wX (p q:List (List Int)):Bool:=decide (p.length<q.length) || (decide (p.length=q.length) && yZ p q)
theorem jR:∀ p q:List (List Int),p.length=q.length->p≠q->yZ p q=true\/yZ q p=true
 | [],[],_,h=>absurd rfl h
 | [],_::_,h,_=>by simp at h
 | _::_,[],h,_=>by simp at h
 | a::p,b::q,hl,hne=>by
  simp only[yZ,Bool.or_eq_true,Bool.and_eq_true,decide_eq_true_eq]
  by_cases e:a=b
  ·subst e
   rcases jR p q (by simpa using hl) (fun e=>hne (by rw[e])) with h|h
   ·exact .inl (.inr ⟨rfl,h⟩)
   ·exact .inr (.inr ⟨rfl,h⟩)
  ·rcases lessW_total e with h|h
   ·exact .inl (.inl h)
   ·exact .inr (.inl h)
theorem jQ:∀ p q r:List (List Int),yZ p q=true->yZ q r=true->yZ p r=true
 | [],_,_,h,_=>by simp[yZ]at h
 | _::_,[],_,h,_=>by simp[yZ]at h
 | _::_,_::_,[],_,h=>by simp[yZ]at h
 | a::p,b::q,c::r,h1,h2=>by
  simp only[yZ,Bool.or_eq_true,Bool.and_eq_true,decide_eq_true_eq]at h1 h2 ⊢
  rcases h1 with h1|⟨rfl,h1⟩
  ·rcases h2 with h2|⟨rfl,h2⟩
   ·exact .inl (lessW_trans h1 h2)
   ·exact .inl h1
  ·rcases h2 with h2|⟨rfl,h2⟩
   ·exact .inl h2
   ·exact .inr ⟨rfl,jQ p q r h1 h2⟩
theorem lN:∀ p:List (List Int),yZ p p=false
 | []=>rfl
 | a::p=>by simp[yZ,qY,lN p]
theorem qZ (p:List (List Int)):wX p p=false:=by simp[wX,lN]
theorem lessP_total {p q:List (List Int)}(h:p≠q):wX p q=true\/wX q p=true:=by
 simp only[wX,Bool.or_eq_true,Bool.and_eq_true,decide_eq_true_eq];rcases Nat.lt_trichotomy p.length q.length with h1|h1|h1
 ·exact .inl (.inl h1)
 ·rcases jR p q h1 h with h2|h2
  ·exact .inl (.inr ⟨h1,h2⟩)
  ·exact .inr (.inr ⟨h1.symm,h2⟩)
 ·exact .inr (.inl h1)
theorem eR {p q r:List (List Int)}(h1:wX p q=true)(h2:wX q r=true):wX p r=true:=by
 simp only[wX,Bool.or_eq_true,Bool.and_eq_true,decide_eq_true_eq]at h1 h2 ⊢;rcases h1 with h1|⟨e1,h1⟩
 ·rcases h2 with h2|⟨e2,h2⟩
  ·exact .inl (by omega)
  ·exact .inl (by omega)
 ·rcases h2 with h2|⟨e2,h2⟩
  ·exact .inl (by omega)
  ·exact .inr ⟨by omega,jQ p q r h1 h2⟩
theorem lessP_asymm {p q:List (List Int)}(h:wX p q=true):wX q p=false:=by
 cases e:wX q p with
 | false=>rfl
 | true=>have:=eR h e;rw[qZ]at this;cases this
theorem qCH:∀ {l m:List (List (List Int))},l.Pairwise (fun a b=>wX a b=true)->m.Pairwise (fun a b=>wX a b=true)->(∀ a,a∈l ↔ a∈m)->l=m
 | [],[],_,_,_=>rfl
 | [],b::m,_,_,h=>by have:=(h b).2 (by simp);simp at this
 | a::l,[],_,_,h=>by have:=(h a).1 (by simp);simp at this
 | a::l,b::m,hl,hm,h=>by
  have hl':=List.pairwise_cons.1 hl
  have hm':=List.pairwise_cons.1 hm
  have e:a=b:=by
   rcases List.mem_cons.1 ((h a).1 (by simp)) with h1|h1
   ·exact h1
   ·rcases List.mem_cons.1 ((h b).2 (by simp)) with h2|h2
    ·exact h2.symm
    ·have h3:=hl'.1 b h2
     have h4:=lessP_asymm (hm'.1 a h1);rw[h3]at h4;cases h4
  subst e;congr 1;refine qCH hl'.2 hm'.2 fun c=>?_;constructor
  ·intro hc
   have h1:=hl'.1 c hc;rcases List.mem_cons.1 ((h c).1 (List.mem_cons_of_mem _ hc)) with e|e
   ·rw[e,qZ]at h1;cases h1
   ·exact e
  ·intro hc
   have h1:=hm'.1 c hc;rcases List.mem_cons.1 ((h c).2 (List.mem_cons_of_mem _ hc)) with e|e
   ·rw[e,qZ]at h1;cases h1
   ·exact e
def okW (u:List Int):Prop:=∀ x∈u,eD 6 x
theorem qJB {a b:Int}(ha:eD 6 a)(hb:eD 6 b):(UInt8.ofNat a.toNat<UInt8.ofNat b.toNat ↔ a<b)/\(UInt8.ofNat a.toNat=UInt8.ofNat b.toNat ↔ a=b):=by
 obtain⟨a1,a2⟩:=ha;obtain⟨b1,b2⟩:=hb;have e1:(UInt8.ofNat a.toNat).toNat=a.toNat:=by rw[UInt8.toNat_ofNat'];omega
 have e2:(UInt8.ofNat b.toNat).toNat=b.toNat:=by rw[UInt8.toNat_ofNat'];omega
 refine⟨by rw[UInt8.lt_iff_toNat_lt,e1,e2];omega,⟨fun h=>?_,fun h=>by rw[h]⟩⟩;have:=congrArg UInt8.toNat h;rw[e1,e2]at this;omega
theorem qDE:∀ u v:List Int,okW u->okW v->Op.bytesLess ((u.map fun n=>UInt8.ofNat n.toNat)) ((v.map fun n=>UInt8.ofNat n.toNat))=lexZ u v
 | [],[],_,_=>rfl
 | [],_::_,_,_=>rfl
 | _::_,[],_,_=>rfl
 | a::x,b::y,hu,hv=>by
  have ih:=qDE x y (fun c hc=>hu c (by simp[hc])) (fun c hc=>hv c (by simp[hc]))
  obtain⟨h1,h2⟩:=qJB (hu a (by simp)) (hv b (by simp))
  simp only[List.map_cons,Op.bytesLess,lexZ]
  rw[ih,decide_eq_decide.2 h1]
  congr 1
  congr 1
  rw[Bool.eq_iff_iff,beq_iff_eq,decide_eq_true_eq];exact h2
theorem qFT:∀ u v:List Int,okW u->okW v->((u.map fun n=>UInt8.ofNat n.toNat)=(v.map fun n=>UInt8.ofNat n.toNat) ↔ u=v)
 | [],[],_,_=>by simp
 | [],_::_,_,_=>by simp
 | _::_,[],_,_=>by simp
 | a::x,b::y,hu,hv=>by
  have ih:=qFT x y (fun c hc=>hu c (by simp[hc])) (fun c hc=>hv c (by simp[hc]))
  obtain⟨_,h2⟩:=qJB (hu a (by simp)) (hv b (by simp))
  simp only[List.map_cons,List.cons.injEq]
  rw[h2,ih]
def cmpI (u v:List Int):Int:=if rS u v then -1 else if u=v then 0 else 1
theorem compare_any (u v:List Int)(w:World)(hu:u.length<=1000)(hv:v.length<=1000)(ou:okW u)(ov:okW v):
  Calls Try.prog 98 #[.string (strOfNums u),.string (strOfNums v)] w fun e w'=>e=.returned (.int .i64 (cmpI u v))/\w=w':=by
 have h1:=strOfNums_size u;have h2:=strOfNums_size v;have hb:Op.bytesLess (strOfNums u).toList (strOfNums v).toList=lexZ u v:=by rw[ByteArray.toList_eq,ByteArray.toList_eq,strOfNums_data,strOfNums_data];exact qDE u v ou ov
 have he:((strOfNums u).toList == (strOfNums v).toList)=decide (u=v):=by
  rw[ByteArray.toList_eq,ByteArray.toList_eq,strOfNums_data,strOfNums_data,Bool.eq_iff_iff,beq_iff_eq,decide_eq_true_eq];exact qFT u v ou ov
 obtain⟨lb,h3⟩:∃ lb,lb=lexZ u v:=⟨_,rfl⟩;obtain⟨eb,h0⟩:∃ eb,eb=decide (u=v):=⟨_,rfl⟩
 have HC:Hid (cmpI u v=if decide (u.length<v.length) || (decide (u.length=v.length) && lb) then -1 else if eb then 0 else 1):=Kh (by
  rw[cmpI,rS,h3,h0];simp)
 rw[<- h3]at hb;rw[<- h0]at he;have h5:Hid (eb=true->u.length=v.length):=Kh (fun h=>by rw[h0,decide_eq_true_eq]at h;rw[h]);clear h3 h0;by_cases hlt:u.length<v.length
 ·go_enter Try.func98,Try.ntmps98
  go_wp2;go_ret;exact⟨yC (by rw[HC.out];simp[hlt]),rfl⟩
 ·by_cases heq:u.length=v.length
  ·cases lb<;>cases eb
   all_goals
    go_enter Try.func98,Try.ntmps98;go_wp2;go_ret;exact⟨yC (by rw[HC.out];simp[heq]),rfl⟩
  ·have h4:eb=false:=by
    cases eb with
    | false=>rfl
    | true=>exact absurd (h5.out rfl) heq
   subst h4;go_enter Try.func98,Try.ntmps98;go_wp2;go_ret;exact⟨yC (by rw[HC.out];simp[hlt,heq]),rfl⟩
theorem blk_drop {p q:List (List Int)}{k:Nat}(hp:k<p.length)(hq:k<q.length):yZ (p.drop k) (q.drop k)=(rS p[k] q[k] || (decide (p[k]=q[k]) && yZ (p.drop (k+1)) (q.drop (k+1)))):=by
 rw[List.drop_eq_getElem_cons hp,List.drop_eq_getElem_cons hq];rfl
theorem cmpI_cases (u v:List Int):(cmpI u v = -1/\rS u v=true)\/(cmpI u v=0/\u=v/\rS u v=false)\/(cmpI u v=1/\rS u v=false/\u≠v):=by
 unfold cmpI;cases h:rS u v with
 | true=>exact .inl ⟨by simp,rfl⟩
 | false =>
  by_cases e:u=v
  ·exact .inr (.inl ⟨by simp[e],e,rfl⟩)
  ·exact .inr (.inr ⟨by simp[e],rfl,e⟩)
theorem qBJ {b off:Nat}{w:World}{ls:List (List Int)}(hra:vW w b off (strs ls)){i:Nat}(hi:i<ls.length):w.cell? ⟨b,off+i,none⟩=some (.string (strOfNums ls[i])):=hra.map i hi
theorem qEX (B1 B2:Nat)(w:World)(v1 v2:Value)(p q:List (List Int))(h1:Row B1 w v1 (strs p))(h2:Row B2 w v2 (strs q))(hp:∀ u∈p,okW u/\u.length<=8)(hq:∀ u∈q,okW u/\u.length<=8)(hpl:p.length<=100)(hql:q.length<=100):
  Calls Try.prog 78 #[.agg #[v1],.agg #[v2]] w fun e w'=>e=.returned (.bool (wX p q))/\w.grownBy w' none:=by
 have H1:=Kh h1;have H2:=Kh h2;have HP:=Kh hp;have HQ:=Kh hq;obtain⟨a1,c1,rfl⟩:=h1.shape;obtain⟨a2,c2,rfl⟩:=h2.shape;rw[vT]at H1 H2 ⊢;rw[vT];clear h1 h2 hp hq;obtain⟨P,hP⟩:∃ P,P=w.heap.size:=⟨_,rfl⟩;obtain⟨wA,h8⟩:∃ wA,wA=(w.alloc (.cells #[.slice a1 p.length c1] 28)).alloc (.cells #[.slice a2 q.length c2] 28):=⟨_,rfl⟩;have b1:=zA (heap_alloc_new w (.cells #[.slice a1 p.length c1] 28)) (Ga _ (.cells #[.slice a2 q.length c2] 28) none) (by simp);have b2:=heap_alloc_new (w.alloc (.cells #[.slice a1 p.length c1] 28)) (.cells #[.slice a2 q.length c2] 28);rw[zO]at b2;rw[<- h8,<- hP]at b1 b2;have H3:w.grownBy wA none:=by rw[h8];exact xR (Ga w _ none) _
 have h3:=Kh H3;have H6:=Kh h8;have H7:=Kh hP;have a0:=Kh b1;have H9:=Kh b2;clear H3 h8 hP b1 b2;go_enter Try.func78,Try.ntmps78;go_upto_region 1 with fail;rw[<- H6.out,<- H7.out];have k1:=zJ a0.out 0 (by simp);have k2:=zJ H9.out 0 (by simp);simp only[List.getElem_toArray,List.getElem_cons_zero]at k1 k2;by_cases hl:p.length=q.length
 ·have H4:((p.length:Int) != (q.length:Int))=false:=by rw[hl];simp
  go_wp2
  go_loopg [24] p.length (fun gh i wr=>∃ (k m:Nat),gh+k=p.length/\i=.int .i64 (k:Int)/\Hid (wX p q=yZ (p.drop k) (q.drop k))/\wr=wA.drewN m)
  case atStart=>exact⟨0,0,rfl,rfl,Kh (by simp[wX,hl]),rfl⟩
  case round =>
   obtain⟨k,m,H0,rfl,h7,rfl⟩:=hrel;have H8:=Kh H0;clear H0;by_cases hk:k<p.length
   ·have a5:(k:Int)<p.length:=by omega
    have h9:k<q.length:=(by omega);have H5:(k:Int)<q.length:=(by omega);obtain⟨b1,o1,d1,e1,_,f1,g1,r1⟩:=(H1.out.kept h3.out (by simp)).some_ (by rw[vT];omega);obtain⟨b2,o2,d2,e2,_,f2,g2,r2⟩:=(H2.out.kept h3.out (by simp)).some_ (by rw[vT];omega);rw[vT]at e1 f1 e2 f2;simp only[Value.slice.injEq]at e1 e2;obtain⟨rfl,_,rfl⟩:=e1;obtain⟨rfl,_,rfl⟩:=e2;have x1:=qBJ r1 hk;have x2:=qBJ r2 h9;have a4:c1<=9223372036854775807:=by unfold maxLen at g1;omega
    have a3:c2<=9223372036854775807:=by unfold maxLen at g2;omega
    have hu:=HP.out _ (List.getElem_mem hk);have hv:=HQ.out _ (List.getElem_mem h9);have h0:=blk_drop hk h9;obtain⟨u,h6⟩:∃ u,u=p[k]:=⟨_,rfl⟩;obtain⟨v,h5⟩:∃ v,v=q[k]:=⟨_,rfl⟩;rw[<- h6]at x1 hu h0;rw[<- h5]at x2 hv h0;have h4:∀ W:World,Hid (Calls Try.prog 98 #[.string (strOfNums u),.string (strOfNums v)] W fun e w'=>e=.returned (.int .i64 (cmpI u v))/\W=w'):=fun W=>Kh (compare_any u v W (by omega) (by omega) hu.1 hv.1);rcases cmpI_cases u v with ⟨hc,hw⟩|⟨hc,he,hw⟩|⟨hc,hw,he⟩
    ·have HR:Hid (wX p q=true):=Kh (by rw[h7.out,h0,hw];rfl)
     rw[hc]at h4;clear r1 r2 g1 g2 hu hv h0 h6 h5 hw hc;go_wp2
     go_quiet ((go_at_call 98;exact sQ (h4 _).out))
     go_wp2;go_ret;exact⟨zY HR.out.symm,zB h3.out (zN wA _ none) (by simp)⟩
    ·have HR:Hid (wX p q=yZ (p.drop (k+1)) (q.drop (k+1))):=Kh (by rw[h7.out,h0,hw,decide_eq_true he];rfl)
     rw[hc]at h4;clear r1 r2 g1 g2 hu hv h0 h6 h5 hw hc he;go_wp2
     go_quiet ((go_at_call 98;exact sQ (h4 _).out))
     go_wp2;go_roundg (p.length - (k+1))
     case measure=>have:=H8.out;omega
     case rel=>exact⟨k+1,_,by omega,by go_num,HR,rfl⟩
    ·have HR:Hid (wX p q=false):=Kh (by rw[h7.out,h0,hw,decide_eq_false he];rfl)
     rw[hc]at h4;clear r1 r2 g1 g2 hu hv h0 h6 h5 hw hc he;go_wp2
     go_quiet ((go_at_call 98;exact sQ (h4 _).out))
     go_wp2;go_ret;exact⟨zY HR.out.symm,zB h3.out (zN wA _ none) (by simp)⟩
   ·have HR:Hid (wX p q=false):=Kh (by rw[h7.out,List.drop_of_length_le (by omega)];rfl)
    go_wp2;go_ret;exact⟨zY HR.out.symm,zB h3.out (zN wA _ none) (by simp)⟩
 ·have H4:((p.length:Int) != (q.length:Int))=true:=by rw[bne_iff_ne];omega
  have HR:Hid (wX p q=decide (p.length<q.length)):=Kh (by
   rw[wX,decide_eq_false hl,Bool.false_and,Bool.or_false])
  go_wp2;go_ret;exact⟨zY (by rw[HR.out]),h3.out⟩
end Go.Proofs.Ytjfdomfendbhfaa
namespace Go.Proofs.Ytjfdomfendbhfaa
theorem qCG:∀ (w x y:List Int),lexZ (w++x) (w++y)=lexZ x y
 | [],_,_=>rfl
 | a::w,x,y=>by simp[lexZ,qCG w x y]
theorem bV:∀ (w v x y:List Int),w.length=v.length->lexZ w v=true->lexZ (w++x) (v++y)=true
 | [],[],_,_,_,h=>by simp[lexZ]at h
 | [],_::_,_,_,h,_=>by simp at h
 | _::_,[],_,_,h,_=>by simp at h
 | a::w,b::v,x,y,hl,h=>by
  simp only[List.cons_append,lexZ,Bool.or_eq_true,Bool.and_eq_true,decide_eq_true_eq]at h ⊢
  rcases h with h|⟨rfl,h⟩
  ·exact .inl h
  ·exact .inr ⟨rfl,bV w v x y (by simpa using hl) h⟩
theorem block_sorted (letters:Nat)(w:List Int):(block letters w 0).Pairwise (fun a b=>lexZ a b=true):=by
 rw[block,List.pairwise_map];refine List.Pairwise.imp ?_ (List.pairwise_lt_range' (s:=0) (n:=letters - 0) (step:=1) );intro a b h;rw[qCG];simp[lexZ];omega
theorem eP {letters:Nat}{w x:List Int}(h:x∈block letters w 0):∃ c:Int,x=w++[c]:=by
 obtain⟨c,_,rfl⟩:=List.mem_map.1 h;exact⟨_,rfl⟩
theorem bS (letters:Nat):∀ n,(lex letters n).Pairwise (fun a b=>lexZ a b=true)
 | 0=>by simp[lex]
 | n+1=>by
  rw[qAD,List.pairwise_flatMap]
  refine⟨fun w _=>block_sorted letters w,?_⟩
  have ih:=bS letters n
  refine List.Pairwise.imp_of_mem ?_ ih
  intro a b ha hb hab x hx y hy
  obtain⟨c,rfl⟩:=eP hx
  obtain⟨d,rfl⟩:=eP hy
  exact bV a b [c] [d] (by rw[(qF ha).1,(qF hb).1]) hab
def gJ (l:List (List Int)):Prop:=l.Pairwise (fun a b=>rS a b=true)
def rH (l:List (List (List Int))):Prop:=l.Pairwise (fun a b=>wX a b=true)
theorem lQ (letters:Nat):∀ n,gJ (upTo letters n)
 | 0=>by simp[upTo,gJ]
 | n+1=>by
  rw[wF,gJ,List.pairwise_append]
  refine⟨lQ letters n,?_,fun a ha b hb=>?_⟩
  ·refine List.Pairwise.imp_of_mem ?_ (bS letters n)
   intro a b ha hb h
   simp only[rS,Bool.or_eq_true,Bool.and_eq_true,decide_eq_true_eq]
   exact .inr ⟨by rw[(qF ha).1,(qF hb).1],h⟩
  ·simp only[rS,Bool.or_eq_true,decide_eq_true_eq]
   exact .inl (by rw[(qF hb).1];exact lS ha)
theorem fB (letters n:Nat):∃ r,upTo letters (n+1)=[]::r/\∀ u∈r,u≠[]:=by
 have e:=kQ letters n;refine⟨_,e,fun u hu=>?_⟩;obtain⟨w,_,hx⟩:=List.mem_flatMap.1 hu;obtain⟨c,rfl⟩:=eP hx;simp
def mono (f:List Int->List (List Int)):Prop:=∀ u v,rS u v=true->wX (f u) (f v)=true
theorem gR:mono oneB:=fun u v h=>by simp[wX,oneB,yZ,h]
theorem mono_pre:mono preB:=fun u v h=>by simp[wX,preB,yZ,h]
theorem mono_suf:mono sufB:=fun u v h=>by simp[wX,sufB,yZ,h,qY]
theorem mono_fac:mono facB:=fun u v h=>by simp[wX,facB,yZ,h,qY]
theorem qFU (w x y:List (List Int)):yZ (w++x) (w++y)=yZ x y:=by
 induction w with
 | nil=>rfl
 | cons a w ih=>simp[yZ,qY,ih]
theorem dR:∀ (w v x y:List (List Int)),w.length=v.length->yZ w v=true->yZ (w++x) (v++y)=true
 | [],_,_,_,_,h=>by simp[yZ]at h
 | _::_,[],_,_,h,_=>by simp at h
 | a::w,b::v,x,y,hl,h=>by
  simp only[List.cons_append,yZ,Bool.or_eq_true,Bool.and_eq_true,decide_eq_true_eq]at h ⊢
  rcases h with h|⟨rfl,h⟩
  ·exact .inl h
  ·exact .inr ⟨rfl,dR w v x y (by simpa using hl) h⟩
theorem dQ:∀ u v:List Int,u.length=v.length->lexZ u v=true->yZ (u.map fun c=>[c]) (v.map fun c=>[c])=true
 | [],[],_,h=>by simp[lexZ]at h
 | [],_::_,h,_=>by simp at h
 | _::_,[],h,_=>by simp at h
 | a::x,b::y,hl,h=>by
  simp only[lexZ,Bool.or_eq_true,Bool.and_eq_true,decide_eq_true_eq]at h
  simp only[List.map_cons,yZ,Bool.or_eq_true,Bool.and_eq_true,decide_eq_true_eq]
  rcases h with h|⟨rfl,h⟩
  ·exact .inl (by simp[rS,lexZ,h])
  ·exact .inr ⟨rfl,dQ x y (by simpa using hl) h⟩
theorem mono_piece:mono rJ:=fun u v h=>by
 simp only[rS,Bool.or_eq_true,Bool.and_eq_true,decide_eq_true_eq]at h
 simp only[wX,Bool.or_eq_true,Bool.and_eq_true,decide_eq_true_eq,rJ,List.length_append,List.length_map,List.length_singleton]
 rcases h with h|⟨e,h⟩
 ·exact .inl (by omega)
 ·refine .inr ⟨by omega,?_⟩
  rw[List.append_assoc,List.append_assoc,qFU]
  exact dR _ _ _ _ (by simp[e]) (dQ u v e h)
theorem qS {f:List Int->List (List Int)}(hf:mono f){l:List (List Int)}(h:gJ l):rH (l.map f):=by
 rw[rH,List.pairwise_map];exact List.Pairwise.imp (fun h=>hf _ _ h) h
theorem qBF {l:List (List Int)}(h:gJ l)(n:Nat):gJ (l.drop n):=List.Pairwise.drop h
theorem rA {a b:List (List (List Int))}(ha:rH a)(hb:rH b)(h:∀ p∈a,∀ q∈b,wX p q=true):rH (a++b):=by
 rw[rH,List.pairwise_append];exact⟨ha,hb,h⟩
theorem nT {p q:List (List Int)}(h:p.length<q.length):wX p q=true:=by simp[wX,h]
theorem suf_pre {u v:List Int}(hv:v≠[]):wX (sufB u) (preB v)=true:=by
 have:0<v.length:=List.length_pos_iff.2 hv;simp[wX,sufB,preB,yZ,rS,this]
theorem eY {bs:List (List (List Int))}{ws:List (List Int)}{n:Nat}(hb:rH bs)(hw:gJ ws)(hl:∀ b∈bs,b.length=n):rH (exts bs ws):=by
 rw[rH,exts,List.pairwise_flatMap];refine⟨fun b _=>?_,?_⟩
 ·rw[List.pairwise_map]
  refine List.Pairwise.imp ?_ hw;intro u v h;simp only[wX,Bool.or_eq_true,Bool.and_eq_true,decide_eq_true_eq];exact .inr ⟨by simp,by rw[qFU];simp[yZ,h]⟩
 ·refine List.Pairwise.imp_of_mem ?_ hb
  intro a b ha h0 h x hx y hy;obtain⟨u,_,rfl⟩:=List.mem_map.1 hx;obtain⟨v,_,rfl⟩:=List.mem_map.1 hy;have e:a.length=b.length:=by rw[hl a ha,hl b h0]
  simp only[wX,Bool.or_eq_true,Bool.and_eq_true,decide_eq_true_eq]at h ⊢;rcases h with h|⟨_,h⟩
  ·omega
  ·exact .inr ⟨by simp[e],dR a b _ _ e h⟩
theorem aC {ws:List (List Int)}(hw:gJ ws):∀ i,rH (chB ws i)
 | 0=>qS gR hw
 | i+1=>eY (aC hw i) (qBF hw 1) (fun _ h=>dJ i h)
theorem gC {ws:List (List Int)}{i:Nat}{p:List (List Int)}(h:p∈exts (chB ws i) ws):p.length=i+2:=by
 obtain⟨c,hc,hb⟩:=List.mem_flatMap.1 h;obtain⟨u,_,rfl⟩:=List.mem_map.1 hb;rw[List.length_append,dJ i hc];rfl
theorem dI {ws:List (List Int)}:∀ {i:Nat} {p:List (List Int)},p∈chL ws i->p.length<=i+1
 | 0,p,h=>by
  obtain⟨u,_,rfl⟩:=List.mem_map.1 h;exact Nat.le_refl _
 | i+1,p,h=>by
  rcases List.mem_append.1 h with h|h
  ·have:=dI h;omega
  ·rw[gC h];omega
theorem aB {ws:List (List Int)}(hw:gJ ws):∀ i,rH (chL ws i)
 | 0=>qS gR hw
 | i+1=>rA (aB hw i) (eY (aC hw i) hw (fun _ h=>dJ i h)) (fun p hp q hq=>nT (by have:=dI hp;rw[gC hq];omega))
theorem drop_ne {letters n:Nat}{u:List Int}(h:u∈(upTo letters (n+1)).drop 1):u≠[]:=by
 obtain⟨r,e,hr⟩:=fB letters n;rw[e]at h;exact hr u (by simpa using h)
theorem eX (kind:Int)(letters k m:Nat):rH (famP kind letters k m):=by
 have hW:gJ (xH letters k):=lQ letters (k+1);have hS:gJ (upTo letters k):=lQ letters k;have hD:gJ ((xH letters k).drop 1):=qBF hW 1;have h0:∀ u∈(xH letters k).drop 1,u≠[]:=fun u h=>drop_ne h;have l1:∀ p∈(upTo letters k).map oneB,p.length=1:=fun p hp=>by obtain⟨u,_,rfl⟩:=List.mem_map.1 hp;rfl
 have l2:∀ p∈((xH letters k).drop 1).map preB,p.length=2:=fun p hp=>by obtain⟨u,_,rfl⟩:=List.mem_map.1 hp;rfl
 have l3:∀ p∈((xH letters k).drop 1).map sufB,p.length=2:=fun p hp=>by obtain⟨u,_,rfl⟩:=List.mem_map.1 hp;rfl
 have l4:∀ p∈((xH letters k).drop 1).map facB,p.length=3:=fun p hp=>by obtain⟨u,_,rfl⟩:=List.mem_map.1 hp;rfl
 have h1:∀ p∈((xH letters k).drop 1).map sufB,∀ q∈((xH letters k).drop 1).map preB,wX p q=true:=fun p hp q hq=>by
  obtain⟨u,_,rfl⟩:=List.mem_map.1 hp;obtain⟨v,hv,rfl⟩:=List.mem_map.1 hq;exact suf_pre (h0 v hv)
 have A:=qS gR hS;have S:=qS mono_suf hD;have P:=qS mono_pre hD;have F:=qS mono_fac hD;have AS:=rA A S (fun p hp q hq=>nT (by rw[l1 p hp,l3 q hq];decide))
 have ASP:=rA AS P (fun p hp q hq=>by
  rcases List.mem_append.1 hp with h|h
  ·exact nT (by rw[l1 p h,l2 q hq];decide)
  ·exact h1 p h q hq)
 unfold famP;simp only
 split
 ·exact qS gR hW
 split
 ·exact rA A P (fun p hp q hq=>nT (by rw[l1 p hp,l2 q hq];decide))
 split
 ·exact AS
 split
 ·exact ASP
 split
 ·refine rA ASP F (fun p hp q hq=>nT ?_)
  rw[l4 q hq];rcases List.mem_append.1 hp with h|h
  ·rcases List.mem_append.1 h with h|h
   ·rw[l1 p h];decide
   ·rw[l3 p h];decide
  ·rw[l2 p h];decide
 split
 ·exact qS mono_piece hD
 ·exact aB hW _
end Go.Proofs.Ytjfdomfendbhfaa
namespace Go.Proofs.Ytjfdomfendbhfaa
def genU (kind:Int)(k:Nat)(u:List Int):List (List (List Int)) :=
 (if kind=1\/kind=7\/(kind≠6/\u.length<k) then [oneB u] else [])++(if u=[] then [] else (if kind=2\/kind=4\/kind=5 then [preB u] else [])++((if kind=3\/kind=4\/kind=5 then [sufB u] else [])++((if kind=5 then [facB u] else [])++(if kind=6 then [rJ u] else []))))
def genL (kind:Int)(k:Nat)(W:List (List Int)):List (List (List Int)):=W.flatMap (genU kind k)
def refL (kind:Int)(letters k m:Nat):List (List (List Int)):=genL kind k (xH letters k)++(if kind=7 then (allC (xH letters k) (m+1)).take 301 else [])
theorem qCW (kind:Int)(k:Nat){W:List (List Int)}{j:Nat}(h:j<W.length):genL kind k (W.take (j+1))=genL kind k (W.take j)++genU kind k W[j]:=by
 rw[genL,List.take_succ_eq_append_getElem h,List.flatMap_append];simp[genL]
theorem rB {α β:Type}(f g:α->List β):∀ l:List α,(l.flatMap fun x=>f x++g x).Perm (l.flatMap f++l.flatMap g)
 | []=>by simp
 | a::l=>by
  simp only[List.flatMap_cons]
  have ih:=rB f g l
  have h1:(f a++g a++l.flatMap fun x=>f x++g x).Perm (f a++g a++(l.flatMap f++l.flatMap g)):=List.Perm.append_left _ ih
  refine h1.trans ?_
  rw[List.append_assoc,List.append_assoc]
  refine List.Perm.append_left _ ?_
  rw[<- List.append_assoc,<- List.append_assoc]
  exact List.Perm.append_right _ List.perm_append_comm
theorem qHA {α β:Type}(c:α->Prop)[DecidablePred c](h:α->β):∀ l:List α,(l.flatMap fun x=>if c x then [h x] else [])=(l.filter fun x=>decide (c x)).map h
 | []=>rfl
 | a::l=>by
  simp only[List.flatMap_cons,qHA c h l,List.filter_cons]
  by_cases hc:c a<;>simp[hc]
theorem filter_short (letters k:Nat):((xH letters k).filter fun u=>decide (u.length<k))=upTo letters k:=by
 rw[xH,wF,List.filter_append];have e1:(upTo letters k).filter (fun u=>decide (u.length<k))=upTo letters k:=List.filter_eq_self.2 fun u hu=>by simpa using lS hu
 have e2:(lex letters k).filter (fun u=>decide (u.length<k))=[]:=List.filter_eq_nil_iff.2 fun u hu=>by rw[(qF hu).1];simp
 rw[e1,e2,List.append_nil]
theorem uO {α β:Type}{f g:α->List β}:∀ {l:List α},(∀ x∈l,f x=g x)->l.flatMap f=l.flatMap g
 | [],_=>rfl
 | a::l,h=>by rw[List.flatMap_cons,List.flatMap_cons,h a (by simp),uO fun x hx=>h x (by simp[hx])]
theorem eU {letters k:Nat}(f:List Int->List (List (List Int))):((xH letters k).flatMap fun u=>if u=[] then [] else f u)=((xH letters k).drop 1).flatMap f:=by
 obtain⟨r,e,hr⟩:=fB letters k;rw[xH,e];simp only[List.flatMap_cons,if_pos,List.nil_append,List.drop_one,List.tail_cons];exact uO fun u hu=>by rw[if_neg (hr u hu)]
theorem sV {α β:Type}(h:α->β)(l:List α):(l.flatMap fun x=>[h x])=l.map h:=by induction l with
 | nil=>rfl
 | cons a l ih=>simp[ih]
theorem genU_1 (k:Nat)(u:List Int):genU 1 k u=[oneB u]:=by unfold genU;by_cases h:u=[]<;>simp[h]
theorem genU_7 (k:Nat)(u:List Int):genU 7 k u=[oneB u]:=by unfold genU;by_cases h:u=[]<;>simp[h]
theorem genU_2 (k:Nat)(u:List Int):genU 2 k u=(if u.length<k then [oneB u] else [])++(if u=[] then [] else [preB u]):=by unfold genU;by_cases h:u=[]<;>simp[h]
theorem genU_3 (k:Nat)(u:List Int):genU 3 k u=(if u.length<k then [oneB u] else [])++(if u=[] then [] else [sufB u]):=by unfold genU;by_cases h:u=[]<;>simp[h]
theorem genU_4 (k:Nat)(u:List Int):genU 4 k u=(if u.length<k then [oneB u] else [])++(if u=[] then [] else [preB u]++[sufB u]):=by unfold genU;by_cases h:u=[]<;>simp[h]
theorem qIQ (k:Nat)(u:List Int):genU 5 k u=(if u.length<k then [oneB u] else [])++(if u=[] then [] else [preB u]++([sufB u]++[facB u])):=by unfold genU;by_cases h:u=[]<;>simp[h]
theorem qIP (k:Nat)(u:List Int):genU 6 k u=(if u=[] then [] else [rJ u]):=by unfold genU;by_cases h:u=[]<;>simp[h]
theorem aR {kind:Int}{letters k:Nat}(h1:1<=kind)(h7:kind<=7)(m:Nat)(hm:(allC (xH letters k) (m+1)).length<=301\/kind≠7):(refL kind letters k m).Perm (famP kind letters k m):=by
 have h2:kind=1\/kind=2\/kind=3\/kind=4\/kind=5\/kind=6\/kind=7:=by omega
 have h0:((xH letters k).flatMap fun u=>if u.length<k then [oneB u] else [])=(upTo letters k).map oneB:=by rw[qHA (fun u:List Int=>u.length<k) oneB,filter_short]
 rcases h2 with rfl|rfl|rfl|rfl|rfl|rfl|rfl
 ·have e:refL 1 letters k m=famP 1 letters k m:=by
   rw[refL,if_neg (by decide),List.append_nil,genL,uO fun u _=>genU_1 k u,sV];rfl
  rw[e]
 ·rw[refL,if_neg (by decide),List.append_nil,genL,uO fun u _=>genU_2 k u]
  refine(rB _ _ _).trans ?_;rw[h0,eU,sV];exact List.Perm.refl _
 ·rw[refL,if_neg (by decide),List.append_nil,genL,uO fun u _=>genU_3 k u]
  refine(rB _ _ _).trans ?_;rw[h0,eU,sV];exact List.Perm.refl _
 ·rw[refL,if_neg (by decide),List.append_nil,genL,uO fun u _=>genU_4 k u]
  refine(rB _ _ _).trans ?_;rw[h0,eU];show List.Perm _ ((upTo letters k).map oneB++((xH letters k).drop 1).map sufB++((xH letters k).drop 1).map preB);rw[List.append_assoc];refine List.Perm.append_left _ ((rB _ _ _).trans ?_);rw[sV,sV];exact List.perm_append_comm
 ·rw[refL,if_neg (by decide),List.append_nil,genL,uO fun u _=>qIQ k u]
  refine(rB _ _ _).trans ?_;rw[h0,eU];show List.Perm _ ((upTo letters k).map oneB++((xH letters k).drop 1).map sufB++((xH letters k).drop 1).map preB++((xH letters k).drop 1).map facB);rw[List.append_assoc,List.append_assoc];refine List.Perm.append_left _ ((rB _ _ _).trans ?_);rw[sV];refine(List.Perm.append_left _ (rB _ _ _)).trans ?_;rw[sV,sV,<- List.append_assoc,<- List.append_assoc];exact List.Perm.append_right _ List.perm_append_comm
 ·have e:refL 6 letters k m=famP 6 letters k m:=by
   rw[refL,if_neg (by decide),List.append_nil,genL,uO fun u _=>qIP k u,eU,sV];rfl
  rw[e]
 ·have e:refL 7 letters k m=famP 7 letters k m:=by
   rw[refL,if_pos rfl,genL,uO fun u _=>genU_7 k u,sV,List.take_of_length_le (by rcases hm with h|h;exact h;exact absurd rfl h)];show _=chL (xH letters k) (m+1);rw[qAR]
  rw[e]
theorem sortP_nodup {l:List (List (List Int))}(h:rH l):l.Nodup:=List.Pairwise.imp (fun {a b} h e=>by rw[e,qZ]at h;cases h) h
theorem qGH {kind:Int}{letters k:Nat}(h1:1<=kind)(h7:kind<=7)(m:Nat):(300<(refL kind letters k m).length ↔ 300<(famP kind letters k m).length):=by
 by_cases hm:(allC (xH letters k) (m+1)).length<=301\/kind≠7
 ·rw[(aR h1 h7 m hm).length_eq]
 ·have h0:¬ (allC (xH letters k) (m+1)).length<=301:=fun h=>hm (.inl h)
  have hk:kind=7:=Decidable.not_not.1 fun h=>hm (.inr h);subst hk
  have e1:301<=(refL 7 letters k m).length:=by
   rw[refL,if_pos rfl,List.length_append,List.length_take];omega
  have e2:301<=(famP 7 letters k m).length:=by
   show 301<=(chL (xH letters k) (m+1)).length;rw[qAR,List.length_append];omega
  omega
end Go.Proofs.Ytjfdomfendbhfaa
namespace Go.Proofs.Ytjfdomfendbhfaa
open Go.RowKit
theorem gO {w:World}{base e g n c:Nat}{xs:List Value}(h:w.ownsRow base e 1 (.slice (some ⟨g,0,none⟩) n c) n xs)(i:Nat)(u:Value):(w.setCell ⟨g,i,none⟩ u).ownsRow base e 1 (.slice (some ⟨g,0,none⟩) n c) n (xs.set i u):=by
 obtain⟨h1,h2⟩:=h;refine⟨by simpa using h1,?_⟩;rcases h2 with ⟨e1,_⟩|⟨g',cap,cur,e1,hb,hg,hnc,hcm,hcs,htake⟩
 ·simp at e1
 ·simp only[Value.slice.injEq,Option.some.injEq,Addr.mk.injEq,and_true]at e1
  obtain⟨rfl,_,rfl⟩:=e1;refine .inr ⟨g,c,cur.setIfInBounds i u,rfl,hb,heap_setCell_same w g i _ _ u hg,hnc,hcm,by simpa using hcs,?_⟩;rw[<- htake,Array.toList_setIfInBounds,List.take_set]
theorem xY.swap {α:Type}{B:Nat}{e:TypeId}{f:α->List Value}{w:World}{svs:List Value}{ps:List α}(h:xY B e f w svs ps){i:Nat}{x y:Value}{p q:α}(hx:svs[i]?=some x)(hy:svs[i+1]?=some y)(hp:ps[i]?=some p)(hq:ps[i+1]?=some q):
  xY B e f w ((svs.set i y).set (i+1) x) ((ps.set i q).set (i+1) p):=by
 obtain⟨a1,rfl⟩:=List.getElem?_eq_some_iff.1 hx;obtain⟨a2,rfl⟩:=List.getElem?_eq_some_iff.1 hy;obtain⟨b1,rfl⟩:=List.getElem?_eq_some_iff.1 hp;obtain⟨b2,rfl⟩:=List.getElem?_eq_some_iff.1 hq;refine⟨by simpa using h.1,fun k h1 h2=>?_⟩;rw[List.getElem_set,List.getElem_set,List.getElem_set,List.getElem_set];by_cases e1:i+1=k
 ·rw[if_pos e1,if_pos e1];exact h.2 i a1 b1
 ·rw[if_neg e1,if_neg e1]
  by_cases e2:i=k
  ·rw[if_pos e2,if_pos e2];exact h.2 (i+1) a2 b2
  ·rw[if_neg e2,if_neg e2];exact h.2 k (by simpa using h1) (by simpa using h2)
theorem LUp.swap {e base g n c i:Nat}{w:World}{svs:List Value}{ps:List (List (List Int))}(h:LUp e base w (.slice (some ⟨g,0,none⟩) n c) n svs ps){x y:Value}{p q:List (List Int)}(hx:svs[i]?=some x)(hy:svs[i+1]?=some y)(hp:ps[i]?=some p)(hq:ps[i+1]?=some q){W:World}(hW:W=(w.setCell ⟨g,i+1,none⟩ x).setCell ⟨g,i,none⟩ y\/W=(w.setCell ⟨g,i,none⟩ y).setCell ⟨g,i+1,none⟩ x):
  LUp e base W (.slice (some ⟨g,0,none⟩) n c) n ((svs.set i y).set (i+1) x) ((ps.set i q).set (i+1) p)/\w.grownBy W (some g):=by
 have hg:w.grownBy W (some g):=by
  rcases hW with rfl|rfl
  ·exact zD (zC w ⟨g,i+1,none⟩ x) (zC _ ⟨g,i,none⟩ y)
  ·exact zD (zC w ⟨g,i,none⟩ y) (zC _ ⟨g,i+1,none⟩ x)
 refine⟨⟨?_,?_,h.ne⟩,hg⟩
 ·rcases hW with rfl|rfl
  ·have h2:=gO (gO h.own (i+1) x) i y
   rwa [List.set_comm _ _ (by omega)]at h2
  ·exact gO (gO h.own i y) (i+1) x
 ·have h0:=yU h.own h.ne
  exact(((h.rows.swap hx hy hp hq).kept hg (fun k e=>.inr (h0 k (by rw[<- e];rfl)))).mono hg.size)
theorem LUp.drewN {e base n:Nat}{w:World}{v:Value}{svs:List Value}{ps:List (List (List Int))}(h:LUp e base w v n svs ps):LUp e base w.drew v n svs ps:=h.kept (zP w none) (by simp)
theorem LUp.at {base g n c i:Nat}{w:World}{svs:List Value}{ps:List (List (List Int))}(h:LUp 28 base w (.slice (some ⟨g,0,none⟩) n c) n svs ps)(hi:i<n):
  ∃ (a:Option Addr) (d:Nat) (p:List (List Int)),svs[i]?=some (.slice a p.length d)/\ps[i]?=some p/\w.cell? ⟨g,i,none⟩=some (.slice a p.length d)/\RowT w.heap.size 9 w (.slice a p.length d) (strs p):=by
 have hl:=h.own.1;have h0:=h.rows.1;have hr:=h.rows.2 i (by omega) (by omega);obtain⟨a,d,e⟩:=hr.row.shape;rw[vT]at e;refine⟨a,d,ps[i]'(by omega),by rw[<- e];exact List.getElem?_eq_getElem _,List.getElem?_eq_getElem _,?_,by rw[<- e];exact hr⟩;have:=(RowT.of_owns h.own).row;rcases this with ⟨a0,c0,e0,hx⟩|⟨b',off',cap',hv,_,_,_,hra⟩
 ·simp only[Value.slice.injEq]at e0;omega
 ·simp only[Value.slice.injEq,Option.some.injEq,Addr.mk.injEq,and_true]at hv
  obtain⟨⟨rfl,rfl⟩,_⟩:=hv;have hc:=hra.2 i (by omega);rw[Nat.zero_add]at hc;rw[hc,<- e]
def InsI (L ps:List (List (List Int)))(i j:Nat):Prop:=∃ A x B C,ps=A++x::(B++C)/\A.length=j/\A.length+B.length=i/\rH (A++B)/\(∀ b∈B,wX x b=true)/\ps.Perm L
theorem qCM {L ps:List (List (List Int))}{i:Nat}(hs:rH (ps.take i))(hi:i<ps.length)(hp:ps.Perm L):InsI L ps i i :=
 ⟨ps.take i,ps[i],[],ps.drop (i+1),by rw[List.nil_append,<- List.drop_eq_getElem_cons hi,List.take_append_drop],by simp;omega,by simp;omega,by simpa using hs,by simp,hp⟩
theorem qBB {α:Type}(a x:α)(R:List α):∀ A:List α,((A++a::x::R).set A.length x).set (A.length+1) a=A++x::a::R
 | []=>rfl
 | b::A=>by have:=qBB a x R A;simp[this]
theorem cQ {α:Type}{A:List α}{j:Nat}(h:A.length=j+1):∃ A' a,A=A'++[a]/\A'.length=j:=by
 have h0:A≠[]:=by intro e;rw[e]at h;simp at h
 exact⟨A.dropLast,A.getLast h0,(List.dropLast_concat_getLast h0).symm,by simp[h]⟩
theorem qFC {L ps:List (List (List Int))}{i j:Nat}{p q:List (List Int)}(h:InsI L ps i (j+1))(hp:ps[j]?=some p)(hq:ps[j+1]?=some q)(hl:wX q p=true):InsI L ((ps.set j q).set (j+1) p) i j:=by
 obtain⟨A,x,B,C,rfl,hA,hi,hs,hB,h0⟩:=h;obtain⟨A',a,rfl,rfl⟩:=cQ hA;have e0:A'++[a]++x::(B++C)=A'++a::x::(B++C):=by simp
 rw[e0]at hp hq h0 ⊢;have e1:a=p:=by rw[List.getElem?_append_right (Nat.le_refl _)]at hp;simpa using hp
 have e2:x=q:=by rw[List.getElem?_append_right (by omega)]at hq;simpa using hq
 subst e1;subst e2;rw[qBB];refine⟨A',x,a::B,C,by simp,rfl,by simp at hi ⊢;omega,by simpa using hs,?_,(List.Perm.append_left A' (List.Perm.swap _ _ _)).trans h0⟩;intro b hb;rcases List.mem_cons.1 hb with rfl|hb
 ·exact hl
 ·exact hB b hb
theorem gU {L ps:List (List (List Int))}{i j:Nat}(h:InsI L ps i j)(hn:L.Nodup)(hd:j=0\/∃ k p q,j=k+1/\ps[k]?=some p/\ps[k+1]?=some q/\wX q p=false):rH (ps.take (i+1))/\ps.Perm L:=by
 obtain⟨A,x,B,C,rfl,hA,hi,hs,hB,h0⟩:=h;refine⟨?_,h0⟩
 have et:(A++x::(B++C)).take (i+1)=A++x::B:=by
  have e3:A++x::(B++C)=(A++x::B)++C:=by simp
  rw[e3,List.take_left' (by simp;omega)]
 rw[et];have h1:=List.pairwise_append.1 hs;have h2:=h0.nodup_iff.2 hn
 have h8:∀ a∈A,wX a x=true:=by
  rcases hd with rfl|⟨k,p,q,rfl,hp,hq,hl⟩
  ·intro a ha;rw[List.eq_nil_of_length_eq_zero hA]at ha;simp at ha
  ·obtain⟨A',a,rfl,rfl⟩:=cQ hA
   have e0:A'++[a]++x::(B++C)=A'++a::x::(B++C):=by simp
   rw[e0]at hp hq h2;have e1:a=p:=by rw[List.getElem?_append_right (Nat.le_refl _)]at hp;simpa using hp
   have e2:x=q:=by rw[List.getElem?_append_right (by omega)]at hq;simpa using hq
   subst e1;subst e2
   have h7:a≠x:=by
    have h3:=(List.pairwise_append.1 h2).2.1;have h4:=(List.pairwise_cons.1 h3).1 x (by simp);exact h4
   have h6:wX a x=true:=by
    rcases lessP_total h7 with h|h
    ·exact h
    ·rw[hl]at h;cases h
   intro b hb;rcases List.mem_append.1 hb with hb|hb
   ·have h5:=(List.pairwise_append.1 h1.1).2.2 b hb a (by simp)
    exact eR h5 h6
   ·have:b=a:=by simpa using hb
    rw[this];exact h6
 refine List.pairwise_append.2 ⟨h1.1,List.pairwise_cons.2 ⟨hB,h1.2.1⟩,fun a ha b hb=>?_⟩;rcases List.mem_cons.1 hb with rfl|hb
 ·exact h8 a ha
 ·exact h1.2.2 a ha b hb
theorem sorted_is {l m:List (List (List Int))}(h1:rH l)(h2:rH m)(h:l.Perm m):l=m:=qCH h1 h2 fun _=>h.mem_iff
theorem kP (L i:Nat):(upTo L (i+2)).length=(upTo L (i+1)).length+L ^ i * L:=by
 rw[wF L (i+1),List.length_append,uN,Nat.pow_succ]
theorem qHB {kind:Int}{L K:Nat}(M:Nat):(xH L K).length<=(famP kind L K M).length+1:=by
 unfold famP;simp only
 split
 ·rw[List.length_map];omega
 split
 ·simp only[List.length_append,List.length_map,List.length_drop];omega
 split
 ·simp only[List.length_append,List.length_map,List.length_drop];omega
 split
 ·simp only[List.length_append,List.length_map,List.length_drop];omega
 split
 ·simp only[List.length_append,List.length_map,List.length_drop];omega
 split
 ·simp only[List.length_append,List.length_map,List.length_drop];omega
 ·rw[qAR,List.length_append,List.length_map];omega
theorem jM {kind:Int}{L K M:Nat}(ho:kA kind L K M=true)(h:(kind=6/\8<(K:Int)+2)\/300<qGF kind L K M):famE kind L K M=3/\famL kind L K M=[]:=by
 have e1:famE kind L K M=3:=by rw[famE,if_neg (by rw[ho];simp),if_pos (h.imp id (fun hs=>by simpa using hs))]
 exact⟨e1,by rw[famL,e1];rfl⟩
theorem bY {kind:Int}{L K M:Nat}(ho:kA kind L K M=true)(h6:¬ (kind=6/\8<(K:Int)+2))(h:¬ 300<qGF kind L K M):famE kind L K M=0/\famL kind L K M=famP kind L K M:=by
 have e1:famE kind L K M=0:=by
  rw[famE,if_neg (by rw[ho];simp),if_neg];rintro (h1|h1)
  ·exact h6 h1
  ·exact h (by simpa using h1)
 exact⟨e1,by rw[famL,e1];simp⟩
theorem qCP {α:Type}{c:Prop}[Decidable c](x:α):(if c then [x] else []).length<=1:=by split<;>simp
theorem genU_len (kind:Int)(k:Nat)(u:List Int):(genU kind k u).length<=5:=by
 unfold genU;rw[List.length_append];have h1:=qCP (c:=kind=1\/kind=7\/(kind≠6/\u.length<k)) (oneB u);by_cases hu:u=[]
 ·rw[if_pos hu,List.length_nil];omega
 ·rw[if_neg hu]
  rw[List.length_append,List.length_append,List.length_append];have h2:=qCP (c:=kind=2\/kind=4\/kind=5) (preB u);have h3:=qCP (c:=kind=3\/kind=4\/kind=5) (sufB u);have h4:=qCP (c:=kind=5) (facB u);have h5:=qCP (c:=kind=6) (rJ u);omega
theorem qAH (kind:Int)(k:Nat):∀ W:List (List Int),(genL kind k W).length<=5 * W.length
 | []=>by simp[genL]
 | u::W=>by
  have:=qAH kind k W
  have:=genU_len kind k u
  simp only[genL,List.flatMap_cons,List.length_append,List.length_cons]at *
  omega
theorem grown_iterAt (w:World)(k:Nat)(s:ByteArray)(pos:Nat):w.grownBy (w.iterAt k s pos) (some k) :=
 ⟨rfl,rfl,rfl,by rw[Lib.iterAt_size];exact Nat.le_refl _,fun i _ hne=>Lib.iterAt_other w k i s pos (fun e=>hne (by rw[e]))⟩
theorem xY.one {w:World}{B:Nat}{e:TypeId}{svs:List Value}{ps:List (List (List Int))}(h:xY B e strs w svs ps):∀ u∈svs,u.oneCell'=true:=by
 intro u hu;obtain⟨i,hi,rfl⟩:=List.mem_iff_getElem.1 hu;have hl:=h.1;obtain⟨a,c,e⟩:=(h.2 i hi (by omega)).row.shape;rw[e];rfl
theorem gZ {L K r:Nat}(h:r<(xH L K).length):((xH L K)[r]=[] ↔ r=0):=by
 obtain⟨t,e,ht⟩:=fB L K;have e':xH L K=[]::t:=e;constructor
 ·intro h0
  rcases r with _|r
  ·rfl
  ·exfalso
   simp only[e',List.getElem_cons_succ]at h0;exact ht _ (List.getElem_mem _) h0
 ·rintro rfl
  simp only[e',List.getElem_cons_zero]
theorem gY {L K:Nat}(h6:K<=8){u:List Int}(hu:u∈xH L K):u.length<=8:=upTo_len8 (n:=K+1) (by omega) hu
theorem okB {letters:Nat}(h:letters<=6){n:Nat}{u:List Int}(hu:u∈upTo letters n):okW u:=by
 simp only[upTo,List.mem_flatMap,List.mem_range]at hu;obtain⟨m,_,hu⟩:=hu;intro x hx;have:=(qF hu).2 x hx;unfold eD at *;omega
def okP (p:List (List Int)):Prop:=p.length<=100/\∀ u∈p,okW u/\u.length<=8
theorem okW_nil:okW []:=fun x hx=>by simp at hx
theorem genU_cases {kind:Int}{k:Nat}{u:List Int}{p:List (List Int)}(hp:p∈genU kind k u):p=oneB u\/p=preB u\/p=sufB u\/p=facB u\/p=rJ u:=by
 unfold genU at hp;rw[List.mem_append]at hp;rcases hp with hp|hp
 ·split at hp
  ·exact .inl (by simpa using hp)
  ·simp at hp
 ·by_cases hu:u=[]
  ·rw[if_pos hu]at hp;simp at hp
  ·rw[if_neg hu,List.mem_append,List.mem_append,List.mem_append]at hp
   rcases hp with hp|hp|hp|hp
   ·split at hp
    ·exact .inr (.inl (by simpa using hp))
    ·simp at hp
   ·split at hp
    ·exact .inr (.inr (.inl (by simpa using hp)))
    ·simp at hp
   ·split at hp
    ·exact .inr (.inr (.inr (.inl (by simpa using hp))))
    ·simp at hp
   ·split at hp
    ·exact .inr (.inr (.inr (.inr (by simpa using hp))))
    ·simp at hp
theorem genU_ok {kind:Int}{k:Nat}{u:List Int}(h:okW u)(h8:u.length<=8){p:List (List Int)}(hp:p∈genU kind k u):okP p:=by
 have hn:okW []/\([]:List Int).length<=8:=⟨okW_nil,by simp⟩;rcases genU_cases hp with rfl|rfl|rfl|rfl|rfl
 ·refine⟨by simp[oneB],fun x hx=>?_⟩
  simp only[oneB,List.mem_singleton]at hx;subst hx;exact⟨h,h8⟩
 ·refine⟨by simp[preB],fun x hx=>?_⟩
  simp only[preB,List.mem_cons,List.not_mem_nil,or_false]at hx;rcases hx with rfl|rfl
  ·exact⟨h,h8⟩
  ·exact hn
 ·refine⟨by simp[sufB],fun x hx=>?_⟩
  simp only[sufB,List.mem_cons,List.not_mem_nil,or_false]at hx;rcases hx with rfl|rfl
  ·exact hn
  ·exact⟨h,h8⟩
 ·refine⟨by simp[facB],fun x hx=>?_⟩
  simp only[facB,List.mem_cons,List.not_mem_nil,or_false]at hx;rcases hx with rfl|rfl|rfl
  ·exact hn
  ·exact⟨h,h8⟩
  ·exact hn
 ·refine⟨by simp[rJ];omega,fun x hx=>?_⟩
  simp only[rJ,List.mem_append,List.mem_singleton,List.mem_map]at hx;rcases hx with (rfl|⟨c,hc,rfl⟩)|rfl
  ·exact hn
  ·refine⟨fun y hy=>?_,by simp⟩
   simp only[List.mem_singleton]at hy;subst hy;exact h y hc
  ·exact hn
theorem qHL (ws:List (List Int)):∀ (i:Nat) {b:List (List Int)},b∈chB ws i->∀ u∈b,u∈ws
 | 0,b,h=>by
  obtain⟨v,hv,rfl⟩:=List.mem_map.1 h
  intro u hu
  simp only[oneB,List.mem_singleton]at hu
  subst hu;exact hv
 | i+1,b,h=>by
  obtain⟨c,hc,hb⟩:=List.mem_flatMap.1 h
  obtain⟨v,hv,rfl⟩:=List.mem_map.1 hb
  intro u hu
  rcases List.mem_append.1 hu with hu|hu
  ·exact qHL ws i hc u hu
  ·simp only[List.mem_singleton]at hu
   subst hu;exact List.mem_of_mem_drop hv
theorem qAT (ws:List (List Int)):∀ (i:Nat) {b:List (List Int)},b∈allC ws i->b.length<=i+1/\∀ u∈b,u∈ws
 | 0,b,h=>by simp[allC]at h
 | i+1,b,h=>by
  rcases List.mem_append.1 h with h|h
  ·exact⟨by have:=(qAT ws i h).1;omega,(qAT ws i h).2⟩
  ·obtain⟨c,hc,hb⟩:=List.mem_flatMap.1 h
   obtain⟨v,hv,rfl⟩:=List.mem_map.1 hb
   refine⟨by rw[List.length_append,dJ i hc];simp,fun u hu=>?_⟩
   rcases List.mem_append.1 hu with hu|hu
   ·exact qHL ws i hc u hu
   ·simp only[List.mem_singleton]at hu
    subst hu;exact hv
theorem qGI {kind:Int}{L K M:Nat}(hl:L<=6)(hk:K<=8)(hm:M<=4){p:List (List Int)}(hp:p∈refL kind L K M):okP p:=by
 have hw:∀ u∈xH L K,okW u/\u.length<=8:=fun u hu=>⟨okB hl (n:=K+1) hu,gY hk hu⟩;rcases List.mem_append.1 hp with hp|hp
 ·obtain⟨u,hu,hp⟩:=List.mem_flatMap.1 hp
  exact genU_ok (hw u hu).1 (hw u hu).2 hp
 ·split at hp
  ·have h:=qAT _ _ (List.mem_of_mem_take hp)
   exact⟨by omega,fun u hu=>hw u (h.2 u hu)⟩
  ·simp at hp
theorem cZ {kind:Int}{L K M:Nat}(h1:1<=kind)(h7:kind<=7)(hn:¬ 300<(refL kind L K M).length){ps:List (List (List Int))}(hs:rH ps)(hp:ps.Perm (refL kind L K M)):ps=famP kind L K M:=by
 refine sorted_is hs (eX _ _ _ _) (hp.trans (aR h1 h7 M ?_));by_cases hk:kind=7
 ·refine .inl ?_
  rw[refL,if_pos hk,List.length_append,List.length_take]at hn;omega
 ·exact .inr hk
theorem qBK {kind:Int}{L K M:Nat}(h1:1<=kind)(h7:kind<=7)(hn:¬ 300<(refL kind L K M).length):(refL kind L K M).Nodup:=by
 have hp:(refL kind L K M).Perm (famP kind L K M):=by
  refine aR h1 h7 M ?_;by_cases hk:kind=7
  ·refine .inl ?_
   rw[refL,if_pos hk,List.length_append,List.length_take]at hn;omega
  ·exact .inr hk
 exact hp.nodup_iff.2 (sortP_nodup (eX _ _ _ _))
theorem str_byte (u:List Int)(p:Nat)(h:p<u.length)(h':p<(strOfNums u).size):(strOfNums u)[p]'h'=UInt8.ofNat (u[p].toNat):=by
 have e:(strOfNums u)[p]'h'=(strOfNums u).data.toList[p]'(by rw[strOfNums_data];simpa using h):=by rw[Array.getElem_toList];rfl
 rw[e];simp only[strOfNums_data,List.getElem_map]
theorem str_ascii {u:List Int}(hu:okW u){p:Nat}(h:p<u.length)(h':p<(strOfNums u).size):((strOfNums u)[p]'h').toNat<128:=by
 obtain⟨a,b⟩:=hu _ (List.getElem_mem h);rw[str_byte u p h h',UInt8.toNat_ofNat'];omega
theorem iV {w:World}{B e size n:Nat}{v:Value}{xs:List Value}{k:Nat}{s:ByteArray}{pos:Nat}(h:w.ownsRow B e size v n xs)(hk:w.heap[k]?=some (.stringIter s pos)):some k≠v.ownBlock:=by
 rcases h.2 with ⟨rfl,_⟩|⟨g,cap,cur,rfl,hb,hg,_⟩
 ·simp[Value.ownBlock]
 ·intro e
  simp only[Value.ownBlock,Option.some.injEq]at e;subst e;rw[hk]at hg;cases hg
end Go.Proofs.Ytjfdomfendbhfaa
