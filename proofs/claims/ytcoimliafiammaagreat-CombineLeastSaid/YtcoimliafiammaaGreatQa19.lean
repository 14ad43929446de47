/- Part 19 of the proof. -/
import Derived.Test.YtcoimliafiammaaGreatQa18
import Derived.Deep.DeepCutAuto
set_option linter.unusedVariables false
set_option linter.unusedSimpArgs false
set_option maxRecDepth 100000
set_option maxHeartbeats 16000000
namespace Go.Proofs.YtcoimliafiammaaGreat
open Go.RowKit
theorem qZZ {u:List Nat}{i:Nat}(hu:yO 2 u)(hi:i<u.length):∃h:i<(strOfNums (lets u)).size,(((strOfNums (lets u))[i]'h).toNat:Nat)=97+u.getD i 0:=by
 have hq:i<(strOfNums (lets u)).size:=by rw[strOfNums_size];simpa [lets] using hi
 refine⟨hq,?_⟩;have e2:(strOfNums (lets u)).data.toList[i]'(by simpa using hq)=(strOfNums (lets u))[i]'hq:=rfl;have e1:(strOfNums (lets u)).data.toList=(lets u).map (fun n=>UInt8.ofNat n.toNat):=strOfNums_data _;rw[<-e2,zG hi];have e3:(lets u)[i]'(by simpa [lets] using hi)=97+((u[i]:Nat):Int):=by simp[lets]
 simp only[e1,List.getElem_map,e3];have:=hu _ (List.getElem_mem hi);rw[UInt8.toNat_ofNat'];omega
theorem qDL {u:List Nat}{i:Nat}(hi:i<u.length):run dK 0 (u.take (i+1))=nx dK (run dK 0 (u.take i)) (u.getD i 0):=by
 rw[zT (d:=0) hi];unfold run;rw[List.foldl_append];rfl
theorem nxK:nx dK 0 0=1/\nx dK 0 1=0/\nx dK 1 0=1/\nx dK 1 1=2/\nx dK 2 0=1/\nx dK 2 1=2:=by decide +kernel
theorem xBN {q x:Nat}(hq:q<3)(hx:x<2):decide (nx dK q x≠0)=(decide (x=0) || decide (q≠0)):=by
 obtain⟨h1,h2,h3,h4,h5,h6⟩:=nxK;rcases (by omega:q=0\/q=1\/q=2) with rfl|rfl|rfl<;>rcases (by omega:x=0\/x=1) with rfl|rfl<;>simp[h1,h2,h3,h4,h5,h6]
theorem accK (u:List Nat)(hu:yO 2 u):acc dK 0 u=decide (run dK 0 u=2):=by
 have h:=qGU hu;unfold acc
 generalize run dK 0 u=q at h
 rcases (by omega:q=0\/q=1\/q=2) with rfl|rfl|rfl<;>rfl
theorem qKQ (w:World)(u:List Nat)(hu:yO 2 u)(hl:u.length<=4000):Calls Tryz.prog 28 #[.string (strOfNums (lets u))] w fun e w'=>e=.returned (.bool (acc dK 0 u))/\w=w':=by
 have H2:Hid (∀i,i<u.length->∃h:i<(strOfNums (lets u)).size,(((strOfNums (lets u))[i]'h).toNat:Nat)=97+u.getD i 0):=Kh (fun i hi=>qZZ hu hi);obtain⟨S,hS⟩:=Nm (strOfNums (lets u));have a1:S.size=u.length:=by rw[hS,strOfNums_size];simp[lets]
 rw[<-hS]at H2⊢;obtain⟨n,hn⟩:=Nm u.length;rw[<-hn]at a1 H2 hl;have HN:=Kh hn;have H6:=Kh hu;have a0:Hid (∀i,yO 2 (u.take i)):=Kh (fun i a ha=>hu a (List.mem_of_mem_take ha));clear hS hn hu;go_enter Tryz.func28,Tryz.ntmps28;go_wp2
 go_loopg [3,4] n (fun gh v3 v4 wr=>∃i:Nat,gh+i=n/\v4=.int .i64 i/\v3=.bool (decide (run dK 0 (u.take i)≠0))/\w=wr)
 case atStart=>exact⟨0,rfl,rfl,rfl,rfl⟩
 obtain⟨i,H9,rfl,rfl,rfl⟩:=hrel;have h8:=Kh H9;clear H9;by_cases hi:i<n
 ·have a2:(i:Int)<S.size:=by omega
  obtain⟨hb,hx⟩:=H2.out i hi;have H0:u.getD i 0<2:=H6.out _ (by rw[zG (by rw[<-HN.out];exact hi)];exact List.getElem_mem _);have H1:=Kh (xBN (qGU (a0.out i)) H0);rw[<-qDL (by rw[<-HN.out];exact hi)]at H1;obtain⟨b,h7⟩:=Nm (decide (run dK 0 (u.take i)≠0));rw[<-h7]at H1⊢;rcases (by omega:u.getD i 0=0\/u.getD i 0=1) with e|e
  ·rw[e]at hx H1
   have H3:((S[i].toNat:Nat):Int)=97:=by rw[hx];rfl
   have HE:Hid (decide (run dK 0 (u.take (i+1))≠0)=true):=Kh (by rw[H1.out];simp);clear hx e H0 h7;cases b with
   | true =>
    go_wp2;go_roundg (n-(i+1))
    case measure=>have:=h8.out;omega
    exact⟨i+1,by have:=h8.out;omega,by go_num,by rw[HE.out],rfl⟩
   | false =>
    go_wp2;go_roundg (n-(i+1))
    case measure=>have:=h8.out;omega
    exact⟨i+1,by have:=h8.out;omega,by go_num,by rw[HE.out],rfl⟩
  rw[e]at hx H1;have H3:((S[i].toNat:Nat):Int)=98:=by rw[hx];rfl
  have HE:Hid (decide (run dK 0 (u.take (i+1))≠0)=b):=Kh (by rw[H1.out];simp);clear hx e H0 h7;cases b with
  | true =>
   go_wp2;go_roundg (n-(i+1))
   case measure=>have:=h8.out;omega
   exact⟨i+1,by have:=h8.out;omega,by go_num,by rw[HE.out],rfl⟩
  | false =>
   go_wp2;go_roundg (n-(i+1))
   case measure=>have:=h8.out;omega
   exact⟨i+1,by have:=h8.out;omega,by go_num,by rw[HE.out],rfl⟩
 have H5:i=n:=by have:=h8.out;omega
 have a2:¬(i:Int)<S.size:=(by omega);have a3:Hid (u.take i=u):=Kh (List.take_of_length_le (by rw[<-HN.out];omega));obtain⟨bb,h7⟩:=Nm (decide (run dK 0 (u.take i)≠0));rw[<-h7];rw[a3.out]at h7;have H7:=Kh (accK u H6.out);by_cases h0:run dK 0 u=0
 ·have HA:Hid (acc dK 0 u=false):=Kh (by rw[H7.out,h0];rfl)
  obtain rfl:bb=false:=by rw[h7];simp[h0]
  clear h0 H5 h7;go_wp2;go_ret;exact⟨zW HA.out.symm,rfl⟩
 obtain rfl:bb=true:=by rw[h7];simp[h0]
 clear h7
 obtain⟨m,rfl⟩:∃m,n=m+1:=by
  rcases Nat.eq_zero_or_pos n with hz|hz
  ·exfalso
   apply h0;have H4:u=[]:=List.eq_nil_of_length_eq_zero (by rw[<-HN.out];exact hz);rw[H4];rfl
  exact⟨n-1,by omega⟩
 obtain⟨hb,hx⟩:=H2.out m (by omega);have H0:u.getD m 0<2:=H6.out _ (by rw[zG (by rw[<-HN.out];omega)];exact List.getElem_mem _);have h9:=qDL (u:=u) (i:=m) (by rw[<-HN.out];omega);rw[List.take_of_length_le (by rw[<-HN.out];omega)]at h9;have H8:=qGU (a0.out m);have e5:((S.size:Nat):Int)-1=(m:Int):=by omega
 have e6:IntKind.i64.wrap (((S.size:Nat):Int)-1)=(m:Int):=by rw[e5];exact qB (by omega)
 have a4:(m:Int)<S.size:=(by omega);have a5:m<S.size:=(by omega);rcases (by omega:u.getD m 0=0\/u.getD m 0=1) with e|e
 ·rw[e]at hx h9
  have H3:((S[m].toNat:Nat):Int)=97:=by rw[hx];rfl
  have HA:Hid (acc dK 0 u=false):=Kh (by
   rw[H7.out,h9];obtain⟨h1,h2,h3,h4,h5,h6⟩:=nxK
   rcases (by omega:run dK 0 (u.take m)=0\/run dK 0 (u.take m)=1\/run dK 0 (u.take m)=2) with q|q|q<;>rw[q]<;>simp[h1,h3,h5])
  clear hx e H0 h9 H8 h0 H5;go_wp2;go_ret;exact⟨zW HA.out.symm,rfl⟩
 rw[e]at hx h9;have H3:((S[m].toNat:Nat):Int)=98:=by rw[hx];rfl
 have HA:Hid (acc dK 0 u=true):=Kh (by
  rw[H7.out];rw[h9]at h0⊢;obtain⟨h1,h2,h3,h4,h5,h6⟩:=nxK;rcases (by omega:run dK 0 (u.take m)=0\/run dK 0 (u.take m)=1\/run dK 0 (u.take m)=2) with q|q|q<;>rw[q]at h0⊢
  ·exact absurd h2 h0
  ·rw[h4];rfl
  rw[h6];rfl)
 clear hx e H0 h9 H8 h0 H5;go_wp2;go_ret;exact⟨zW HA.out.symm,rfl⟩
theorem RowT.litC {B:Nat}{e:TypeId}{w:World}{b:Nat}{cs:Array Value}{m:Nat×Nat}{n:Nat}(h:w.heap[b]?=some (.cells cs e m))(hb:b<B)(hn:cs.size=n)(hm:n<=maxLen):RowT B e w (.slice (some ⟨b,0,none⟩) n n) cs.toList :=
 .inr ⟨b,0,n,cs,m,by simp[hn],hb,by simp[hn],hm,h,fun i hi=>by
  rw[Nat.zero_add]
  have:i<cs.size:=by simpa using hi
  simp[this]⟩
theorem kV {w:World}{v:Value}{a9:List Value}{l:List (List (List Int))}(h:RowT w.heap.size 65 w v a9)(hr:wO w.heap.size 9 strs w a9 l)(hs:∀p∈l,∀u∈p,u.length<=4096):vE w.heap.size w v (famB l):=by
 refine⟨a9,h.row,by rw[wJ];exact hr.1,fun i h1 h2=>?_⟩;have h3:i<l.length:=by rw[wJ]at h2;exact h2
 have e:(famB l)[i]=l[i].map strOfNums:=by simp[famB]
 rw[e];refine⟨?_,fun j hj=>?_⟩
 ·have:=(hr.2 i h1 h3).row
  rw[qOZ]at this;exact this
 have h0:j<l[i].length:=by simpa using hj
 have:=hs l[i] (List.getElem_mem h3) _ (List.getElem_mem h0);have e2:(l[i].map strOfNums)[j]=strOfNums (l[i][j]):=by simp
 rw[e2,strOfNums_size];unfold maxLen;omega
theorem xCM (w:World):∃w',w'=((((w.alloc (.cells #[.bool false,.bool false,.bool true] 4)).alloc (.cells #[.int .i64 1,.int .i64 0] 3)).alloc (.cells #[.int .i64 1,.int .i64 2] 3)).alloc (.cells #[.int .i64 1,.int .i64 2] 3)).alloc (.cells #[.slice (some ⟨w.heap.size+1,0,none⟩) 2 2,.slice (some ⟨w.heap.size+1+1,0,none⟩) 2 2,.slice (some ⟨w.heap.size+1+1+1,0,none⟩) 2 2] 22)/\w.grownBy w' none/\w'.heap.size=w.heap.size+5/\tM w'.heap.size w' (.agg #[.int .i64 2,.int .i64 0,.slice (some ⟨w.heap.size,0,none⟩) 3 3,.slice (some ⟨w.heap.size+1+1+1+1,0,none⟩) 3 3]) dK:=by
 obtain⟨w1,h7⟩:=Nm (w.alloc (.cells #[.bool false,.bool false,.bool true] 4));obtain⟨w2,h6⟩:=Nm (w1.alloc (.cells #[.int .i64 1,.int .i64 0] 3));obtain⟨w3,h5⟩:=Nm (w2.alloc (.cells #[.int .i64 1,.int .i64 2] 3));obtain⟨w4,h4⟩:=Nm (w3.alloc (.cells #[.int .i64 1,.int .i64 2] 3));obtain⟨w5,h0⟩:=Nm (w4.alloc (.cells #[.slice (some ⟨w.heap.size+1,0,none⟩) 2 2,.slice (some ⟨w.heap.size+1+1,0,none⟩) 2 2,.slice (some ⟨w.heap.size+1+1+1,0,none⟩) 2 2] 22));have g1:w.grownBy w1 none:=by rw[h7];exact Ga _ _ _
 have g2:w1.grownBy w2 none:=by rw[h6];exact Ga _ _ _
 have g3:w2.grownBy w3 none:=by rw[h5];exact Ga _ _ _
 have g4:w3.grownBy w4 none:=by rw[h4];exact Ga _ _ _
 have g5:w4.grownBy w5 none:=by rw[h0];exact Ga _ _ _
 have z1:w1.heap.size=w.heap.size+1:=by rw[h7,zL]
 have z2:w2.heap.size=w.heap.size+2:=by rw[h6,zL,z1]
 have z3:w3.heap.size=w.heap.size+3:=by rw[h5,zL,z2]
 have z4:w4.heap.size=w.heap.size+4:=by rw[h4,zL,z3]
 have z5:w5.heap.size=w.heap.size+5:=by rw[h0,zL,z4]
 have b1:w5.heap[w.heap.size]?=some (.cells #[.bool false,.bool false,.bool true] 4 (0,0)):=zB (zB (zB (zB (by rw[h7];exact heap_alloc_new w _) g2) g3) g4) g5;have b2:w5.heap[w.heap.size+1]?=some (.cells #[.int .i64 1,.int .i64 0] 3 (0,0)):=zB (zB (zB (by rw[h6,<-z1];exact heap_alloc_new w1 _) g3) g4) g5;have b3:w5.heap[w.heap.size+1+1]?=some (.cells #[.int .i64 1,.int .i64 2] 3 (0,0)):=zB (zB (by rw[h5,<-z2];exact heap_alloc_new w2 _) g4) g5;have b4:w5.heap[w.heap.size+1+1+1]?=some (.cells #[.int .i64 1,.int .i64 2] 3 (0,0)):=zB (by rw[h4,<-z3];exact heap_alloc_new w3 _) g5;have b5:w5.heap[w.heap.size+1+1+1+1]?=some (.cells #[.slice (some ⟨w.heap.size+1,0,none⟩) 2 2,.slice (some ⟨w.heap.size+1+1,0,none⟩) 2 2,.slice (some ⟨w.heap.size+1+1+1,0,none⟩) 2 2] 22 (0,0)):=by rw[h0,<-z4];exact heap_alloc_new w4 _
 have m2:2<=maxLen:=by unfold maxLen;omega
 have m3:3<=maxLen:=by unfold maxLen;omega
 refine⟨w5,by rw[h0,h4,h5,h6,h7],zA (zA (zA (zA g1 g2) g3) g4) g5,z5,_,_,rfl,?_,?_⟩
 ·exact(RowT.litC b1 (by omega) rfl m3).row
 refine Mat.of_rowT (RowT.litC b5 (by omega) rfl m3) ⟨rfl,fun i h1 h2=>?_⟩ (Nat.le_refl _);have h3:i<3:=h2;rcases (by omega:i=0\/i=1\/i=2) with rfl|rfl|rfl
 ·exact RowT.litC b2 (by omega) rfl m2
 ·exact RowT.litC b3 (by omega) rfl m2
 exact RowT.litC b4 (by omega) rfl m2
theorem bC {w':World}{v:Value}{g:DiaV}(h:mB w'.heap.size w' v g):∃ap cp ac cc,v=.agg #[.slice ap g.pats.length cp,.slice ac g.chos.length cc,.int .i64 g.root]:=by
 obtain⟨pv,cv,rfl,h1,h2⟩:=h;obtain⟨ap,cp,rfl⟩:=h1.shape;obtain⟨ac,cc,rfl⟩:=h2.shape;exact⟨ap,cp,ac,cc,rfl⟩
theorem sJ (letters:Nat)(u:List Int):(block letters u 0).length=letters:=by simp[block]
theorem qTI {letters c:Nat}(u:List Int)(h:c<letters):(block letters u 0)[c]'(by rw[sJ];exact h)=u++[97+(c:Int)]:=by simp[block]
theorem jM (letters:Nat):∀n,upTo letters (n+1)=[[]]++(upTo letters n).flatMap fun u=>block letters u 0
 | 0=>by simp[upTo,lex]
 | n+1=>by
  have ih:=jM letters n
  rw[xP letters (n+1),iF]
  conv=>rhs;rw[xP letters n,List.flatMap_append,<-List.append_assoc,<-ih]
def grown (letters n i:Nat):List (List Int):=[[]]++((upTo letters n).take i).flatMap fun u=>block letters u 0
theorem qFG {letters n i:Nat}(h:(upTo letters n).length<=i):grown letters n i=upTo letters (n+1):=by
 rw[grown,List.take_of_length_le h,jM]
theorem gD {letters n i:Nat}(h:i<(upTo letters n).length):grown letters n (i+1)=grown letters n i++block letters (upTo letters n)[i] 0:=by
 rw[grown,List.take_succ_eq_append_getElem h,List.flatMap_append,<-List.append_assoc];simp[grown]
theorem qFE (letters n i:Nat):grown letters n i <+: upTo letters (n+1):=by
 have e:upTo letters (n+1)=grown letters n i++((upTo letters n).drop i).flatMap fun u=>block letters u 0:=by
  rw[jM,grown,List.append_assoc,<-List.flatMap_append,List.take_append_drop]
 rw[e];exact List.prefix_append _ _
theorem fB {letters n:Nat}(h1:1<=letters):∀i,i<=(upTo letters n).length->i+1<=(grown letters n i).length
 | 0,_=>by simp[grown]
 | i+1,h=>by
  have:=fB (n:=n) h1 i (by omega)
  rw[gD (by omega),List.length_append,sJ];omega
theorem qUE (letters n:Nat):upTo letters n <+: upTo letters (n+1):=by rw[xP];exact List.prefix_append _ _
theorem qQE {α:Type}{a b:List α}(h:a <+: b){i:Nat}(hi:i<a.length):a[i]=b[i]'(Nat.lt_of_lt_of_le hi h.length_le):=by
 obtain⟨c,rfl⟩:=h;rw[List.getElem_append_left]
theorem kO {letters n:Nat}{u:List Int}(h:u∈upTo letters n):u.length<n:=by
 simp only[upTo,List.mem_flatMap,List.mem_range]at h;obtain⟨m,hm,hu⟩:=h;rw[(rG hu).1];exact hm
theorem qOQ {letters n i:Nat}(h:(upTo letters n).length<=i)(hi:i<(upTo letters (n+1)).length):((upTo letters (n+1))[i]).length=n:=by
 have e:(upTo letters (n+1))[i]=(lex letters n)[i-(upTo letters n).length]'(by rw[xP,List.length_append]at hi;omega):=by
  simp only[xP];rw[List.getElem_append_right h]
 rw[e];exact(rG (List.getElem_mem _)).1
theorem qNI {letters n i x:Nat}(h:i<(upTo letters n).length)(hx:x<letters):grown letters n i++(block letters (upTo letters n)[i] 0).take (x+1)=(grown letters n i++(block letters (upTo letters n)[i] 0).take x)++[(upTo letters n)[i]++[97+(x:Int)]]:=by
 rw[List.take_succ_eq_append_getElem (by rw[sJ];exact hx),qTI _ hx,List.append_assoc]
theorem qNJ (letters n i x:Nat)(h:i<(upTo letters n).length):grown letters n i++(block letters (upTo letters n)[i] 0).take x <+: upTo letters (n+1):=by
 refine List.IsPrefix.trans ?_ (qFE letters n (i+1));rw[gD h];exact List.prefix_append_right_inj _ |>.2 (List.take_prefix _ _)
theorem vJ {w w':World}{p:Addr}{u:Value}(h:w.cell? p=some u)(hg:w.grownBy w' none):w'.cell? p=some u:=(World.cell?_of_block (hg.block p.block (World.block_lt_of_cell? w p h) (by simp))).trans h
theorem qJG (a b:List Int):strOfNums a++strOfNums b=strOfNums (a++b):=by
 apply ByteArray.ext;simp[strOfNums]
theorem qLU {P:Program}{ops:Array Oper}{o:Oper}{a:Act}{w:World}{K:Act->World->Prop}{Q:Exit->Act->World->Prop}{R:Prop}(a5:o.guard=none)(s x:Operand)(t:TypeId)(ho:o.op=.call { callee:=.builtin .append,args:=#[s,x],argTypes:=#[t,t] }){e:TypeId}{z:Value}{bytes:Nat}(E:ElemOk P t e z bytes)(base:Nat)(v:Value)(n:Nat)(xs:List Value)(hs:a.eval s=v)(a7:w.ownsRow base e 1 v n xs)(u:Value)(blk:Nat)(m:Nat×Nat)(hx:a.eval x=.slice (some ⟨blk,0,none⟩) 1 1)(a6:w.heap[blk]?=some (.cells #[u] e m))(h1:u.oneCell'=true)(a4:n+1<=maxLen)(a9:(n+1)*bytes<=140737488355328)(a8:base<=w.heap.size)(h:∀sa sc w',w'.ownsRow base e 1 (.slice sa (n+1) sc) (n+1) (xs++[u])->w.grownBy w' v.ownBlock->K (a.put o.dst (.slice sa (n+1) sc)) w'):
  if Region.wanted o (yielded ops a.tmps)=true then Oper.wp P o a w K Q else R:=by
 have hw:Region.wanted o (yielded ops a.tmps)=true:=by simp[Region.wanted,a5]
 rw[if_pos hw];obtain⟨i,hi,hz,h0,h3⟩:=info_parts E.hi;refine wp_append_own w s x t ho base e i z 1 bytes E.ht hi hz h0 h3 E.hz (by decide) v n xs hs a7 ⟨blk,0,none⟩ 1 1 [u] hx rfl ?_ ?_ a4 a9 a8 ?_
 ·intro j u' hj
  match j,hj with
  | 0,hj=>simp at hj;subst hj;simpa [Addr.add] using zJ a6 0
 ·intro u' hu;simp at hu;subst hu;exact h1
 ·intro v' w' h1 h2 _
  obtain⟨sa,sc,rfl⟩:=rD h1;exact h sa sc w' h1 h2
theorem qDC {w:World}{kb:Nat}{l:List (List Int)}(h:Arr w kb 9 (strs l))(i:Nat)(hi:i<l.length):w.cell? ⟨kb,i,none⟩=some (.string (strOfNums l[i])):=by
 rw[h.cell i (by rw[xC];exact hi)];simp[strs]
theorem qPA (u:List Int)(c:Int):strOfNums u++strOfNums [c]=strOfNums (u++[c]):=by
 have h:(strOfNums u++strOfNums [c]).data.toList=(strOfNums (u++[c])).data.toList:=by
  rw[ByteArray.data_append,Array.toList_append,strOfNums_data,strOfNums_data,strOfNums_data,List.map_append]
 have h2:=Array.toList_inj.1 h;cases h3:strOfNums u++strOfNums [c];cases h4:strOfNums (u++[c])
 simp_all
theorem qUD (letters n:Nat)(w:World)(h1:1<=letters)(h6:letters<=6)(a8:n<=8)(a9:(upTo letters (n+1)).length<=1000):Calls Tryz.prog 30 #[.int .i64 letters,.int .i64 n] w (qLK w (upTo letters (n+1))):=by
 obtain⟨P,hP⟩:=Nm w.heap.size;have b0:=Kh hP;have HF:Hid (∀i,(grown letters n i).length<=1000):=Kh (fun i=>Nat.le_trans (qFE letters n i).length_le a9);have e1:=Kh a9
 have ho:(w.alloc (.cells #[.string ⟨#[]⟩] 9)).ownsRow P 9 1 (.slice (some ⟨P,0,none⟩) 1 1) 1 (strs (grown letters n 0)):=by
  rw[hP];exact World.ownsRow_lit (e:=9) (size:=1) w #[.string ⟨#[]⟩] 1 (Nat.le_refl _) (by unfold maxLen;omega) (by simp)
 have b7:w.grownBy (w.alloc (.cells #[.string ⟨#[]⟩] 9)) none:=Ga _ _ _;have HO:=Kh ho;have HG:=Kh b7;clear ho b7 a9;go_enter Tryz.func30,Tryz.ntmps30;go_upto_region 2 with fail;rw[<-b0.out];obtain⟨w1,b3⟩:=Nm (w.alloc (.cells #[.string ⟨#[]⟩] 9));rw[<-b3]at HO HG⊢;clear b3 hP;go_wp2;obtain⟨U,hU⟩:=Nm (upTo letters n);obtain⟨V,hV⟩:=Nm (upTo letters (n+1));have b8:Hid (U <+: V):=Kh (by rw[hU,hV];exact qUE letters n);have f1:V.length<=1000:=by rw[hV];exact e1.out
 have h3:=Kh hU;have H2:=Kh hV;rw[<-hV];clear hU hV;have f2:=b8.out.length_le
 go_loopg [5,6,7] V.length (fun gh lv iv av wr=>∃(i L:Nat) (sa:Option Addr) (sc:Nat),gh+i=V.length/\iv=.int .i64 (i:Int)/\lv=.slice sa L sc/\Hid (L=(grown letters n i).length)/\Hid (wr.ownsRow P 9 1 (.slice sa L sc) L (strs (grown letters n i)))/\w.grownBy wr none)
 case atStart=>exact⟨0,1,some ⟨P,0,none⟩,1,rfl,rfl,rfl,Kh (by simp[grown]),HO,HG.out⟩
 obtain⟨i,L,sa,sc,hg,rfl,rfl,hL,h0,H5⟩:=hrel;have a1:=Kh hg;have a0:=Kh H5;have a7:L<=1000:=by rw[hL.out];exact HF.out i
 clear hg H5 HO HG;rcases Nat.lt_or_ge i U.length with hiU|hiU
 ·
  have b5:i<L:=by
   have:=fB (n:=n) h1 i (by rw[<-h3.out];omega);rw[<-hL.out]at this;omega
  have H4:(i:Int)<L:=(by omega);have hm:=List.getElem_mem hiU;have c7:(U[i]).length<n:=kO (by rw[<-h3.out];exact hm);obtain⟨u,hu⟩:=Nm (U[i]);have HU:=Kh hu;rw[<-hu]at c7;obtain⟨X,hX⟩:=Nm (strOfNums u);have c6:X.size=u.length:=by rw[hX,strOfNums_size]
  have HX:=Kh hX
  have d6:Hid (∀x,x<letters->grown letters n i++(block letters u 0).take (x+1)=(grown letters n i++(block letters u 0).take x)++[u++[97+(x:Int)]]):=Kh (fun x hx=>by
   have:=qNI (letters:=letters) (n:=n) (i:=i) (x:=x) (by rw[<-h3.out];exact hiU) hx;have e:(upTo letters n)[i]'(by rw[<-h3.out];exact hiU)=u:=by rw[hu];congr 1;exact h3.out.symm
   rw[e]at this;exact this)
  have b9:Hid (∀x,grown letters n i++(block letters u 0).take x <+: V):=Kh (fun x=>by
   have:=qNJ letters n i x (by rw[<-h3.out];exact hiU);have e:(upTo letters n)[i]'(by rw[<-h3.out];exact hiU)=u:=by rw[hu];congr 1;exact h3.out.symm
   rw[e,<-H2.out]at this;exact this)
  have d5:Hid (∀h:i<V.length,V[i]=u):=Kh (fun h=>by rw[hu];exact(qQE b8.out hiU).symm)
  have c1:Hid (grown letters n (i+1)=grown letters n i++block letters u 0):=Kh (by
   rw[gD (by rw[<-h3.out];exact hiU)];have e:(upTo letters n)[i]'(by rw[<-h3.out];exact hiU)=u:=by rw[hu];congr 1;exact h3.out.symm
   rw[e])
  clear hu hX hm;obtain⟨wo,b1⟩:=Nm wr;rw[<-b1]at h0 a0⊢;clear b1 wr;go_wp2
  go_loopg [5,7] letters (fun gh lv av wr=>∃(a:Nat) (sb:Option Addr) (sd:Nat),gh+a=letters/\av=.int .i64 (a:Int)/\lv=.slice sb (L+a) sd/\Hid (wr.ownsRow P 9 1 (.slice sb (L+a) sd) (L+a) (strs (grown letters n i++(block letters u 0).take a)))/\w.grownBy wr none)
  case atStart=>exact⟨0,sa,sc,rfl,rfl,rfl,Kh (by simpa using h0.out),a0.out⟩
  obtain⟨a,sb,sd,hg,rfl,rfl,h0,H5⟩:=hrel;obtain⟨kb,rfl,d0,H8,h4⟩:=yH h0.out (by omega);have h5:(grown letters n i++(block letters u 0).take a).length=L+a:=by rw[List.length_append,List.length_take,sJ,<-hL.out];omega
  have h2:=qDC h4 i (by rw[h5];omega);have f3:L+a<=V.length:=by rw[<-h5];exact(b9.out a).length_le
  rw[qQE (b9.out a) (by rw[h5];omega),d5.out (by omega),<-HX.out]at h2;have e4:(i:Int)<(L:Int)+(a:Int):=(by omega);have c9:i<L+a:=(by omega);have c4:=Kh hg;have H3:=Kh H5;have h7:=h0;have a6:sd<=9223372036854775807:=by unfold maxLen at H8;omega
  clear hg H5 h4 H8 h5 h0;by_cases ha:a<letters
  ·have f0:(a:Int)<letters:=by omega
   have e3:(X.size:Int)<n:=(by omega);have f5:(L:Int)+(a:Int)<2000:=(by omega);have f4:IntKind.i64.wrap (97+(a:Int))=97+(a:Int):=IntWalk.i64_in _ (by omega);have e8:IntKind.u8.wrap (97+(a:Int))=97+(a:Int):=IntWalk.u8_in _ (by omega);obtain⟨Y,hY⟩:=Nm (strOfNums [97+(a:Int)]);have e6:∀(W:World) (g:Nat),W.cell? ⟨g,0,none⟩=some (.int .u8 (97+(a:Int)))->(convert 73 9 (.slice (some ⟨g,0,none⟩) 1 1)).run Tryz.prog W=.ok (.string Y) W:=fun W g h=>by rw[hY];exact mI 73 5 Tryz.underlying73 Tryz.underlying5 9 Tryz.underlying9 h
   have e7:∀W:World,(Op.stringOp .add X Y).run Tryz.prog W=.ok (.string (X++Y)) W:=fun W=>run_string_add_sum W X Y (by
    rw[hY,strOfNums_size];simp;omega)
   have d3:Hid (X++Y=strOfNums (u++[97+(a:Int)])):=Kh (by rw[HX.out,hY,qPA]);clear hY;obtain⟨w5,a2⟩:=Nm wr.drew;have H9:wr.grownBy w5 none:=(by rw[a2];exact zN wr none);have d4:=Kh a2;have c0:=Kh (zX h7.out H9 (by simp));have c3:=Kh (zA H3.out H9);have C:=Kh (vJ h2 H9);clear a2 H9 h7 H3;go_upto_region 8 with fail;clear h2;refine wp_region_noPanic ?_;refine xE (G:=vU 10 (fun _=>True) (fun W=>W.cell? ⟨kb,i,none⟩=some (.string X))) (by kernel_rfl) ?_;rw[<-d4.out];refine yG 0 ?_;refine yG 1 ?_;refine yG 2 ?_;refine yG 3 ?_;refine kQ 4 ?_;refine yG 5 ?_;refine yG 6 ?_;refine yG 7 ?_;refine oneG (i:=8) (by kernel_rfl) rfl (fun K hK=>?_);go_simp;have H0:=heap_alloc_new w5 (.cells #[.int .u8 (97+(a:Int))] 5);have H7:=Ga w5 (.cells #[.int .u8 (97+(a:Int))] 5) none;obtain⟨g6,H6⟩:=Nm w5.heap.size;obtain⟨w6,b2⟩:=Nm (w5.alloc (.cells #[.int .u8 (97+(a:Int))] 5));rw[<-H6]at H0⊢;rw[<-b2]at H0 H7⊢;have d1:=zJ H0 0;simp only[List.getElem_toArray,List.getElem_cons_zero]at d1;have d8:=Kh (zX c0.out H7 (by simp));have c2:=Kh (zA c3.out H7);have C6:=Kh (vJ C.out H7);refine hK.out _ _ ⟨trivial,fun _=>C6.out⟩ ?_;clear hK K H0 H7 H6 b2 c0 c3 C
   try simp only[Act.put,sPa,sPb,sPc]
   refine oneG (i:=9) (by kernel_rfl) rfl (fun K hK=>?_);go_simp;refine hK.out _ _ ⟨trivial,fun _=>C6.out⟩ ?_;clear hK K
   try simp only[Act.put,sPa,sPb,sPc]
   refine oneG (i:=10) (by kernel_rfl) rfl (fun K hK=>?_);go_simp;refine hK.out _ _ ⟨trivial,fun h=>by simp at h⟩ ?_;clear hK K
   try simp only[Act.put,sPa,sPb,sPc]
   refine oneG (i:=11) (by kernel_rfl) rfl (fun K hK=>?_);go_simp;have H0:=heap_alloc_new w6 (.cells #[.string (X++Y)] 9);have a5:=Ga w6 (.cells #[.string (X++Y)] 9) none;have a3:=zX d8.out a5 (by simp);refine hK.out _ _ ⟨trivial,fun h=>by simp at h⟩ ?_;clear hK K
   try simp only[Act.put,sPa,sPb,sPc]
   have c8:P<=w6.heap.size:=by have:=c2.out.size;have:=b0.out;omega
   refine oneG (i:=12) (by kernel_rfl) rfl (fun K hK=>?_);refine qLU rfl (.tmp 34) (.tmp 45) 46 rfl tI P _ _ _ rfl a3 _ _ _ rfl H0 rfl ?g1 ?g2 ?g3 ?_
   case g1=>unfold maxLen;omega
   case g2=>omega
   case g3=>rw[zL];omega
   intro sa' sc' w8 h8 b6;refine hK.out _ _ ⟨trivial,fun h=>by simp at h⟩ ?_;clear hK K
   try simp only[Act.put,sPa,sPb,sPc]
   refine oneG (i:=13) (by kernel_rfl) rfl (fun K hK=>?_);go_simp;refine hK.out _ _ ⟨trivial,fun h=>by simp at h⟩ ?_;clear hK K
   try simp only[Act.put,sPa,sPb,sPc]
   refine nO (by kernel_rfl) ?_ _;refine NoPanic.normal ?_;have d7:=Kh h8;have e2:=Kh (zA (zA c2.out a5) b6 (fun k e=>by have:=(a3.lt k e).1;have:=b0.out;omega));clear h8 b6 a5 a3 H0;go_wp2;go_roundg (letters-(a+1))
   case measure=>have:=c4.out;omega
   refine⟨a+1,sa',sc',by omega,by go_num,by rw[Nat.add_assoc],Kh ?_,e2.out⟩;rw[d6.out a ha,tY,<-Nat.add_assoc];have e9:strs [u++[97+(a:Int)]]=[.string (X++Y)]:=by rw[d3.out];rfl
   rw[e9];exact d7.out
  have d2:a=letters:=by have:=c4.out;omega
  subst d2;have b4:(block a u 0).take a=block a u 0:=List.take_of_length_le (by rw[sJ];exact Nat.le_refl _);rw[b4,<-c1.out]at h7;have e0:Hid (L+a=(grown a n (i+1)).length):=Kh (by rw[c1.out,List.length_append,sJ,<-hL.out]);clear b4 h2;go_wp2;go_roundg (V.length-(i+1))
  case measure=>have:=a1.out;omega
  exact⟨i+1,L+a,some ⟨kb,0,none⟩,sd,by have:=a1.out;omega,by go_num,rfl,e0,h7,H3.out⟩
 ·
  have H1:grown letters n i=V:=by rw[qFG (by rw[<-h3.out];exact hiU),H2.out]
  rw[H1]at hL h0;have d9:=hL;by_cases b5:i<L
  ·have H4:(i:Int)<L:=by omega
   obtain⟨kb,rfl,d0,H8,h4⟩:=yH h0.out (by omega);have a4:i<V.length:=(by rw[<-hL.out];exact b5);have h2:=qDC h4 i a4
   have h9:(V[i]).length=n:=by
    have:=qOQ (letters:=letters) (n:=n) (i:=i) (by rw[<-h3.out];exact hiU) (by rw[<-H2.out];exact a4);have e:V[i]=(upTo letters (n+1))[i]'(by rw[<-H2.out];exact a4):=by congr 1
    rw[e];exact this
   obtain⟨X,hX⟩:=Nm (strOfNums V[i]);have c6:¬(X.size:Int)<n:=(by rw[hX,strOfNums_size,h9];omega);rw[<-hX]at h2;have a6:sc<=9223372036854775807:=by unfold maxLen at H8;omega
   have e5:(0:Int)<letters:=(by omega);have c5:Hid (grown letters n (i+1)=V):=Kh (by rw[qFG (by rw[<-h3.out];omega),H2.out]);clear h4 H8 hX h9 H1;obtain⟨wo,rfl⟩:=Nm (wr:World);go_wp2
   go_loopg [5,7] 0 (fun gh lv av wq=>lv=.slice (some ⟨kb,0,none⟩) L sc/\av=.int .i64 0/\wq=wo)
   case atStart=>exact⟨rfl,rfl,rfl⟩
   obtain⟨rfl,rfl,rfl⟩:=hrel;go_wp2;go_roundg (V.length-(i+1))
   case measure=>have:=a1.out;omega
   exact⟨i+1,L,some ⟨kb,0,none⟩,sc,by have:=a1.out;have:=hL.out;omega,by go_num,rfl,by rw[c5.out];exact d9,by rw[c5.out];exact h0,a0.out⟩
  have H4:¬(i:Int)<L:=by omega
  clear H1;go_wp2;go_ret;exact⟨sa,sc,by rw[<-H2.out,<-hL.out];rfl,by rw[<-H2.out,<-hL.out];exact RowT.of_owns h0.out,a0.out⟩
def allC (ws:List (List Int)):Nat->List (List (List Int))
 | 0=>[]
 | i+1=>allC ws i++exts (chB ws i) ws
theorem qCL (ws:List (List Int)):∀i,chL ws i=ws.map oneB++allC ws i
 | 0=>by simp[chL,allC]
 | i+1=>by rw[chL,qCL ws i,allC,List.append_assoc]
theorem qLG (ws:List (List Int))(i:Nat):∀d,allC ws i <+: allC ws (i+d)
 | 0=>List.prefix_refl _
 | d+1=>(qLG ws i d).trans (List.prefix_append _ _)
theorem qTO (ws:List (List Int)){i j:Nat}(h:i<=j):allC ws i <+: allC ws j:=by
 obtain⟨d,rfl⟩:∃d,j=i+d:=⟨j-i,by omega⟩;exact qLG ws i d
theorem qVH (ws:List (List Int)){n m p:Nat}(hn:n<=m)(hp:p<(chB ws n).length)(r:Nat):allC ws n++exts ((chB ws n).take p) ws++(ws.take r).map (fun u=>(chB ws n)[p]++[u]) <+: allC ws (m+1):=by
 refine List.IsPrefix.trans ?_ (qTO ws (show n+1<=m+1 by omega));rw[allC,List.append_assoc];exact List.prefix_append_right_inj _ |>.2 (cK hp r)
theorem qGN {α:Type}{a b:List α}(h:a <+: b){n:Nat}(hn:a.length=n):a=b.take n:=by rw[<-hn];exact List.prefix_iff_eq_take.1 h
theorem xAP {ws:List (List Int)}(hw:1<=ws.length){n:Nat}:(chB ws n).length<=ws.length+(allC ws n).length:=by
 cases n with
 | zero=>simp[chB,allC]
 | succ n =>
  rw[chB,allC,List.length_append,uO,uO,List.length_drop];have:=Nat.mul_le_mul_left (chB ws n).length (show ws.length-1<=ws.length by omega);omega
theorem qYR (l:List Int):(strOfNums l).toList.isEmpty=l.isEmpty:=by
 rw[ByteArray.toList_eq,strOfNums_data,Bool.eq_iff_iff,List.isEmpty_iff,List.isEmpty_iff,List.map_eq_nil_iff]
def rO (ws:List (List Int))(r:Nat):List (List Int):=(ws.take r).drop 1
theorem qLS (ws:List (List Int)):rO ws 1=[]:=by cases ws<;>simp[rO]
theorem eO (ws:List (List Int)):rO ws 0=[]:=by simp[rO]
theorem qGP {ws:List (List Int)}{r:Nat}(h1:1<=r)(h:r<ws.length):rO ws (r+1)=rO ws r++[ws[r]]:=by
 rw[rO,List.take_succ_eq_append_getElem h,List.drop_append_of_le_length (by rw[List.length_take];omega)];rfl
theorem qLT (ws:List (List Int)):rO ws ws.length=ws.drop 1:=by rw[rO,List.take_length]
def nxP (b:Bool)(l:List (List (List Int))):List (List (List Int)):=if b then l else []
def opP (ws:List (List Int))(m n:Nat):List (List (List Int)):=if n<=m then chB ws n else []
theorem qGZ (B:Nat)(w:World)(v:Value)(ws:List (List Int))(m:Nat)(hB:B<=w.heap.size)(h:RowT B 9 w v (strs ws))(a5:m<=4)(a7:2<=ws.length)(a6:ws.length<=301)(a8:ws[0]=[])(a9:∀r (h:r<ws.length),1<=r->ws[r]≠[]):Calls Tryz.prog 31 #[v,.int .i64 m] w (uG w ((allC ws (m+1)).take 301)):=by
 obtain⟨va,sc,rfl⟩:=h.row.shape;rw[xC]at h⊢;obtain⟨b,off,rfl,n6,k2⟩:=qI h (by omega);have n5:sc<=9223372036854775807:=by unfold maxLen at k2;omega
 have n8:=Kh h
 have m5:Hid (∀r (h:r<ws.length),(strOfNums ws[r]).toList.isEmpty=decide (r=0)):=Kh (fun r h=>by
  rw[qYR];by_cases h0:r=0
  ·subst h0;rw[a8];rfl
  rw[decide_eq_false h0,List.isEmpty_eq_false_iff];exact a9 r h (by omega))
 obtain⟨ba,f8⟩:=Nm w.heap.size;have n1:=Kh f8;have m1:w.heap.size<=ba:=by omega
 have m4:B<=ba:=by omega
 obtain⟨w1,f6⟩:=Nm (w.alloc (.cells #[] 46));have f7:w.grownBy w1 none:=by rw[f6];exact Ga w _ none
 have i1:=heap_alloc_new w (.cells #[] 46);rw[<-f6,<-f8]at i1;have l2:Hid (LUp 46 ba w1 (.slice (some ⟨ba,0,none⟩) 0 0) 0 [] []):=Kh ⟨qR i1 (Nat.le_refl _),wO.nil,by decide⟩;have m6:=Kh f6;have k4:=h.kept f7 (by simp);have c0:ba<=w1.heap.size:=by rw[f8];exact f7.size
 clear h k2 a8 a9 f8 f6 i1;go_enter Tryz.func31,Tryz.ntmps31;go_upto_region 3 with fail;rw[<-m6.out,<-n1.out];go_wp2
 go_loopw [6,18] (fun v i wr=>∃(sb:Option Addr) (cb j:Nat) (svb:List Value),i=.int .i64 j/\j<=ws.length/\v=.slice sb j cb /\
   LUp 46 ba wr (.slice sb j cb) j svb ((ws.take j).map oneB)/\RowT B 9 wr (.slice (some ⟨b,off,none⟩) ws.length sc) (strs ws)/\w.grownBy wr none/\ba<=wr.heap.size)
  (fun _ i _=>ws.length-(intOf i).toNat)
 case atStart=>exact⟨_,_,0,_,rfl,Nat.zero_le _,rfl,by simpa using l2.out,k4,f7,c0⟩
 clear l2 k4 f7 c0;obtain⟨sb,cb,j,svb,rfl,hj,rfl,j7,hT,hg,c0⟩:=hrel;obtain⟨wo,rfl⟩:=Nm (wr:World);have d9:=Kh j7;clear j7;by_cases hlt:j<ws.length
 ·have g5:(j:Int)<ws.length:=by omega
  have h9:=uR hT hlt;obtain⟨u,c6⟩:=Nm (ws[j]);have HU:=Kh c6;rw[<-c6]at h9;clear c6;have g6:=Ga wo (.cells #[.string (strOfNums u)] 9) none;have j5:=(d9.out.kept g6 (by simp)).own;have e4:=World.ownsRow_lit (e:=9) (size:=1) wo #[.string (strOfNums u)] 1 (Nat.le_refl _) (by unfold maxLen;omega) (by simp);go_wp2_with (at_builtin;refine app1 rfl (.tmp 22) (.tmp 25) _ rfl lA ba _ j svb rfl j5 _ (by rw[zL];rfl) rfl ?c1 ?c2 ?c3 ?_)
  case c1=>unfold maxLen;omega
  case c2=>omega
  case c3=>(try rw[zL]);omega
  intro sb' cb' w4 h7 e6 _;obtain⟨j4,d1⟩:=d9.out.push (us:=oneB u) g6 e4 h7 e6;have i4:=fun q (e:(Value.slice sb j cb).ownBlock=some q)=>(d9.out.own.lt q e).1;have m3:=hT.kept d1 (fun q e=>.inl (by have:=i4 q e;omega));have b5:=zA hg d1 (fun q e=>by have:=i4 q e;omega);have n3:=d1.size;have m8:=Kh j4;clear h7 e6 d1 j5 h9 j4 hT g6 e4 i4;go_wp2;go_roundw
  case rel =>
   refine⟨sb',cb',j+1,svb++[Value.slice (some ⟨wo.heap.size,0,none⟩) 1 1],by go_num,by omega,rfl,?_,m3,b5,by omega⟩;have e9:ws[j]'hlt=u:=HU.out.symm;rw[xQ oneB _ j hlt,e9];exact m8.out
  simp[intOf];omega
 obtain rfl:j=ws.length:=by omega
 rw[List.take_length]at d9;clear hlt;have e0:Hid (LRead wo.heap.size wo (.slice sb ws.length cb) svb (opP ws m 0)):=Kh (by rw[opP,if_pos (Nat.zero_le _)];exact LRead.of d9.out);have l0:Hid (ws.length=(opP ws m 0).length):=Kh (by rw[opP,if_pos (Nat.zero_le _)];simp[chB]);have h6:Hid (LUp 65 ba wo (.slice none 0 0) 0 [] (allC ws 0)):=Kh (LUp.nil (by decide) _ _);clear d9;go_wp2
 go_loopg [5,6,9,10] (m+1) (fun gh v5 v6 i v10 wx=>∃(q n nb:Nat) (sl:Option Addr) (c:Nat) (svs:List Value) (sb:Option Addr) (cb:Nat) (svb:List Value),gh+q=m+1/\i=.int .i64 (q:Int)/\v5=.slice sl n c/\v6=.slice sb nb cb /\
   LUp 65 ba wx (.slice sl n c) n svs (allC ws q)/\Hid (n<=301)/\LRead wx.heap.size wx (.slice sb nb cb) svb (opP ws m q)/\Hid (nb=(opP ws m q).length)/\RowT B 9 wx (.slice (some ⟨b,off,none⟩) ws.length sc) (strs ws)/\w.grownBy wx none/\ba<=wx.heap.size)
 case atStart=>exact⟨0,0,_,none,0,[],sb,cb,svb,rfl,rfl,rfl,rfl,h6.out,Kh (by omega),e0.out,l0,hT,hg,c0⟩
 clear h6 e0 l0 hT hg c0 hj;obtain⟨q,n,nb,sl,c,svs,sb,cb,svb,j8,rfl,rfl,rfl,b3,H4,H0,d7,hT,hg,c0⟩:=hrel;obtain⟨wo,rfl⟩:=Nm (wr:World);obtain⟨j0,h6,H5⟩:=K3 j8 b3 H0;clear j8 b3 H0;by_cases hq:q<=m
 ·have l5:(q:Int)<=(m:Int):=by omega
  have k5:opP ws m q=chB ws q:=by rw[opP,if_pos hq]
  rw[k5]at H5 d7;have g4:1<=nb:=by rw[d7.out];exact qIK a7 q
  have b2:=H4.out;have d6:=h6.out.len
  have l6:nb<=700:=by
   have:=xAP (ws:=ws) (by omega) (n:=q);rw[d7.out];omega
  have f4:Hid (∀bb∈chB ws q,bb.length=q+1):=Kh (fun bb h=>jF q h);have k8:Hid (∀p (hp:p<(chB ws q).length) r,allC ws q++exts ((chB ws q).take p) ws++(ws.take r).map (fun u=>(chB ws q)[p]++[u]) <+: allC ws (m+1)):=Kh (fun p hp r=>qVH ws hq hp r)
  have f5:Hid (allC ws (q+1)=allC ws q++exts (chB ws q) ws/\opP ws m (q+1)=nxP (decide (q<m)) (exts (chB ws q) (ws.drop 1))):=Kh ⟨rfl,by
   by_cases e2:q<m
   ·rw[opP,if_pos (by omega),decide_eq_true e2];rfl
   rw[opP,if_neg (by omega),decide_eq_false e2];rfl⟩
  obtain⟨Bs,g0⟩:=Nm (chB ws q);obtain⟨L0,i5⟩:=Nm (allC ws q);obtain⟨FU,f9⟩:=Nm (allC ws (m+1));rw[<-g0]at H5 f4 f5 d7;rw[<-i5]at h6 f5
  have i6:Hid (∀p (hp:p<Bs.length) r,L0++exts (Bs.take p) ws++(ws.take r).map (fun u=>Bs[p]++[u]) <+: FU):=Kh (by
   intro p hp r;have:=k8.out p (by rw[<-g0];exact hp) r;simp only[<-g0,<-i5,<-f9]at this
   exact this)
  rw[<-f9];have o0:=Kh f9;clear k8 g0 i5 f9 k5 H4 d6;obtain⟨nq,d6⟩:=Nm (decide (q<m));rw[<-d6]at f5;have e2:decide ((q:Int)<(m:Int))=nq:=by rw[d6];exact decide_eq_decide.2 (by omega)
  have n9:=Kh d6;clear d6;obtain⟨bb,bo,rfl,m0,f0⟩:=qDN H5.out.row g4;have l9:cb<=9223372036854775807:=by unfold maxLen at f0;omega
  have d5:=d7;obtain⟨BB,d4⟩:=Nm wo.heap.size;have n7:ba<=BB:=by rw[d4];exact c0
  have d3:BB<=wo.heap.size:=by omega
  rw[<-d4]at H5
  have k9:Hid (LUp 46 BB wo (.slice none 0 0) 0 [] (nxP nq (exts (Bs.take 0) (ws.drop 1)))):=Kh (by
   have:nxP nq (exts (Bs.take 0) (ws.drop 1))=[]:=by cases nq<;>simp[nxP,exts]
   rw[this];exact LUp.nil (by decide) _ _)
  have l1:=Kh b2;clear d4 f0 d7 c0 b2;go_wp2
  go_loopw [5,10,35] (fun v5 v10 i wx=>∃(p n nl:Nat) (sl:Option Addr) (c:Nat) (svs:List Value) (sg:Option Addr) (cg:Nat) (svg:List Value),i=.int .i64 p/\p<=nb/\v5=.slice sl n c/\v10=.slice sg nl cg /\
    LUp 65 ba wx (.slice sl n c) n svs (L0++exts (Bs.take p) ws)/\LUp 46 BB wx (.slice sg nl cg) nl svg (nxP nq (exts (Bs.take p) (ws.drop 1)))/\Hid (n<=301)/\LRead BB wx (.slice (some ⟨bb,bo,none⟩) nb cb) svb Bs/\RowT B 9 wx (.slice (some ⟨b,off,none⟩) ws.length sc) (strs ws)/\w.grownBy wx none/\BB<=wx.heap.size)
   (fun _ _ i _=>nb-(intOf i).toNat)
  case atStart=>exact⟨0,n,0,sl,c,svs,none,0,[],rfl,Nat.zero_le _,rfl,rfl,by simpa [exts] using h6.out,k9.out,l1,H5.out,hT,hg,d3⟩
  clear h6 k9 H5 hT hg d3 l1;obtain⟨p,n,nl,sl,c,svs,sg,cg,svg,rfl,hp,rfl,rfl,b3,d8,b2,H0,hT,hg,d3⟩:=hrel;obtain⟨wo,rfl⟩:=Nm (wr:World);obtain⟨h6,b0,H5⟩:=K3 b3 d8 H0;clear b3 d8 H0;by_cases hlt:p<nb
  ·have g5:(p:Int)<(nb:Int):=by omega
   have e3:p<Bs.length:=(by rw[<-d5.out];exact hlt);obtain⟨ra,rc,i2,a0⟩:=H5.out.at d5.out hlt;have j6:=f4.out _ (List.getElem_mem e3);obtain⟨bl,i0⟩:=Nm (Bs[p]'e3);have e0:=Kh i0;rw[<-i0]at i2 a0 j6;obtain⟨bn,g9⟩:=Nm bl.length;rw[<-g9]at i2 a0;have l3:=Kh g9;have l8:bn<=100:=by omega
   have f3:Hid (∀x∈strs bl,x.oneCell'=true):=Kh (fun x hx=>by
    obtain⟨y,_,rfl⟩:=List.mem_map.1 hx;rfl)
   clear i0 g9 j6;go_wp2
   go_loopw [5,10,41] (fun v5 v10 i wx=>∃(r n nl:Nat) (sl:Option Addr) (c:Nat) (svs:List Value) (sg:Option Addr) (cg:Nat) (svg:List Value),i=.int .i64 r/\r<=ws.length/\v5=.slice sl n c/\v10=.slice sg nl cg /\
     LUp 65 ba wx (.slice sl n c) n svs (L0++exts (Bs.take p) ws++(ws.take r).map (fun u=>bl++[u]))/\LUp 46 BB wx (.slice sg nl cg) nl svg (nxP nq (exts (Bs.take p) (ws.drop 1)++(rO ws r).map (fun u=>bl++[u])))/\Hid (n<=301)/\LRead BB wx (.slice (some ⟨bb,bo,none⟩) nb cb) svb Bs/\RowT BB 9 wx (.slice ra bn rc) (strs bl)/\RowT B 9 wx (.slice (some ⟨b,off,none⟩) ws.length sc) (strs ws)/\w.grownBy wx none/\BB<=wx.heap.size)
    (fun _ _ i _=>ws.length-(intOf i).toNat)
   case atStart=>exact⟨0,n,nl,sl,c,svs,sg,cg,svg,rfl,Nat.zero_le _,rfl,rfl,by simpa using h6.out,by simpa [eO] using b0.out,b2,H5.out,a0,hT,hg,d3⟩
   clear h6 b0 H5 hT hg d3 a0 i2 b2;obtain⟨r,n,nl,sl,c,svs,sg,cg,svg,rfl,hr,rfl,rfl,b3,d8,b2,H0,a0,hT,hg,d3⟩:=hrel;obtain⟨wo,rfl⟩:=Nm (wr:World);obtain⟨h6,b0,H5⟩:=K3 b3 d8 H0;have H4:=b2.out
   have n4:nl<=1000:=by
    have h1:=d8.len;have h2:=b3.len
    have h3:(nxP nq (exts (Bs.take p) (ws.drop 1)++(rO ws r).map (fun u=>bl++[u]))).length<=(exts (Bs.take p) ws).length+r:=by
     cases nq with
     | false=>simp[nxP]
     | true =>
      show (exts (Bs.take p) (ws.drop 1)++(rO ws r).map (fun u=>bl++[u])).length<=_;have h4:(rO ws r).length<=r:=by rw[rO,List.length_drop,List.length_take];omega
      rw[List.length_append,List.length_map,uO,uO,List.length_drop];have:=Nat.mul_le_mul_left (Bs.take p).length (show ws.length-1<=ws.length by omega);omega
    simp only[List.length_append,List.length_map]at h2;omega
   clear b3 d8 H0;by_cases H0:r<ws.length
   ·have l7:(r:Int)<ws.length:=by omega
    have h9:=uR hT H0;have H3:=m5.out r H0;obtain⟨u,c6⟩:=Nm (ws[r]);have HU:=Kh c6;rw[<-c6]at h9 H3;clear c6;by_cases hfull:300<n
    ·have d2:(300:Int)<n:=by omega
     have hl:=h6.out.len;have c7:=i6.out p e3 r;rw[<-e0.out]at c7;have e1:=qGN c7 (n:=301) (by omega);have HL:=Kh hl;have j1:=Kh e1;clear e1 hl c7 H3;go_wp2;go_ret;rw[<-j1.out];exact⟨sl,c,svs,by rw[<-HL.out];rfl,by rw[<-HL.out];exact RowT.of_owns h6.out.own,h6.out.rows,hg⟩
    have d2:¬(300:Int)<n:=(by omega);have b4:=Ga wo (.cells #[] 9) none;have e8:=heap_alloc_new wo (.cells #[] 9);obtain⟨we,g2⟩:=Nm (wo.alloc (.cells #[] 9));have d0:=qR (base:=wo.heap.size) e8 (Nat.le_refl _);have H9:=a0.kept b4 (by simp);go_wp2_with (at_builtin;refine appR rfl (.tmp 50) (.tmp 51) _ rfl tI wo.heap.size _ 0 [] rfl d0 _ (strs bl) rfl ⟨_,H9.row⟩ f3.out bn ?a1 ?a2 ?a3 b4.size ?_)
    case a1=>rw[xC,<-l3.out]<;>omega
    case a2=>unfold maxLen;omega
    case a3=>omega
    intro s2 c2 w2 h5 e7
    try rw[List.nil_append]at h5
    have H2:=zA b4 e7 (fun q e=>(d0.lt q e).1);go_wp2_with (at_builtin;refine app1 rfl (.tmp 52) (.tmp 54) _ rfl tI wo.heap.size _ bn (strs bl) rfl h5 _ rfl rfl ?c1 ?c2 ?c3 ?_)
    case c1=>unfold maxLen;omega
    case c2=>omega
    case c3=>exact H2.size
    intro s4 c4 w4 h7 e6 _;have b7:=zA H2 e6 (fun q e=>(h5.lt q e).1);rw[eQ]at h7;clear b4 e8 d0 H9 h5 e7 H2 e6 g2 we;have k7:=h6.out.kept b7 (by simp);go_wp2_with (at_builtin;refine app1 rfl (.tmp 49) (.tmp 57) _ rfl qG ba _ n svs rfl k7.own _ rfl rfl ?c1 ?c2 ?c3 ?_)
    case c1=>unfold maxLen;omega
    case c2=>omega
    case c3=>have:=b7.size;omega
    intro sl5 c5 w5 b9 d1 _;obtain⟨j3,b5⟩:=h6.out.push (us:=bl++[u]) b7 h7 b9 d1;have k3:=fun q (e:(Value.slice sl n c).ownBlock=some q)=>(h6.out.own.lt q e).1;have b1:=zZ h6.out.own (e':=9) (by decide);have H6:=zZ h6.out.own (e':=46) (by decide);have f1:=hT.kept b5 (fun q e=>.inr (b1 q e));have H7:=a0.kept b5 (fun q e=>.inr (b1 q e));have a4:=Kh (H5.out.kept b5 (fun q e=>.inr ⟨H6 q e,b1 q e⟩));have h8:=Kh (b0.out.kept b5 (fun q e=>.inr ⟨b1 q e,H6 q e⟩));have e5:=zA hg b5 (fun q e=>by have:=k3 q e;omega);have n2:=b5.size
    have f2:Hid (LUp 65 ba w5 (.slice sl5 (n+1) c5) (n+1) (svs++[Value.slice s4 (bn+1) c4]) (L0++exts (Bs.take p) ws++(ws.take (r+1)).map (fun u=>bl++[u]))):=Kh (by
     have e9:ws[r]'H0=u:=HU.out.symm
     rw[xQ (fun u=>bl++[u]) _ r H0,e9,<-List.append_assoc];exact j3)
    have g1:Hid (n+1<=301):=Kh (by omega);clear h7 b9 b7 d1 b5 k7 h9 j3 hT a0 b1 H6 k3 h6 H5 b0 hg b2;cases nq with
    | false =>
     have g3:¬(q:Int)<(m:Int):=of_decide_eq_false e2;cases hdd:decide (r=0) with
     | true =>
      rw[hdd]at H3;go_wp2;go_roundw
      case rel =>
       exact⟨r+1,n+1,nl,sl5,c5,svs++[Value.slice s4 (bn+1) c4],sg,cg,svg,by go_num,by omega,rfl,rfl,f2.out,h8.out,g1,a4.out,H7,f1,e5,by omega⟩
      simp[intOf];omega
     | false =>
      rw[hdd]at H3;go_wp2;go_roundw
      case rel =>
       exact⟨r+1,n+1,nl,sl5,c5,svs++[Value.slice s4 (bn+1) c4],sg,cg,svg,by go_num,by omega,rfl,rfl,f2.out,h8.out,g1,a4.out,H7,f1,e5,by omega⟩
      simp[intOf];omega
    | true =>
     have g3:(q:Int)<(m:Int):=of_decide_eq_true e2;by_cases hr0:r=0
     ·have n0:Hid (nxP true (exts (Bs.take p) (ws.drop 1)++(rO ws (r+1)).map (fun u=>bl++[u]))=nxP true (exts (Bs.take p) (ws.drop 1)++(rO ws r).map (fun u=>bl++[u]))):=Kh (by rw[hr0,eO,qLS])
      rw[decide_eq_true hr0]at H3;go_wp2;go_roundw
      case rel =>
       exact⟨r+1,n+1,nl,sl5,c5,svs++[Value.slice s4 (bn+1) c4],sg,cg,svg,by go_num,by omega,rfl,rfl,f2.out,by rw[n0.out];exact h8.out,g1,a4.out,H7,f1,e5,by omega⟩
      simp[intOf];omega
     have k1:(strOfNums u).toList.isEmpty=false:=by rw[H3];exact decide_eq_false hr0
     clear H3;obtain⟨wo2,rfl⟩:=Nm (w5:World);have a0:=H7;have b4:=Ga wo2 (.cells #[] 9) none;have e8:=heap_alloc_new wo2 (.cells #[] 9);obtain⟨we,g2⟩:=Nm (wo2.alloc (.cells #[] 9));have d0:=qR (base:=wo2.heap.size) e8 (Nat.le_refl _);have H9:=a0.kept b4 (by simp);go_wp2_with (at_builtin;refine appR rfl (.tmp 67) (.tmp 68) _ rfl tI wo2.heap.size _ 0 [] rfl d0 _ (strs bl) rfl ⟨_,H9.row⟩ f3.out bn ?a1 ?a2 ?a3 b4.size ?_)
     case a1=>rw[xC,<-l3.out]<;>omega
     case a2=>unfold maxLen;omega
     case a3=>omega
     intro s2 c2 w2 h5 e7
     try rw[List.nil_append]at h5
     have H2:=zA b4 e7 (fun q e=>(d0.lt q e).1);go_wp2_with (at_builtin;refine app1 rfl (.tmp 69) (.tmp 71) _ rfl tI wo2.heap.size _ bn (strs bl) rfl h5 _ rfl rfl ?c1 ?c2 ?c3 ?_)
     case c1=>unfold maxLen;omega
     case c2=>omega
     case c3=>exact H2.size
     intro s8 c8 w8 H8 k0 _;have b6:=zA H2 k0 (fun q e=>(h5.lt q e).1);rw[eQ]at H8;clear b4 e8 d0 H9 h5 e7 H2 k0 g2 we;have k6:=h8.out.kept b6 (by simp);go_wp2_with (at_builtin;refine app1 rfl (.tmp 66) (.tmp 73) _ rfl lA BB _ nl svg rfl k6.own _ rfl rfl ?c1 ?c2 ?c3 ?_)
     case c1=>unfold maxLen;omega
     case c2=>omega
     case c3=>have:=b6.size;omega
     intro sg9 c9 w9 b8 j9 _;obtain⟨j2,H1⟩:=h8.out.push (us:=bl++[u]) b6 H8 b8 j9;have i3:=fun q (e:(Value.slice sg nl cg).ownBlock=some q)=>(h8.out.own.lt q e).1;have b1:=zZ h8.out.own (e':=9) (by decide);have H6:=zZ h8.out.own (e':=65) (by decide);have m2:=f1.kept H1 (fun q e=>.inr (b1 q e));have g8:=H7.kept H1 (fun q e=>.inr (b1 q e));have i8:=Kh (f2.out.kept H1 (fun q e=>.inr ⟨b1 q e,H6 q e⟩));have i7:=Kh (a4.out.kept H1 (fun q e=>.inl (by have:=i3 q e;omega)));have g7:=zA e5 H1 (fun q e=>by have:=i3 q e;omega);have l4:=H1.size
     have m7:Hid (LUp 46 BB w9 (.slice sg9 (nl+1) c9) (nl+1) (svg++[Value.slice s8 (bn+1) c8]) (nxP true (exts (Bs.take p) (ws.drop 1)++(rO ws (r+1)).map (fun u=>bl++[u])))):=Kh (by
      have e9:ws[r]'H0=u:=HU.out.symm
      rw[qGP (by omega) H0,e9,List.map_append,<-List.append_assoc];exact j2)
     clear H8 b8 b6 j9 H1 k6 j2 f1 H7 b1 H6 i3 h8 a4 f2 e5 a0;go_wp2;go_roundw
     case rel =>
      exact⟨r+1,n+1,nl+1,sl5,c5,svs++[Value.slice s4 (bn+1) c4],sg9,c9,svg++[Value.slice s8 (bn+1) c8],by go_num,by omega,rfl,rfl,i8.out,m7.out,g1,i7.out,g8,m2,g7,by omega⟩
     simp[intOf];omega
   obtain rfl:r=ws.length:=by omega
   rw[List.take_length,List.append_assoc,e0.out,<-mX e3]at h6;rw[qLT,e0.out,<-mX e3]at b0;go_wp2;go_roundw
   case rel=>exact⟨p+1,n,nl,sl,c,svs,sg,cg,svg,by go_num,by omega,rfl,rfl,h6.out,b0.out,b2,H5.out,hT,hg,d3⟩
   simp[intOf];omega
  obtain rfl:p=nb:=by omega
  rw[d5.out,List.take_length]at h6 b0;rw[<-f5.out.1]at h6;rw[<-f5.out.2]at b0;have i9:=Kh (LRead.of b0.out);have m9:=Kh b0.out.len;clear hlt;go_wp2;go_roundg (m+1-(q+1))
  case measure=>have:=j0.out;omega
  exact⟨q+1,n,nl,sl,c,svs,sg,cg,svg,by have:=j0.out;omega,by go_num,rfl,rfl,h6.out,b2,i9.out,m9,hT,hg,by omega⟩
 obtain rfl:q=m+1:=by have:=j0.out;omega
 have l5:¬((m+1:Nat):Int)<=(m:Int):=by omega
 have hl:=h6.out.len;have e1:(allC ws (m+1)).take 301=allC ws (m+1):=List.take_of_length_le (by rw[<-hl];exact H4.out);have j1:=Kh e1;clear e1;go_wp2;go_ret;rw[j1.out];exact⟨sl,c,svs,by rw[<-hl];rfl,by rw[<-hl];exact RowT.of_owns h6.out.own,h6.out.rows,hg⟩
def lexZ:List Int->List Int->Bool
 | _,[]=>false
 | [],_::_=>true
 | a::x,b::y=>decide (a<b) || (decide (a=b) && lexZ x y)
def qF (u v:List Int):Bool:=decide (u.length<v.length) || (decide (u.length=v.length) && lexZ u v)
theorem qAD:∀u v:List Int,u.length=v.length->u≠v->lexZ u v=true\/lexZ v u=true
 | [],[],_,h=>absurd rfl h
 | [],_::_,h,_=>by simp at h
 | _::_,[],h,_=>by simp at h
 | a::x,b::y,hl,hne=>by
  simp only[lexZ,Bool.or_eq_true,Bool.and_eq_true,decide_eq_true_eq]
  rcases Int.lt_trichotomy a b with h|h|h
  ·exact .inl (.inl h)
  ·subst h
   rcases qAD x y (by simpa using hl) (fun e=>hne (by rw[e])) with h|h
   ·exact .inl (.inr ⟨rfl,h⟩)
   ·exact .inr (.inr ⟨rfl,h⟩)
  ·exact .inr (.inl h)
theorem qAC:∀u v w:List Int,lexZ u v=true->lexZ v w=true->lexZ u w=true
 | _,[],_,h,_=>by cases ‹List Int› <;> simp[lexZ]at h
 | _,_::_,[],_,h=>by simp[lexZ]at h
 | [],_::_,_::_,_,_=>rfl
 | a::x,b::y,c::z,h1,h2=>by
  simp only[lexZ,Bool.or_eq_true,Bool.and_eq_true,decide_eq_true_eq]at h1 h2⊢
  rcases h1 with h1|⟨rfl,h1⟩
  ·rcases h2 with h2|⟨rfl,h2⟩
   ·exact .inl (by omega)
   ·exact .inl h1
  ·rcases h2 with h2|⟨rfl,h2⟩
   ·exact .inl h2
   ·exact .inr ⟨rfl,qAC x y z h1 h2⟩
theorem dU:∀u:List Int,lexZ u u=false
 | []=>rfl
 | a::x=>by simp[lexZ,dU x]
theorem pO (u:List Int):qF u u=false:=by simp[qF,dU]
theorem qHS {u v:List Int}(h:u≠v):qF u v=true\/qF v u=true:=by
 simp only[qF,Bool.or_eq_true,Bool.and_eq_true,decide_eq_true_eq];rcases Nat.lt_trichotomy u.length v.length with h1|h1|h1
 ·exact .inl (.inl h1)
 ·rcases qAD u v h1 h with h2|h2
  ·exact .inl (.inr ⟨h1,h2⟩)
  exact .inr (.inr ⟨h1.symm,h2⟩)
 exact .inr (.inl h1)
theorem qHR {u v w:List Int}(h1:qF u v=true)(h2:qF v w=true):qF u w=true:=by
 simp only[qF,Bool.or_eq_true,Bool.and_eq_true,decide_eq_true_eq]at h1 h2⊢;rcases h1 with h1|⟨e1,h1⟩
 ·rcases h2 with h2|⟨e2,h2⟩
  ·exact .inl (by omega)
  exact .inl (by omega)
 rcases h2 with h2|⟨e2,h2⟩
 ·exact .inl (by omega)
 exact .inr ⟨by omega,qAC u v w h1 h2⟩
def xH:List (List Int)->List (List Int)->Bool
 | [],_=>false
 | _::_,[]=>false
 | a::p,b::q=>qF a b || (decide (a=b) && xH p q)
def vQ (p q:List (List Int)):Bool:=decide (p.length<q.length) || (decide (p.length=q.length) && xH p q)
theorem iR:∀p q:List (List Int),p.length=q.length->p≠q->xH p q=true\/xH q p=true
 | [],[],_,h=>absurd rfl h
 | [],_::_,h,_=>by simp at h
 | _::_,[],h,_=>by simp at h
 | a::p,b::q,hl,hne=>by
  simp only[xH,Bool.or_eq_true,Bool.and_eq_true,decide_eq_true_eq]
  by_cases e:a=b
  ·subst e
   rcases iR p q (by simpa using hl) (fun e=>hne (by rw[e])) with h|h
   ·exact .inl (.inr ⟨rfl,h⟩)
   ·exact .inr (.inr ⟨rfl,h⟩)
  ·rcases qHS e with h|h
   ·exact .inl (.inl h)
   ·exact .inr (.inl h)
theorem iQ:∀p q r:List (List Int),xH p q=true->xH q r=true->xH p r=true
 | [],_,_,h,_=>by simp[xH]at h
 | _::_,[],_,h,_=>by simp[xH]at h
 | _::_,_::_,[],_,h=>by simp[xH]at h
 | a::p,b::q,c::r,h1,h2=>by
  simp only[xH,Bool.or_eq_true,Bool.and_eq_true,decide_eq_true_eq]at h1 h2⊢
  rcases h1 with h1|⟨rfl,h1⟩
  ·rcases h2 with h2|⟨rfl,h2⟩
   ·exact .inl (qHR h1 h2)
   ·exact .inl h1
  ·rcases h2 with h2|⟨rfl,h2⟩
   ·exact .inl h2
   ·exact .inr ⟨rfl,iQ p q r h1 h2⟩
theorem kL:∀p:List (List Int),xH p p=false
 | []=>rfl
 | a::p=>by simp[xH,pO,kL p]
theorem pQ (p:List (List Int)):vQ p p=false:=by simp[vQ,kL]
theorem qHT {p q:List (List Int)}(h:p≠q):vQ p q=true\/vQ q p=true:=by
 simp only[vQ,Bool.or_eq_true,Bool.and_eq_true,decide_eq_true_eq];rcases Nat.lt_trichotomy p.length q.length with h1|h1|h1
 ·exact .inl (.inl h1)
 ·rcases iR p q h1 h with h2|h2
  ·exact .inl (.inr ⟨h1,h2⟩)
  exact .inr (.inr ⟨h1.symm,h2⟩)
 exact .inr (.inl h1)
theorem dV {p q r:List (List Int)}(h1:vQ p q=true)(h2:vQ q r=true):vQ p r=true:=by
 simp only[vQ,Bool.or_eq_true,Bool.and_eq_true,decide_eq_true_eq]at h1 h2⊢;rcases h1 with h1|⟨e1,h1⟩
 ·rcases h2 with h2|⟨e2,h2⟩
  ·exact .inl (by omega)
  exact .inl (by omega)
 rcases h2 with h2|⟨e2,h2⟩
 ·exact .inl (by omega)
 exact .inr ⟨by omega,iQ p q r h1 h2⟩
theorem qHU {p q:List (List Int)}(h:vQ p q=true):vQ q p=false:=by
 cases e:vQ q p with
 | false=>rfl
 | true=>have:=dV h e;rw[pQ]at this;cases this
theorem qEW:∀ {l m:List (List (List Int))},l.Pairwise (fun a b=>vQ a b=true)->m.Pairwise (fun a b=>vQ a b=true)->(∀a,a∈l↔a∈m)->l=m
 | [],[],_,_,_=>rfl
 | [],b::m,_,_,h=>by have:=(h b).2 (by simp);simp at this
 | a::l,[],_,_,h=>by have:=(h a).1 (by simp);simp at this
 | a::l,b::m,hl,hm,h=>by
  have hl':=List.pairwise_cons.1 hl
  have hm':=List.pairwise_cons.1 hm
  have e:a=b:=by
   rcases List.mem_cons.1 ((h a).1 (by simp)) with h1|h1
   ·exact h1
   ·rcases List.mem_cons.1 ((h b).2 (by simp)) with h2|h2
    ·exact h2.symm
    ·have h3:=hl'.1 b h2
     have h4:=qHU (hm'.1 a h1);rw[h3]at h4;cases h4
  subst e;congr 1;refine qEW hl'.2 hm'.2 fun c=>?_;constructor
  ·intro hc
   have h1:=hl'.1 c hc;rcases List.mem_cons.1 ((h c).1 (List.mem_cons_of_mem _ hc)) with e|e
   ·rw[e,pQ]at h1;cases h1
   ·exact e
  ·intro hc
   have h1:=hm'.1 c hc;rcases List.mem_cons.1 ((h c).2 (List.mem_cons_of_mem _ hc)) with e|e
   ·rw[e,pQ]at h1;cases h1
   ·exact e
def okW (u:List Int):Prop:=∀x∈u,qBM 6 x
theorem xBC {a b:Int}(ha:qBM 6 a)(hb:qBM 6 b):(UInt8.ofNat a.toNat<UInt8.ofNat b.toNat↔a<b)/\(UInt8.ofNat a.toNat=UInt8.ofNat b.toNat↔a=b):=by
 obtain⟨a1,a2⟩:=ha;obtain⟨b1,b2⟩:=hb;have e1:(UInt8.ofNat a.toNat).toNat=a.toNat:=by rw[UInt8.toNat_ofNat'];omega
 have e2:(UInt8.ofNat b.toNat).toNat=b.toNat:=by rw[UInt8.toNat_ofNat'];omega
 refine⟨by rw[UInt8.lt_iff_toNat_lt,e1,e2];omega,⟨fun h=>?_,fun h=>by rw[h]⟩⟩;have:=congrArg UInt8.toNat h;rw[e1,e2]at this;omega
theorem qGA:∀u v:List Int,okW u->okW v->Op.bytesLess ((u.map fun n=>UInt8.ofNat n.toNat)) ((v.map fun n=>UInt8.ofNat n.toNat))=lexZ u v
 | [],[],_,_=>rfl
 | [],_::_,_,_=>rfl
 | _::_,[],_,_=>rfl
 | a::x,b::y,hu,hv=>by
  have ih:=qGA x y (fun c hc=>hu c (by simp[hc])) (fun c hc=>hv c (by simp[hc]))
  obtain⟨h1,h2⟩:=xBC (hu a (by simp)) (hv b (by simp))
  simp only[List.map_cons,Op.bytesLess,lexZ]
  rw[ih,decide_eq_decide.2 h1]
  congr 1
  congr 1
  rw[Bool.eq_iff_iff,beq_iff_eq,decide_eq_true_eq];exact h2
theorem qLC:∀u v:List Int,okW u->okW v->((u.map fun n=>UInt8.ofNat n.toNat)=(v.map fun n=>UInt8.ofNat n.toNat)↔u=v)
 | [],[],_,_=>by simp
 | [],_::_,_,_=>by simp
 | _::_,[],_,_=>by simp
 | a::x,b::y,hu,hv=>by
  have ih:=qLC x y (fun c hc=>hu c (by simp[hc])) (fun c hc=>hv c (by simp[hc]))
  obtain⟨_,h2⟩:=xBC (hu a (by simp)) (hv b (by simp))
  simp only[List.map_cons,List.cons.injEq]
  rw[h2,ih]
def cmpI (u v:List Int):Int:=if qF u v then -1 else if u=v then 0 else 1
theorem qIF (u v:List Int)(w:World)(hu:u.length<=1000)(hv:v.length<=1000)(ou:okW u)(ov:okW v):Calls Tryz.prog 57 #[.string (strOfNums u),.string (strOfNums v)] w fun e w'=>e=.returned (.int .i64 (cmpI u v))/\w=w':=by
 have h1:=strOfNums_size u;have h2:=strOfNums_size v;have hb:Op.bytesLess (strOfNums u).toList (strOfNums v).toList=lexZ u v:=by rw[ByteArray.toList_eq,ByteArray.toList_eq,strOfNums_data,strOfNums_data];exact qGA u v ou ov
 have he:((strOfNums u).toList == (strOfNums v).toList)=decide (u=v):=by
  rw[ByteArray.toList_eq,ByteArray.toList_eq,strOfNums_data,strOfNums_data,Bool.eq_iff_iff,beq_iff_eq,decide_eq_true_eq];exact qLC u v ou ov
 obtain⟨lb,h3⟩:=Nm (lexZ u v);obtain⟨eb,h0⟩:=Nm (decide (u=v))
 have HC:Hid (cmpI u v=if decide (u.length<v.length) || (decide (u.length=v.length) && lb) then -1 else if eb then 0 else 1):=Kh (by
  rw[cmpI,qF,h3,h0];simp)
 rw[<-h3]at hb;rw[<-h0]at he;have h5:Hid (eb=true->u.length=v.length):=Kh (fun h=>by rw[h0,decide_eq_true_eq]at h;rw[h]);clear h3 h0;by_cases hlt:u.length<v.length
 ·go_enter Tryz.func57,Tryz.ntmps57
  go_wp2;go_ret;exact⟨yA (by rw[HC.out];simp[hlt]),rfl⟩
 by_cases heq:u.length=v.length
 ·cases lb<;>cases eb
  all_goals
   go_enter Tryz.func57,Tryz.ntmps57;go_wp2;go_ret;exact⟨yA (by rw[HC.out];simp[heq]),rfl⟩
 have h4:eb=false:=by
  cases eb with
  | false=>rfl
  | true=>exact absurd (h5.out rfl) heq
 subst h4;go_enter Tryz.func57,Tryz.ntmps57;go_wp2;go_ret;exact⟨yA (by rw[HC.out];simp[hlt,heq]),rfl⟩
theorem qXX {p q:List (List Int)}{k:Nat}(hp:k<p.length)(hq:k<q.length):xH (p.drop k) (q.drop k)=(qF p[k] q[k] || (decide (p[k]=q[k]) && xH (p.drop (k+1)) (q.drop (k+1)))):=by
 rw[List.drop_eq_getElem_cons hp,List.drop_eq_getElem_cons hq];rfl
theorem qNT (u v:List Int):(cmpI u v = -1/\qF u v=true)\/(cmpI u v=0/\u=v/\qF u v=false)\/(cmpI u v=1/\qF u v=false/\u≠v):=by
 unfold cmpI;cases h:qF u v with
 | true=>exact .inl ⟨by simp,rfl⟩
 | false =>
  by_cases e:u=v
  ·exact .inr (.inl ⟨by simp[e],e,rfl⟩)
  exact .inr (.inr ⟨by simp[e],rfl,e⟩)
theorem qDM {b off:Nat}{w:World}{ls:List (List Int)}(a9:uQ w b off (strs ls)){i:Nat}(hi:i<ls.length):w.cell? ⟨b,off+i,none⟩=some (.string (strOfNums ls[i])):=a9.map i hi
theorem qWQ (B1 B2:Nat)(w:World)(v1 v2:Value)(p q:List (List Int))(h1:Row B1 w v1 (strs p))(h2:Row B2 w v2 (strs q))(hp:∀u∈p,okW u/\u.length<=8)(hq:∀u∈q,okW u/\u.length<=8)(a8:p.length<=100)(a9:q.length<=100):Calls Tryz.prog 32 #[.agg #[v1],.agg #[v2]] w fun e w'=>e=.returned (.bool (vQ p q))/\w.grownBy w' none:=by
 obtain⟨H1,H2,HP,HQ⟩:=K4 h1 h2 hp hq;obtain⟨a1,c1,rfl⟩:=h1.shape;obtain⟨a2,c2,rfl⟩:=h2.shape;rw[xC]at H1 H2⊢;rw[xC];clear h1 h2 hp hq;obtain⟨P,hP⟩:=Nm w.heap.size;obtain⟨wA,h8⟩:=Nm ((w.alloc (.cells #[.slice a1 p.length c1] 65)).alloc (.cells #[.slice a2 q.length c2] 65));have b1:=zB (heap_alloc_new w (.cells #[.slice a1 p.length c1] 65)) (Ga _ (.cells #[.slice a2 q.length c2] 65) none);have b2:=heap_alloc_new (w.alloc (.cells #[.slice a1 p.length c1] 65)) (.cells #[.slice a2 q.length c2] 65);rw[zL]at b2;rw[<-h8,<-hP]at b1 b2;have H3:w.grownBy wA none:=by rw[h8];exact vC (Ga w _ none) _
 obtain⟨h3,H6,H7,a0,H9⟩:=K5 H3 h8 hP b1 b2;clear H3 h8 hP b1 b2;go_enter Tryz.func32,Tryz.ntmps32;go_upto_region 1 with fail;rw[<-H6.out,<-H7.out];have k1:=zJ a0.out 0;have k2:=zJ H9.out 0;simp only[List.getElem_toArray,List.getElem_cons_zero]at k1 k2;by_cases hl:p.length=q.length
 ·have H4:((p.length:Int) != (q.length:Int))=false:=by rw[hl];simp
  go_wp2
  go_loopg [24] p.length (fun gh i wr=>∃(k m:Nat),gh+k=p.length/\i=.int .i64 (k:Int)/\Hid (vQ p q=xH (p.drop k) (q.drop k))/\wr=wA.drewN m)
  case atStart=>exact⟨0,0,rfl,rfl,Kh (by simp[vQ,hl]),rfl⟩
  obtain⟨k,m,H0,rfl,h7,rfl⟩:=hrel;have H8:=Kh H0;clear H0;by_cases hk:k<p.length
  ·have a5:(k:Int)<p.length:=by omega
   have h9:k<q.length:=(by omega);have H5:(k:Int)<q.length:=(by omega);obtain⟨b1,o1,d1,e1,_,f1,g1,r1⟩:=(H1.out.kept h3.out (by simp)).some_ (by rw[xC];omega);obtain⟨b2,o2,d2,e2,_,f2,g2,r2⟩:=(H2.out.kept h3.out (by simp)).some_ (by rw[xC];omega);rw[xC]at e1 f1 e2 f2;simp only[Value.slice.injEq]at e1 e2;obtain⟨rfl,_,rfl⟩:=e1;obtain⟨rfl,_,rfl⟩:=e2;have x1:=qDM r1 hk;have x2:=qDM r2 h9;have a4:c1<=9223372036854775807:=by unfold maxLen at g1;omega
   have a3:c2<=9223372036854775807:=by unfold maxLen at g2;omega
   have hu:=HP.out _ (List.getElem_mem hk);have hv:=HQ.out _ (List.getElem_mem h9);have h0:=qXX hk h9;obtain⟨u,h6⟩:=Nm (p[k]);obtain⟨v,h5⟩:=Nm (q[k]);rw[<-h6]at x1 hu h0;rw[<-h5]at x2 hv h0;have h4:∀W:World,Hid (Calls Tryz.prog 57 #[.string (strOfNums u),.string (strOfNums v)] W fun e w'=>e=.returned (.int .i64 (cmpI u v))/\W=w'):=fun W=>Kh (qIF u v W (by omega) (by omega) hu.1 hv.1);rcases qNT u v with ⟨hc,hw⟩|⟨hc,he,hw⟩|⟨hc,hw,he⟩
   ·have HR:Hid (vQ p q=true):=Kh (by rw[h7.out,h0,hw];rfl)
    rw[hc]at h4;clear r1 r2 g1 g2 hu hv h0 h6 h5 hw hc;go_wp2
    go_quiet ((go_at_call 57;exact rI (h4 _).out))
    go_wp2;go_ret;exact⟨zW HR.out.symm,zA h3.out (zK wA _ none)⟩
   ·have HR:Hid (vQ p q=xH (p.drop (k+1)) (q.drop (k+1))):=Kh (by rw[h7.out,h0,hw,decide_eq_true he];rfl)
    rw[hc]at h4;clear r1 r2 g1 g2 hu hv h0 h6 h5 hw hc he;go_wp2
    go_quiet ((go_at_call 57;exact rI (h4 _).out))
    go_wp2;go_roundg (p.length-(k+1))
    case measure=>have:=H8.out;omega
    exact⟨k+1,_,by omega,by go_num,HR,rfl⟩
   have HR:Hid (vQ p q=false):=Kh (by rw[h7.out,h0,hw,decide_eq_false he];rfl);rw[hc]at h4;clear r1 r2 g1 g2 hu hv h0 h6 h5 hw hc he;go_wp2
   go_quiet ((go_at_call 57;exact rI (h4 _).out))
   go_wp2;go_ret;exact⟨zW HR.out.symm,zA h3.out (zK wA _ none)⟩
  have HR:Hid (vQ p q=false):=Kh (by rw[h7.out,List.drop_of_length_le (by omega)];rfl);go_wp2;go_ret;exact⟨zW HR.out.symm,zA h3.out (zK wA _ none)⟩
 have H4:((p.length:Int) != (q.length:Int))=true:=by rw[bne_iff_ne];omega
 have HR:Hid (vQ p q=decide (p.length<q.length)):=Kh (by
  rw[vQ,decide_eq_false hl,Bool.false_and,Bool.or_false])
 go_wp2;go_ret;exact⟨zW (by rw[HR.out]),h3.out⟩
end Go.Proofs.YtcoimliafiammaaGreat
namespace Go.Proofs.YtcoimliafiammaaGreat
theorem qEV:∀(w x y:List Int),lexZ (w++x) (w++y)=lexZ x y
 | [],_,_=>rfl
 | a::w,x,y=>by simp[lexZ,qEV w x y]
theorem qAE:∀(w v x y:List Int),w.length=v.length->lexZ w v=true->lexZ (w++x) (v++y)=true
 | [],[],_,_,_,h=>by simp[lexZ]at h
 | [],_::_,_,_,h,_=>by simp at h
 | _::_,[],_,_,h,_=>by simp at h
 | a::w,b::v,x,y,hl,h=>by
  simp only[List.cons_append,lexZ,Bool.or_eq_true,Bool.and_eq_true,decide_eq_true_eq]at h⊢
  rcases h with h|⟨rfl,h⟩
  ·exact .inl h
  ·exact .inr ⟨rfl,qAE w v x y (by simpa using hl) h⟩
theorem qGC (letters:Nat)(w:List Int):(block letters w 0).Pairwise (fun a b=>lexZ a b=true):=by
 rw[block,List.pairwise_map];refine List.Pairwise.imp ?_ (List.pairwise_lt_range' (s:=0) (n:=letters-0) (step:=1) );intro a b h;rw[qEV];simp[lexZ];omega
theorem dR {letters:Nat}{w x:List Int}(h:x∈block letters w 0):∃c:Int,x=w++[c]:=by
 obtain⟨c,_,rfl⟩:=List.mem_map.1 h;exact⟨_,rfl⟩
theorem qAB (letters:Nat):∀n,(lex letters n).Pairwise (fun a b=>lexZ a b=true)
 | 0=>by simp[lex]
 | n+1=>by
  rw[iF,List.pairwise_flatMap]
  refine⟨fun w _=>qGC letters w,?_⟩
  have ih:=qAB letters n
  refine List.Pairwise.imp_of_mem ?_ ih
  intro a b ha hb hab x hx y hy
  obtain⟨c,rfl⟩:=dR hx
  obtain⟨d,rfl⟩:=dR hy
  exact qAE a b [c] [d] (by rw[(rG ha).1,(rG hb).1]) hab
def fJ (l:List (List Int)):Prop:=l.Pairwise (fun a b=>qF a b=true)
def pE (l:List (List (List Int))):Prop:=l.Pairwise (fun a b=>vQ a b=true)
theorem kN (letters:Nat):∀n,fJ (upTo letters n)
 | 0=>by simp[upTo,fJ]
 | n+1=>by
  rw[xP,fJ,List.pairwise_append]
  refine⟨kN letters n,?_,fun a ha b hb=>?_⟩
  ·refine List.Pairwise.imp_of_mem ?_ (qAB letters n)
   intro a b ha hb h
   simp only[qF,Bool.or_eq_true,Bool.and_eq_true,decide_eq_true_eq]
   exact .inr ⟨by rw[(rG ha).1,(rG hb).1],h⟩
  ·simp only[qF,Bool.or_eq_true,decide_eq_true_eq]
   exact .inl (by rw[(rG hb).1];exact kO ha)
theorem eH (letters n:Nat):∃r,upTo letters (n+1)=[]::r/\∀u∈r,u≠[]:=by
 have e:=jM letters n;refine⟨_,e,fun u hu=>?_⟩;obtain⟨w,_,hx⟩:=List.mem_flatMap.1 hu;obtain⟨c,rfl⟩:=dR hx;simp
def mono (f:List Int->List (List Int)):Prop:=∀u v,qF u v=true->vQ (f u) (f v)=true
theorem fZ:mono oneB:=fun u v h=>by simp[vQ,oneB,xH,h]
theorem qWE:mono preB:=fun u v h=>by simp[vQ,preB,xH,h]
theorem qWD:mono sufB:=fun u v h=>by simp[vQ,sufB,xH,h,pO]
theorem qWF:mono facB:=fun u v h=>by simp[vQ,facB,xH,h,pO]
theorem qLD (w x y:List (List Int)):xH (w++x) (w++y)=xH x y:=by
 induction w with
 | nil=>rfl
 | cons a w ih=>simp[xH,pO,ih]
theorem bG:∀(w v x y:List (List Int)),w.length=v.length->xH w v=true->xH (w++x) (v++y)=true
 | [],_,_,_,_,h=>by simp[xH]at h
 | _::_,[],_,_,h,_=>by simp at h
 | a::w,b::v,x,y,hl,h=>by
  simp only[List.cons_append,xH,Bool.or_eq_true,Bool.and_eq_true,decide_eq_true_eq]at h⊢
  rcases h with h|⟨rfl,h⟩
  ·exact .inl h
  ·exact .inr ⟨rfl,bG w v x y (by simpa using hl) h⟩
theorem bF:∀u v:List Int,u.length=v.length->lexZ u v=true->xH (u.map fun c=>[c]) (v.map fun c=>[c])=true
 | [],[],_,h=>by simp[lexZ]at h
 | [],_::_,h,_=>by simp at h
 | _::_,[],h,_=>by simp at h
 | a::x,b::y,hl,h=>by
  simp only[lexZ,Bool.or_eq_true,Bool.and_eq_true,decide_eq_true_eq]at h
  simp only[List.map_cons,xH,Bool.or_eq_true,Bool.and_eq_true,decide_eq_true_eq]
  rcases h with h|⟨rfl,h⟩
  ·exact .inl (by simp[qF,lexZ,h])
  ·exact .inr ⟨rfl,bF x y (by simpa using hl) h⟩
theorem qNA:mono wY:=fun u v h=>by
 simp only[qF,Bool.or_eq_true,Bool.and_eq_true,decide_eq_true_eq]at h
 simp only[vQ,Bool.or_eq_true,Bool.and_eq_true,decide_eq_true_eq,wY,List.length_append,List.length_map,List.length_singleton]
 rcases h with h|⟨e,h⟩
 ·exact .inl (by omega)
 ·refine .inr ⟨by omega,?_⟩
  rw[List.append_assoc,List.append_assoc,qLD]
  exact bG _ _ _ _ (by simp[e]) (bF u v e h)
theorem pI {f:List Int->List (List Int)}(hf:mono f){l:List (List Int)}(h:fJ l):pE (l.map f):=by
 rw[pE,List.pairwise_map];exact List.Pairwise.imp (fun h=>hf _ _ h) h
theorem qDF {l:List (List Int)}(h:fJ l)(n:Nat):fJ (l.drop n):=List.Pairwise.drop h
theorem rQ {a b:List (List (List Int))}(ha:pE a)(hb:pE b)(h:∀p∈a,∀q∈b,vQ p q=true):pE (a++b):=by
 rw[pE,List.pairwise_append];exact⟨ha,hb,h⟩
theorem mV {p q:List (List Int)}(h:p.length<q.length):vQ p q=true:=by simp[vQ,h]
theorem qZE {u v:List Int}(hv:v≠[]):vQ (sufB u) (preB v)=true:=by
 have:0<v.length:=List.length_pos_iff.2 hv;simp[vQ,sufB,preB,xH,qF,this]
theorem cJ {bs:List (List (List Int))}{ws:List (List Int)}{n:Nat}(hb:pE bs)(hw:fJ ws)(hl:∀b∈bs,b.length=n):pE (exts bs ws):=by
 rw[pE,exts,List.pairwise_flatMap];refine⟨fun b _=>?_,?_⟩
 ·rw[List.pairwise_map]
  refine List.Pairwise.imp ?_ hw;intro u v h;simp only[vQ,Bool.or_eq_true,Bool.and_eq_true,decide_eq_true_eq];exact .inr ⟨by simp,by rw[qLD];simp[xH,h]⟩
 refine List.Pairwise.imp_of_mem ?_ hb;intro a b ha h0 h x hx y hy;obtain⟨u,_,rfl⟩:=List.mem_map.1 hx;obtain⟨v,_,rfl⟩:=List.mem_map.1 hy;have e:a.length=b.length:=by rw[hl a ha,hl b h0]
 simp only[vQ,Bool.or_eq_true,Bool.and_eq_true,decide_eq_true_eq]at h⊢;rcases h with h|⟨_,h⟩
 ·omega
 exact .inr ⟨by simp[e],bG a b _ _ e h⟩
theorem qAL {ws:List (List Int)}(hw:fJ ws):∀i,pE (chB ws i)
 | 0=>pI fZ hw
 | i+1=>cJ (qAL hw i) (qDF hw 1) (fun _ h=>jF i h)
theorem fC {ws:List (List Int)}{i:Nat}{p:List (List Int)}(h:p∈exts (chB ws i) ws):p.length=i+2:=by
 obtain⟨c,hc,hb⟩:=List.mem_flatMap.1 h;obtain⟨u,_,rfl⟩:=List.mem_map.1 hb;rw[List.length_append,jF i hc];rfl
theorem bB {ws:List (List Int)}:∀ {i:Nat} {p:List (List Int)},p∈chL ws i->p.length<=i+1
 | 0,p,h=>by
  obtain⟨u,_,rfl⟩:=List.mem_map.1 h;exact Nat.le_refl _
 | i+1,p,h=>by
  rcases List.mem_append.1 h with h|h
  ·have:=bB h;omega
  ·rw[fC h];omega
theorem qAK {ws:List (List Int)}(hw:fJ ws):∀i,pE (chL ws i)
 | 0=>pI fZ hw
 | i+1=>rQ (qAK hw i) (cJ (qAL hw i) hw (fun _ h=>jF i h)) (fun p hp q hq=>mV (by have:=bB hp;rw[fC hq];omega))
theorem xAJ {letters n:Nat}{u:List Int}(h:u∈(upTo letters (n+1)).drop 1):u≠[]:=by
 obtain⟨r,e,hr⟩:=eH letters n;rw[e]at h;exact hr u (by simpa using h)
theorem cI (kind:Int)(letters k m:Nat):pE (famP kind letters k m):=by
 have hW:fJ (xM letters k):=kN letters (k+1);have hS:fJ (upTo letters k):=kN letters k;have hD:fJ ((xM letters k).drop 1):=qDF hW 1;have h0:∀u∈(xM letters k).drop 1,u≠[]:=fun u h=>xAJ h;have l1:∀p∈(upTo letters k).map oneB,p.length=1:=fun p hp=>by obtain⟨u,_,rfl⟩:=List.mem_map.1 hp;rfl
 have l2:∀p∈((xM letters k).drop 1).map preB,p.length=2:=fun p hp=>by obtain⟨u,_,rfl⟩:=List.mem_map.1 hp;rfl
 have l3:∀p∈((xM letters k).drop 1).map sufB,p.length=2:=fun p hp=>by obtain⟨u,_,rfl⟩:=List.mem_map.1 hp;rfl
 have l4:∀p∈((xM letters k).drop 1).map facB,p.length=3:=fun p hp=>by obtain⟨u,_,rfl⟩:=List.mem_map.1 hp;rfl
 have h1:∀p∈((xM letters k).drop 1).map sufB,∀q∈((xM letters k).drop 1).map preB,vQ p q=true:=fun p hp q hq=>by
  obtain⟨u,_,rfl⟩:=List.mem_map.1 hp;obtain⟨v,hv,rfl⟩:=List.mem_map.1 hq;exact qZE (h0 v hv)
 have A:=pI fZ hS;have S:=pI qWD hD;have P:=pI qWE hD;have F:=pI qWF hD;have AS:=rQ A S (fun p hp q hq=>mV (by rw[l1 p hp,l3 q hq];decide))
 have ASP:=rQ AS P (fun p hp q hq=>by
  rcases List.mem_append.1 hp with h|h
  ·exact mV (by rw[l1 p h,l2 q hq];decide)
  exact h1 p h q hq)
 unfold famP;simp only
 split
 ·exact pI fZ hW
 split
 ·exact rQ A P (fun p hp q hq=>mV (by rw[l1 p hp,l2 q hq];decide))
 split
 ·exact AS
 split
 ·exact ASP
 split
 ·refine rQ ASP F (fun p hp q hq=>mV ?_)
  rw[l4 q hq];rcases List.mem_append.1 hp with h|h
  ·rcases List.mem_append.1 h with h|h
   ·rw[l1 p h];decide
   rw[l3 p h];decide
  rw[l2 p h];decide
 split
 ·exact pI qNA hD
 exact qAK hW _
end Go.Proofs.YtcoimliafiammaaGreat
