/- Part 16 of the proof. -/
import Derived.Test.YtjfdomfendbhfaaQh15
import Derived.Lib.OthersKept
import Derived.BigRegion
import Derived.Deep.DeepCutAuto
import Derived.Deep.CutBlock
set_option linter.unusedVariables false
set_option linter.unusedSimpArgs false
set_option maxRecDepth 100000
set_option maxHeartbeats 16000000
namespace Go.Proofs.Ytjfdomfendbhfaa
def genU (kind:Int)(k:Nat)(u:List Int):List (List (List Int)) :=
 (if kind=1\/kind=7\/(kind≠6/\u.length<k) then [oneB u] else [])++(if u=[] then [] else (if kind=2\/kind=4\/kind=5 then [preB u] else [])++((if kind=3\/kind=4\/kind=5 then [sufB u] else [])++((if kind=5 then [facB u] else [])++(if kind=6 then [rL u] else []))))
def genL (kind:Int)(k:Nat)(W:List (List Int)):List (List (List Int)):=W.flatMap (genU kind k)
def refL (kind:Int)(letters k m:Nat):List (List (List Int)):=genL kind k (xO letters k)++(if kind=7 then (allC (xO letters k) (m+1)).take 301 else [])
theorem genL_snoc (kind:Int)(k:Nat){W:List (List Int)}{j:Nat}(h:j<W.length):genL kind k (W.take (j+1))=genL kind k (W.take j)++genU kind k W[j]:=by
 rw[genL,List.take_succ_eq_append_getElem h,List.flatMap_append];simp[genL]
theorem rD {α β:Type}(f g:α->List β):∀l:List α,(l.flatMap fun x=>f x++g x).Perm (l.flatMap f++l.flatMap g)
 | []=>by simp
 | a::l=>by
  simp only[List.flatMap_cons]
  have ih:=rD f g l
  have h1:(f a++g a++l.flatMap fun x=>f x++g x).Perm (f a++g a++(l.flatMap f++l.flatMap g)):=List.Perm.append_left _ ih
  refine h1.trans ?_
  rw[List.append_assoc,List.append_assoc]
  refine List.Perm.append_left _ ?_
  rw[<-List.append_assoc,<-List.append_assoc]
  exact List.Perm.append_right _ List.perm_append_comm
theorem qHH {α β:Type}(c:α->Prop)[DecidablePred c](h:α->β):∀l:List α,(l.flatMap fun x=>if c x then [h x] else [])=(l.filter fun x=>decide (c x)).map h
 | []=>rfl
 | a::l=>by
  simp only[List.flatMap_cons,qHH c h l,List.filter_cons]
  by_cases hc:c a<;>simp[hc]
theorem filter_short (letters k:Nat):((xO letters k).filter fun u=>decide (u.length<k))=upTo letters k:=by
 rw[xO,wS,List.filter_append];have e1:(upTo letters k).filter (fun u=>decide (u.length<k))=upTo letters k:=List.filter_eq_self.2 fun u hu=>by simpa using lV hu
 have e2:(lex letters k).filter (fun u=>decide (u.length<k))=[]:=List.filter_eq_nil_iff.2 fun u hu=>by rw[(qI hu).1];simp
 rw[e1,e2,List.append_nil]
theorem uV {α β:Type}{f g:α->List β}:∀ {l:List α},(∀x∈l,f x=g x)->l.flatMap f=l.flatMap g
 | [],_=>rfl
 | a::l,h=>by rw[List.flatMap_cons,List.flatMap_cons,h a (by simp),uV fun x hx=>h x (by simp[hx])]
theorem eQ {letters k:Nat}(f:List Int->List (List (List Int))):((xO letters k).flatMap fun u=>if u=[] then [] else f u)=((xO letters k).drop 1).flatMap f:=by
 obtain⟨r,e,hr⟩:=fB letters k;rw[xO,e];simp only[List.flatMap_cons,if_pos,List.nil_append,List.drop_one,List.tail_cons];exact uV fun u hu=>by rw[if_neg (hr u hu)]
theorem sY {α β:Type}(h:α->β)(l:List α):(l.flatMap fun x=>[h x])=l.map h:=by induction l with
 | nil=>rfl
 | cons a l ih=>simp[ih]
theorem genU_1 (k:Nat)(u:List Int):genU 1 k u=[oneB u]:=by unfold genU;by_cases h:u=[]<;>simp[h]
theorem genU_7 (k:Nat)(u:List Int):genU 7 k u=[oneB u]:=by unfold genU;by_cases h:u=[]<;>simp[h]
theorem genU_2 (k:Nat)(u:List Int):genU 2 k u=(if u.length<k then [oneB u] else [])++(if u=[] then [] else [preB u]):=by unfold genU;by_cases h:u=[]<;>simp[h]
theorem genU_3 (k:Nat)(u:List Int):genU 3 k u=(if u.length<k then [oneB u] else [])++(if u=[] then [] else [sufB u]):=by unfold genU;by_cases h:u=[]<;>simp[h]
theorem genU_4 (k:Nat)(u:List Int):genU 4 k u=(if u.length<k then [oneB u] else [])++(if u=[] then [] else [preB u]++[sufB u]):=by unfold genU;by_cases h:u=[]<;>simp[h]
theorem genU_5 (k:Nat)(u:List Int):genU 5 k u=(if u.length<k then [oneB u] else [])++(if u=[] then [] else [preB u]++([sufB u]++[facB u])):=by unfold genU;by_cases h:u=[]<;>simp[h]
theorem genU_6 (k:Nat)(u:List Int):genU 6 k u=(if u=[] then [] else [rL u]):=by unfold genU;by_cases h:u=[]<;>simp[h]
theorem aQ {kind:Int}{letters k:Nat}(h1:1<=kind)(h7:kind<=7)(m:Nat)(hm:(allC (xO letters k) (m+1)).length<=301\/kind≠7):(refL kind letters k m).Perm (famP kind letters k m):=by
 have h2:kind=1\/kind=2\/kind=3\/kind=4\/kind=5\/kind=6\/kind=7:=by omega
 have h0:((xO letters k).flatMap fun u=>if u.length<k then [oneB u] else [])=(upTo letters k).map oneB:=by rw[qHH (fun u:List Int=>u.length<k) oneB,filter_short]
 rcases h2 with rfl|rfl|rfl|rfl|rfl|rfl|rfl
 ·have e:refL 1 letters k m=famP 1 letters k m:=by
   rw[refL,if_neg (by decide),List.append_nil,genL,uV fun u _=>genU_1 k u,sY];rfl
  rw[e]
 ·rw[refL,if_neg (by decide),List.append_nil,genL,uV fun u _=>genU_2 k u]
  refine(rD _ _ _).trans ?_;rw[h0,eQ,sY];exact List.Perm.refl _
 ·rw[refL,if_neg (by decide),List.append_nil,genL,uV fun u _=>genU_3 k u]
  refine(rD _ _ _).trans ?_;rw[h0,eQ,sY];exact List.Perm.refl _
 ·rw[refL,if_neg (by decide),List.append_nil,genL,uV fun u _=>genU_4 k u]
  refine(rD _ _ _).trans ?_;rw[h0,eQ];show List.Perm _ ((upTo letters k).map oneB++((xO letters k).drop 1).map sufB++((xO letters k).drop 1).map preB);rw[List.append_assoc];refine List.Perm.append_left _ ((rD _ _ _).trans ?_);rw[sY,sY];exact List.perm_append_comm
 ·rw[refL,if_neg (by decide),List.append_nil,genL,uV fun u _=>genU_5 k u]
  refine(rD _ _ _).trans ?_;rw[h0,eQ];show List.Perm _ ((upTo letters k).map oneB++((xO letters k).drop 1).map sufB++((xO letters k).drop 1).map preB++((xO letters k).drop 1).map facB);rw[List.append_assoc,List.append_assoc];refine List.Perm.append_left _ ((rD _ _ _).trans ?_);rw[sY];refine(List.Perm.append_left _ (rD _ _ _)).trans ?_;rw[sY,sY,<-List.append_assoc,<-List.append_assoc];exact List.Perm.append_right _ List.perm_append_comm
 ·have e:refL 6 letters k m=famP 6 letters k m:=by
   rw[refL,if_neg (by decide),List.append_nil,genL,uV fun u _=>genU_6 k u,eQ,sY];rfl
  rw[e]
 ·have e:refL 7 letters k m=famP 7 letters k m:=by
   rw[refL,if_pos rfl,genL,uV fun u _=>genU_7 k u,sY,List.take_of_length_le (by rcases hm with h|h;exact h;exact absurd rfl h)];show _=chL (xO letters k) (m+1);rw[qAO]
  rw[e]
theorem sortP_nodup {l:List (List (List Int))}(h:qQ l):l.Nodup:=List.Pairwise.imp (fun {a b} h e=>by rw[e,pC]at h;cases h) h
theorem ref_len {kind:Int}{letters k:Nat}(h1:1<=kind)(h7:kind<=7)(m:Nat):(300<(refL kind letters k m).length↔300<(famP kind letters k m).length):=by
 by_cases hm:(allC (xO letters k) (m+1)).length<=301\/kind≠7
 ·rw[(aQ h1 h7 m hm).length_eq]
 ·have h0:¬(allC (xO letters k) (m+1)).length<=301:=fun h=>hm (.inl h)
  have hk:kind=7:=Decidable.not_not.1 fun h=>hm (.inr h);subst hk
  have e1:301<=(refL 7 letters k m).length:=by
   rw[refL,if_pos rfl,List.length_append,List.length_take];omega
  have e2:301<=(famP 7 letters k m).length:=by
   show 301<=(chL (xO letters k) (m+1)).length;rw[qAO,List.length_append];omega
  omega
open Go.RowKit
theorem gP {w:World}{base e g n c:Nat}{xs:List Value}(h:w.ownsRow base e 1 (.slice (some ⟨g,0,none⟩) n c) n xs)(i:Nat)(u:Value):(w.setCell ⟨g,i,none⟩ u).ownsRow base e 1 (.slice (some ⟨g,0,none⟩) n c) n (xs.set i u):=by
 obtain⟨h1,h2⟩:=h;refine⟨by simpa using h1,?_⟩;rcases h2 with ⟨e1,_⟩|⟨g',cap,cur,e1,hb,hg,hnc,hcm,hcs,htake⟩
 ·simp at e1
 ·simp only[Value.slice.injEq,Option.some.injEq,Addr.mk.injEq,and_true]at e1
  obtain⟨rfl,_,rfl⟩:=e1;refine .inr ⟨g,c,cur.setIfInBounds i u,rfl,hb,heap_setCell_same w g i _ _ u hg,hnc,hcm,by simpa using hcs,?_⟩;rw[<-htake,Array.toList_setIfInBounds,List.take_set]
theorem wK.swap {α:Type}{B:Nat}{e:TypeId}{f:α->List Value}{w:World}{svs:List Value}{ps:List α}(h:wK B e f w svs ps){i:Nat}{x y:Value}{p q:α}(hx:svs[i]?=some x)(hy:svs[i+1]?=some y)(hp:ps[i]?=some p)(hq:ps[i+1]?=some q):wK B e f w ((svs.set i y).set (i+1) x) ((ps.set i q).set (i+1) p):=by
 obtain⟨a1,rfl⟩:=List.getElem?_eq_some_iff.1 hx;obtain⟨a2,rfl⟩:=List.getElem?_eq_some_iff.1 hy;obtain⟨b1,rfl⟩:=List.getElem?_eq_some_iff.1 hp;obtain⟨b2,rfl⟩:=List.getElem?_eq_some_iff.1 hq;refine⟨by simpa using h.1,fun k h1 h2=>?_⟩;rw[List.getElem_set,List.getElem_set,List.getElem_set,List.getElem_set];by_cases e1:i+1=k
 ·rw[if_pos e1,if_pos e1];exact h.2 i a1 b1
 ·rw[if_neg e1,if_neg e1]
  by_cases e2:i=k
  ·rw[if_pos e2,if_pos e2];exact h.2 (i+1) a2 b2
  ·rw[if_neg e2,if_neg e2];exact h.2 k (by simpa using h1) (by simpa using h2)
theorem LUp.swap {e base g n c i:Nat}{w:World}{svs:List Value}{ps:List (List (List Int))}(h:LUp e base w (.slice (some ⟨g,0,none⟩) n c) n svs ps){x y:Value}{p q:List (List Int)}(hx:svs[i]?=some x)(hy:svs[i+1]?=some y)(hp:ps[i]?=some p)(hq:ps[i+1]?=some q){W:World}(hW:W=(w.setCell ⟨g,i+1,none⟩ x).setCell ⟨g,i,none⟩ y\/W=(w.setCell ⟨g,i,none⟩ y).setCell ⟨g,i+1,none⟩ x):LUp e base W (.slice (some ⟨g,0,none⟩) n c) n ((svs.set i y).set (i+1) x) ((ps.set i q).set (i+1) p)/\w.grownBy W (some g):=by
 have hg:w.grownBy W (some g):=by
  rcases hW with rfl|rfl
  ·exact zD (zC w ⟨g,i+1,none⟩ x) (zC _ ⟨g,i,none⟩ y)
  ·exact zD (zC w ⟨g,i,none⟩ y) (zC _ ⟨g,i+1,none⟩ x)
 refine⟨⟨?_,?_,h.ne⟩,hg⟩
 ·rcases hW with rfl|rfl
  ·have h2:=gP (gP h.own (i+1) x) i y
   rwa [List.set_comm _ _ (by omega)]at h2
  ·exact gP (gP h.own i y) (i+1) x
 ·have h0:=yF h.own h.ne
  exact(((h.rows.swap hx hy hp hq).kept hg (fun k e=>.inr (h0 k (by rw[<-e];rfl)))).mono hg.size)
theorem LUp.drewN {e base n:Nat}{w:World}{v:Value}{svs:List Value}{ps:List (List (List Int))}(h:LUp e base w v n svs ps):LUp e base w.drew v n svs ps:=h.kept (zO w none) (by simp)
theorem LUp.at {base g n c i:Nat}{w:World}{svs:List Value}{ps:List (List (List Int))}(h:LUp 28 base w (.slice (some ⟨g,0,none⟩) n c) n svs ps)(hi:i<n):∃(a:Option Addr) (d:Nat) (p:List (List Int)),svs[i]?=some (.slice a p.length d)/\ps[i]?=some p/\w.cell? ⟨g,i,none⟩=some (.slice a p.length d)/\RowT w.heap.size 9 w (.slice a p.length d) (strs p):=by
 have hl:=h.own.1;have h0:=h.rows.1;have hr:=h.rows.2 i (by omega) (by omega);obtain⟨a,d,e⟩:=hr.row.shape;rw[xX]at e;refine⟨a,d,ps[i]'(by omega),by rw[<-e];exact List.getElem?_eq_getElem _,List.getElem?_eq_getElem _,?_,by rw[<-e];exact hr⟩;have:=(RowT.of_owns h.own).row;rcases this with ⟨a0,c0,e0,hx⟩|⟨b',off',cap',hv,_,_,_,hra⟩
 ·simp only[Value.slice.injEq]at e0;omega
 ·simp only[Value.slice.injEq,Option.some.injEq,Addr.mk.injEq,and_true]at hv
  obtain⟨⟨rfl,rfl⟩,_⟩:=hv;have hc:=hra.2 i (by omega);rw[Nat.zero_add]at hc;rw[hc,<-e]
def InsI (L ps:List (List (List Int)))(i j:Nat):Prop:=∃A x B C,ps=A++x::(B++C)/\A.length=j/\A.length+B.length=i/\qQ (A++B)/\(∀b∈B,vL x b=true)/\ps.Perm L
theorem ins_start {L ps:List (List (List Int))}{i:Nat}(hs:qQ (ps.take i))(hi:i<ps.length)(hp:ps.Perm L):InsI L ps i i :=
 ⟨ps.take i,ps[i],[],ps.drop (i+1),by rw[List.nil_append,<-List.drop_eq_getElem_cons hi,List.take_append_drop],by simp;omega,by simp;omega,by simpa using hs,by simp,hp⟩
theorem qBB {α:Type}(a x:α)(R:List α):∀A:List α,((A++a::x::R).set A.length x).set (A.length+1) a=A++x::a::R
 | []=>rfl
 | b::A=>by have:=qBB a x R A;simp[this]
theorem cW {α:Type}{A:List α}{j:Nat}(h:A.length=j+1):∃A' a,A=A'++[a]/\A'.length=j:=by
 have h0:A≠[]:=by intro e;rw[e]at h;simp at h
 exact⟨A.dropLast,A.getLast h0,(List.dropLast_concat_getLast h0).symm,by simp[h]⟩
theorem ins_step {L ps:List (List (List Int))}{i j:Nat}{p q:List (List Int)}(h:InsI L ps i (j+1))(hp:ps[j]?=some p)(hq:ps[j+1]?=some q)(hl:vL q p=true):InsI L ((ps.set j q).set (j+1) p) i j:=by
 obtain⟨A,x,B,C,rfl,hA,hi,hs,hB,h0⟩:=h;obtain⟨A',a,rfl,rfl⟩:=cW hA;have e0:A'++[a]++x::(B++C)=A'++a::x::(B++C):=by simp
 rw[e0]at hp hq h0⊢;have e1:a=p:=by rw[List.getElem?_append_right (Nat.le_refl _)]at hp;simpa using hp
 have e2:x=q:=by rw[List.getElem?_append_right (by omega)]at hq;simpa using hq
 subst e1;subst e2;rw[qBB];refine⟨A',x,a::B,C,by simp,rfl,by simp at hi⊢;omega,by simpa using hs,?_,(List.Perm.append_left A' (List.Perm.swap _ _ _)).trans h0⟩;intro b hb;rcases List.mem_cons.1 hb with rfl|hb
 ·exact hl
 ·exact hB b hb
theorem qFD {L ps:List (List (List Int))}{i j:Nat}(h:InsI L ps i j)(hn:L.Nodup)(hd:j=0\/∃k p q,j=k+1/\ps[k]?=some p/\ps[k+1]?=some q/\vL q p=false):qQ (ps.take (i+1))/\ps.Perm L:=by
 obtain⟨A,x,B,C,rfl,hA,hi,hs,hB,h0⟩:=h;refine⟨?_,h0⟩
 have et:(A++x::(B++C)).take (i+1)=A++x::B:=by
  have e3:A++x::(B++C)=(A++x::B)++C:=by simp
  rw[e3,List.take_left' (by simp;omega)]
 rw[et];have h1:=List.pairwise_append.1 hs;have h2:=h0.nodup_iff.2 hn
 have h8:∀a∈A,vL a x=true:=by
  rcases hd with rfl|⟨k,p,q,rfl,hp,hq,hl⟩
  ·intro a ha;rw[List.eq_nil_of_length_eq_zero hA]at ha;simp at ha
  ·obtain⟨A',a,rfl,rfl⟩:=cW hA
   have e0:A'++[a]++x::(B++C)=A'++a::x::(B++C):=by simp
   rw[e0]at hp hq h2;have e1:a=p:=by rw[List.getElem?_append_right (Nat.le_refl _)]at hp;simpa using hp
   have e2:x=q:=by rw[List.getElem?_append_right (by omega)]at hq;simpa using hq
   subst e1;subst e2
   have h7:a≠x:=by
    have h3:=(List.pairwise_append.1 h2).2.1;have h4:=(List.pairwise_cons.1 h3).1 x (by simp);exact h4
   have h6:vL a x=true:=by
    rcases lessP_total h7 with h|h
    ·exact h
    ·rw[hl]at h;cases h
   intro b hb;rcases List.mem_append.1 hb with hb|hb
   ·have h5:=(List.pairwise_append.1 h1.1).2.2 b hb a (by simp)
    exact eN h5 h6
   ·have:b=a:=by simpa using hb
    rw[this];exact h6
 refine List.pairwise_append.2 ⟨h1.1,List.pairwise_cons.2 ⟨hB,h1.2.1⟩,fun a ha b hb=>?_⟩;rcases List.mem_cons.1 hb with rfl|hb
 ·exact h8 a ha
 ·exact h1.2.2 a ha b hb
theorem sorted_is {l m:List (List (List Int))}(h1:qQ l)(h2:qQ m)(h:l.Perm m):l=m:=qCD h1 h2 fun _=>h.mem_iff
theorem rfam_err (kind letters k m:Int)(w:World)(ho:oS kind letters k m=false):Calls Try.prog 45 #[.int .i64 kind,.int .i64 letters,.int .i64 k,.int .i64 m] w (uZ w 1 []):=by
 have h0:=Kh (yK w letters);simp only[oS,decide_eq_false_iff_not]at ho;have HO:=Kh ho;clear ho;by_cases a1:kind<1
 ·by_cases k1:kind=1
  ·omega
  have k1':(kind == 1)=false:=by simpa using k1
  clear k1;go_enter Try.func45,Try.ntmps45;go_wp2;refine bodyPost_ret (v:=.tuple #[.slice none 0 0,.int .i64 1]) (by simp[results,Try.results45,go_sem]) rfl ?_;exact uZ.nil (zH _ _)
 by_cases a2:7<kind
 ·have k1':(kind == 1)=false:=by simp;omega
  go_enter Try.func45,Try.ntmps45;go_wp2;refine bodyPost_ret (v:=.tuple #[.slice none 0 0,.int .i64 1]) (by simp[results,Try.results45,go_sem]) rfl ?_;exact uZ.nil (zH _ _)
 by_cases a3:1<=letters/\letters<=6;rotate_left
 ·rw[decide_eq_false a3]at h0
  clear a3;by_cases k1:kind=1
  ·subst k1
   go_enter Try.func45,Try.ntmps45;go_wp2_with fail;refine h0.out.mono ?_;rintro e w ⟨rfl,rfl⟩;go_wp2;refine bodyPost_ret (v:=.tuple #[.slice none 0 0,.int .i64 1]) (by simp[results,Try.results45,go_sem]) rfl ?_;exact uZ.nil (zH _ _)
  ·have k1':(kind == 1)=false:=by simpa using k1
   clear k1;go_enter Try.func45,Try.ntmps45;go_wp2_with fail;refine h0.out.mono ?_;rintro e w ⟨rfl,rfl⟩;go_wp2;refine bodyPost_ret (v:=.tuple #[.slice none 0 0,.int .i64 1]) (by simp[results,Try.results45,go_sem]) rfl ?_;exact uZ.nil (zH _ _)
 rw[decide_eq_true a3]at h0;by_cases k1:kind=1
 ·subst k1
  by_cases b1:k<0
  ·go_enter Try.func45,Try.ntmps45
   go_wp2_with fail;refine h0.out.mono ?_;rintro e w ⟨rfl,rfl⟩;go_wp2;refine bodyPost_ret (v:=.tuple #[.slice none 0 0,.int .i64 1]) (by simp[results,Try.results45,go_sem]) rfl ?_;exact uZ.nil (zH _ _)
  by_cases b2:8<k
  ·go_enter Try.func45,Try.ntmps45
   go_wp2_with fail;refine h0.out.mono ?_;rintro e w ⟨rfl,rfl⟩;go_wp2;refine bodyPost_ret (v:=.tuple #[.slice none 0 0,.int .i64 1]) (by simp[results,Try.results45,go_sem]) rfl ?_;exact uZ.nil (zH _ _)
  have b3:(m != 0)=true:=by rw[bne_iff_ne];intro e;exact HO.out (by simp;omega)
  go_enter Try.func45,Try.ntmps45;go_wp2_with fail;refine h0.out.mono ?_;rintro e w ⟨rfl,rfl⟩;go_wp2;refine bodyPost_ret (v:=.tuple #[.slice none 0 0,.int .i64 1]) (by simp[results,Try.results45,go_sem]) rfl ?_;exact uZ.nil (zH _ _)
 have k1':(kind == 1)=false:=by simpa using k1
 have H1:=Kh k1;clear k1;by_cases b1:k<1
 ·go_enter Try.func45,Try.ntmps45
  go_wp2_with fail;refine h0.out.mono ?_;rintro e w ⟨rfl,rfl⟩;go_wp2;refine bodyPost_ret (v:=.tuple #[.slice none 0 0,.int .i64 1]) (by simp[results,Try.results45,go_sem]) rfl ?_;exact uZ.nil (zH _ _)
 by_cases b2:8<k
 ·go_enter Try.func45,Try.ntmps45
  go_wp2_with fail;refine h0.out.mono ?_;rintro e w ⟨rfl,rfl⟩;go_wp2;refine bodyPost_ret (v:=.tuple #[.slice none 0 0,.int .i64 1]) (by simp[results,Try.results45,go_sem]) rfl ?_;exact uZ.nil (zH _ _)
 by_cases k7:kind=7
 ·subst k7
  by_cases b3:m<0
  ·go_enter Try.func45,Try.ntmps45
   go_wp2_with fail;refine h0.out.mono ?_;rintro e w ⟨rfl,rfl⟩;go_wp2;refine bodyPost_ret (v:=.tuple #[.slice none 0 0,.int .i64 1]) (by simp[results,Try.results45,go_sem]) rfl ?_;exact uZ.nil (zH _ _)
  by_cases b4:4<m
  ·go_enter Try.func45,Try.ntmps45
   go_wp2_with fail;refine h0.out.mono ?_;rintro e w ⟨rfl,rfl⟩;go_wp2;refine bodyPost_ret (v:=.tuple #[.slice none 0 0,.int .i64 1]) (by simp[results,Try.results45,go_sem]) rfl ?_;exact uZ.nil (zH _ _)
  exact absurd (by rw[if_neg H1.out,if_pos rfl];omega) HO.out
 ·have k7':(kind == 7)=false:=by simpa using k7
  have k7'':(kind != 7)=true:=by rw[bne_iff_ne];exact k7
  have b3:(m != 0)=true:=by rw[bne_iff_ne];intro e;exact HO.out (by rw[if_neg H1.out,if_neg k7];omega)
  clear k7;go_enter Try.func45,Try.ntmps45;go_wp2_with fail;refine h0.out.mono ?_;rintro e w ⟨rfl,rfl⟩;go_wp2;refine bodyPost_ret (v:=.tuple #[.slice none 0 0,.int .i64 1]) (by simp[results,Try.results45,go_sem]) rfl ?_;exact uZ.nil (zH _ _)
theorem upTo_len_step (L i:Nat):(upTo L (i+2)).length=(upTo L (i+1)).length+L ^ i*L:=by
 rw[wS L (i+1),List.length_append,tU,Nat.pow_succ]
theorem famP_ge {kind:Int}{L K:Nat}(M:Nat):(xO L K).length<=(famP kind L K M).length+1:=by
 unfold famP;simp only
 split
 ·rw[List.length_map];omega
 split
 ·simp only[List.length_append,List.length_map,List.length_drop];omega
 split
 ·simp only[List.length_append,List.length_map,List.length_drop];omega
 split
 ·simp only[List.length_append,List.length_map,List.length_drop];omega
 split
 ·simp only[List.length_append,List.length_map,List.length_drop];omega
 split
 ·simp only[List.length_append,List.length_map,List.length_drop];omega
 ·rw[qAO,List.length_append,List.length_map];omega
theorem qAH {kind:Int}{L K M:Nat}(ho:oS kind L K M=true)(h:(kind=6/\8<(K:Int)+2)\/300<qGM kind L K M):famE kind L K M=3/\famL kind L K M=[]:=by
 have e1:famE kind L K M=3:=by rw[famE,if_neg (by rw[ho];simp),if_pos (h.imp id (fun hs=>by simpa using hs))]
 exact⟨e1,by rw[famL,e1];rfl⟩
theorem famE_small {kind:Int}{L K M:Nat}(ho:oS kind L K M=true)(h6:¬(kind=6/\8<(K:Int)+2))(h:¬300<qGM kind L K M):famE kind L K M=0/\famL kind L K M=famP kind L K M:=by
 have e1:famE kind L K M=0:=by
  rw[famE,if_neg (by rw[ho];simp),if_neg];rintro (h1|h1)
  ·exact h6 h1
  ·exact h (by simpa using h1)
 exact⟨e1,by rw[famL,e1];simp⟩
theorem jI {α:Type}{c:Prop}[Decidable c](x:α):(if c then [x] else []).length<=1:=by split<;>simp
theorem genU_len (kind:Int)(k:Nat)(u:List Int):(genU kind k u).length<=5:=by
 unfold genU;rw[List.length_append];have h1:=jI (c:=kind=1\/kind=7\/(kind≠6/\u.length<k)) (oneB u);by_cases hu:u=[]
 ·rw[if_pos hu,List.length_nil];omega
 ·rw[if_neg hu]
  rw[List.length_append,List.length_append,List.length_append];have h2:=jI (c:=kind=2\/kind=4\/kind=5) (preB u);have h3:=jI (c:=kind=3\/kind=4\/kind=5) (sufB u);have h4:=jI (c:=kind=5) (facB u);have h5:=jI (c:=kind=6) (rL u);omega
theorem qAF (kind:Int)(k:Nat):∀W:List (List Int),(genL kind k W).length<=5*W.length
 | []=>by simp[genL]
 | u::W=>by
  have:=qAF kind k W
  have:=genU_len kind k u
  simp only[genL,List.flatMap_cons,List.length_append,List.length_cons]at *
  omega
theorem grown_iterAt (w:World)(k:Nat)(s:ByteArray)(pos:Nat):w.grownBy (w.iterAt k s pos) (some k) :=
 ⟨rfl,rfl,rfl,by rw[Lib.iterAt_size];exact Nat.le_refl _,fun i _ hne=>Lib.iterAt_other w k i s pos (fun e=>hne (by rw[e]))⟩
theorem wK.cat {α:Type}{B:Nat}{e:TypeId}{f:α->List Value}{w:World}{svs svs2:List Value}{ps ps2:List α}(h:wK B e f w svs ps)(h2:wK B e f w svs2 ps2):wK B e f w (svs++svs2) (ps++ps2):=by
 refine⟨by simp[h.1,h2.1],fun i a b=>?_⟩;have hl:=h.1;by_cases hi:i<svs.length
 ·rw[List.getElem_append_left hi,List.getElem_append_left (by omega)];exact h.2 i hi _
 ·rw[List.getElem_append_right (by omega),List.getElem_append_right (by omega)]
  have:=h2.2 (i-svs.length) (by rw[List.length_append]at a;omega) (by rw[List.length_append]at b;omega);simp only[hl]at this⊢;exact this
theorem wK.one {w:World}{B:Nat}{e:TypeId}{svs:List Value}{ps:List (List (List Int))}(h:wK B e strs w svs ps):∀u∈svs,u.oneCell'=true:=by
 intro u hu;obtain⟨i,hi,rfl⟩:=List.mem_iff_getElem.1 hu;have hl:=h.1;obtain⟨a,c,e⟩:=(h.2 i hi (by omega)).row.shape;rw[e];rfl
theorem LUp.cat {e base n n2:Nat}{w w1 w2:World}{v v2:Value}{svs svs2:List Value}{ps ps2:List (List (List Int))}(h:LUp e base w v n svs ps)(hg1:w.grownBy w1 none)(hr:wK w1.heap.size 9 strs w1 svs2 ps2)(hown:w2.ownsRow base e 1 v2 n2 (svs++svs2))(hg:w1.grownBy w2 v.ownBlock):LUp e base w2 v2 n2 (svs++svs2) (ps++ps2)/\w.grownBy w2 v.ownBlock:=by
 have h1:=h.kept hg1 (by simp);have h0:=yF h1.own h.ne;exact⟨⟨hown,((h1.rows.cat hr).kept hg (fun k e=>.inr (h0 k e))).mono hg.size,h.ne⟩,zD (xM hg1) hg⟩
theorem words_first {L K r:Nat}(h:r<(xO L K).length):((xO L K)[r]=[]↔r=0):=by
 obtain⟨t,e,ht⟩:=fB L K;have e':xO L K=[]::t:=e;constructor
 ·intro h0
  rcases r with _|r
  ·rfl
  ·exfalso
   simp only[e',List.getElem_cons_succ]at h0;exact ht _ (List.getElem_mem _) h0
 ·rintro rfl
  simp only[e',List.getElem_cons_zero]
theorem qAX {L K:Nat}(h6:K<=8){u:List Int}(hu:u∈xO L K):u.length<=8:=upTo_len8 (n:=K+1) (by omega) hu
theorem okB {letters:Nat}(h:letters<=6){n:Nat}{u:List Int}(hu:u∈upTo letters n):okW u:=by
 simp only[upTo,List.mem_flatMap,List.mem_range]at hu;obtain⟨m,_,hu⟩:=hu;intro x hx;have:=(qI hu).2 x hx;unfold qGC at *;omega
def okP (p:List (List Int)):Prop:=p.length<=100/\∀u∈p,okW u/\u.length<=8
theorem okW_nil:okW []:=fun x hx=>by simp at hx
theorem genU_cases {kind:Int}{k:Nat}{u:List Int}{p:List (List Int)}(hp:p∈genU kind k u):p=oneB u\/p=preB u\/p=sufB u\/p=facB u\/p=rL u:=by
 unfold genU at hp;rw[List.mem_append]at hp;rcases hp with hp|hp
 ·split at hp
  ·exact .inl (by simpa using hp)
  ·simp at hp
 ·by_cases hu:u=[]
  ·rw[if_pos hu]at hp;simp at hp
  ·rw[if_neg hu,List.mem_append,List.mem_append,List.mem_append]at hp
   rcases hp with hp|hp|hp|hp
   ·split at hp
    ·exact .inr (.inl (by simpa using hp))
    ·simp at hp
   ·split at hp
    ·exact .inr (.inr (.inl (by simpa using hp)))
    ·simp at hp
   ·split at hp
    ·exact .inr (.inr (.inr (.inl (by simpa using hp))))
    ·simp at hp
   ·split at hp
    ·exact .inr (.inr (.inr (.inr (by simpa using hp))))
    ·simp at hp
theorem genU_ok {kind:Int}{k:Nat}{u:List Int}(h:okW u)(h8:u.length<=8){p:List (List Int)}(hp:p∈genU kind k u):okP p:=by
 have hn:okW []/\([]:List Int).length<=8:=⟨okW_nil,by simp⟩;rcases genU_cases hp with rfl|rfl|rfl|rfl|rfl
 ·refine⟨by simp[oneB],fun x hx=>?_⟩
  simp only[oneB,List.mem_singleton]at hx;subst hx;exact⟨h,h8⟩
 ·refine⟨by simp[preB],fun x hx=>?_⟩
  simp only[preB,List.mem_cons,List.not_mem_nil,or_false]at hx;rcases hx with rfl|rfl
  ·exact⟨h,h8⟩
  ·exact hn
 ·refine⟨by simp[sufB],fun x hx=>?_⟩
  simp only[sufB,List.mem_cons,List.not_mem_nil,or_false]at hx;rcases hx with rfl|rfl
  ·exact hn
  ·exact⟨h,h8⟩
 ·refine⟨by simp[facB],fun x hx=>?_⟩
  simp only[facB,List.mem_cons,List.not_mem_nil,or_false]at hx;rcases hx with rfl|rfl|rfl
  ·exact hn
  ·exact⟨h,h8⟩
  ·exact hn
 ·refine⟨by simp[rL];omega,fun x hx=>?_⟩
  simp only[rL,List.mem_append,List.mem_singleton,List.mem_map]at hx;rcases hx with (rfl|⟨c,hc,rfl⟩)|rfl
  ·exact hn
  ·refine⟨fun y hy=>?_,by simp⟩
   simp only[List.mem_singleton]at hy;subst hy;exact h y hc
  ·exact hn
theorem qHT (ws:List (List Int)):∀(i:Nat) {b:List (List Int)},b∈chB ws i->∀u∈b,u∈ws
 | 0,b,h=>by
  obtain⟨v,hv,rfl⟩:=List.mem_map.1 h
  intro u hu
  simp only[oneB,List.mem_singleton]at hu
  subst hu;exact hv
 | i+1,b,h=>by
  obtain⟨c,hc,hb⟩:=List.mem_flatMap.1 h
  obtain⟨v,hv,rfl⟩:=List.mem_map.1 hb
  intro u hu
  rcases List.mem_append.1 hu with hu|hu
  ·exact qHT ws i hc u hu
  ·simp only[List.mem_singleton]at hu
   subst hu;exact List.mem_of_mem_drop hv
theorem qAR (ws:List (List Int)):∀(i:Nat) {b:List (List Int)},b∈allC ws i->b.length<=i+1/\∀u∈b,u∈ws
 | 0,b,h=>by simp[allC]at h
 | i+1,b,h=>by
  rcases List.mem_append.1 h with h|h
  ·exact⟨by have:=(qAR ws i h).1;omega,(qAR ws i h).2⟩
  ·obtain⟨c,hc,hb⟩:=List.mem_flatMap.1 h
   obtain⟨v,hv,rfl⟩:=List.mem_map.1 hb
   refine⟨by rw[List.length_append,iI i hc];simp,fun u hu=>?_⟩
   rcases List.mem_append.1 hu with hu|hu
   ·exact qHT ws i hc u hu
   ·simp only[List.mem_singleton]at hu
    subst hu;exact hv
theorem refL_ok {kind:Int}{L K M:Nat}(hl:L<=6)(hk:K<=8)(hm:M<=4){p:List (List Int)}(hp:p∈refL kind L K M):okP p:=by
 have hw:∀u∈xO L K,okW u/\u.length<=8:=fun u hu=>⟨okB hl (n:=K+1) hu,qAX hk hu⟩;rcases List.mem_append.1 hp with hp|hp
 ·obtain⟨u,hu,hp⟩:=List.mem_flatMap.1 hp
  exact genU_ok (hw u hu).1 (hw u hu).2 hp
 ·split at hp
  ·have h:=qAR _ _ (List.mem_of_mem_take hp)
   exact⟨by omega,fun u hu=>hw u (h.2 u hu)⟩
  ·simp at hp
theorem ref_sorted {kind:Int}{L K M:Nat}(h1:1<=kind)(h7:kind<=7)(hn:¬300<(refL kind L K M).length){ps:List (List (List Int))}(hs:qQ ps)(hp:ps.Perm (refL kind L K M)):ps=famP kind L K M:=by
 refine sorted_is hs (eV _ _ _ _) (hp.trans (aQ h1 h7 M ?_));by_cases hk:kind=7
 ·refine .inl ?_
  rw[refL,if_pos hk,List.length_append,List.length_take]at hn;omega
 ·exact .inr hk
theorem ref_nodup {kind:Int}{L K M:Nat}(h1:1<=kind)(h7:kind<=7)(hn:¬300<(refL kind L K M).length):(refL kind L K M).Nodup:=by
 have hp:(refL kind L K M).Perm (famP kind L K M):=by
  refine aQ h1 h7 M ?_;by_cases hk:kind=7
  ·refine .inl ?_
   rw[refL,if_pos hk,List.length_append,List.length_take]at hn;omega
  ·exact .inr hk
 exact hp.nodup_iff.2 (sortP_nodup (eV _ _ _ _))
theorem str_byte (u:List Int)(p:Nat)(h:p<u.length)(h':p<(strOfNums u).size):(strOfNums u)[p]'h'=UInt8.ofNat (u[p].toNat):=by
 have e:(strOfNums u)[p]'h'=(strOfNums u).data.toList[p]'(by rw[strOfNums_data];simpa using h):=by rw[Array.getElem_toList];rfl
 rw[e];simp only[strOfNums_data,List.getElem_map]
theorem str_ascii {u:List Int}(hu:okW u){p:Nat}(h:p<u.length)(h':p<(strOfNums u).size):((strOfNums u)[p]'h').toNat<128:=by
 obtain⟨a,b⟩:=hu _ (List.getElem_mem h);rw[str_byte u p h h',UInt8.toNat_ofNat'];omega
theorem iW {w:World}{B e size n:Nat}{v:Value}{xs:List Value}{k:Nat}{s:ByteArray}{pos:Nat}(h:w.ownsRow B e size v n xs)(hk:w.heap[k]?=some (.stringIter s pos)):some k≠v.ownBlock:=by
 rcases h.2 with ⟨rfl,_⟩|⟨g,cap,cur,rfl,hb,hg,_⟩
 ·simp[Value.ownBlock]
 ·intro e
  simp only[Value.ownBlock,Option.some.injEq]at e;subst e;rw[hk]at hg;cases hg
def FamS (ba b off len sc:Nat)(ws:List (List Int))(w wx:World)(v:Value)(G:List (List (List Int))):Prop :=
 ∃(n:Nat) (sl:Option Addr) (c:Nat) (svs:List Value),v=.slice sl n c/\LUp 28 ba wx (.slice sl n c) n svs G/\RowT ba 9 wx (.slice (some ⟨b,off,none⟩) len sc) (strs ws)/\w.grownBy wx none/\ba<=wx.heap.size
theorem FamS.shape {ba b off len sc:Nat}{ws:List (List Int)}{w wx:World}{v:Value}{G:List (List (List Int))}(h:FamS ba b off len sc ws w wx v G):∃n sl c,v=.slice sl n c/\FamS ba b off len sc ws w wx (.slice sl n c) G:=by
 obtain⟨n,sl,c,svs,rfl,h⟩:=h;exact⟨n,sl,c,rfl,n,sl,c,svs,rfl,h⟩
theorem qAG {ops:Array Oper}{rest:List Oper}{o:Oper}{a:Act}{Q:Exit->Act->World->Prop}(hgd:o.guard=none)(s x:Operand)(ho:o.op=.call { callee:=.builtin .append,args:=#[s,x],argTypes:=#[22,22] }){ba b off len sc n c q:Nat}{sl:Option Addr}{ws us:List (List Int)}{G:List (List (List Int))}{w wo:World}{cs:Array Value}(hF:FamS ba b off len sc ws w wo (.slice sl n c) G)(hn:G.length<=1700)(hc:cs.toList=strs us)(hq:cs.size=q)(hm:q<=maxLen)(hs:a.eval s=.slice sl n c)(hx:a.eval x=.slice (some ⟨wo.heap.size+1,0,none⟩) 1 1)(hwba:w.heap.size<=ba)(h:∀sl' c' w3,FamS ba b off len sc ws w w3 (.slice sl' (n+1) c') (G++[us])->wpList Try.prog ops Q rest (a.put o.dst (.slice sl' (n+1) c')) w3):wpList Try.prog ops Q (o::rest) a ((wo.alloc (.cells cs 9)).alloc (.cells #[.slice (some ⟨wo.heap.size,0,none⟩) q q] 28)):=by
 obtain⟨n',sl',c',svs,e,hL,hT,hg,h7⟩:=hF;injection e with e1 e2 e3;subst e1;subst e2;subst e3;have h6:=hL.len;have h4:=hL.own.alloc (.cells cs 9);refine app1 hgd s x _ ho gW ba _ n svs hs h4 _ (by rw[zL];exact hx) rfl (by unfold maxLen;omega) (by omega) (by rw[zL];omega) ?_;intro sl1 c1 wp1 h0 h5 _;obtain⟨h3,h1⟩:=(PatsUp.mk hL.own hL.rows).push hc hq hm h0 h5;have h2:=fun q (e:(Value.slice sl n c).ownBlock=some q)=>(hL.own.lt q e).1;exact h sl1 c1 wp1 ⟨n+1,sl1,c1,_,rfl,LUp.ofPats h3,hT.kept h1 (fun q e=>.inl (h2 q e)),zA hg h1 (fun q e=>by have:=h2 q e;omega),by have:=h1.size;omega⟩
theorem rfam_word {Q:Exit->Act->World->Prop}{v1 v3 v4 v5 v6 v7 v8 v9 v10 v11 v12 v13 v14 v16 v17 v18 v19 v20 v21 v22 v23 v24 v25 v26 v27 v28 v29 v30 v31 v32 v33 v34 v35 v36 v37 v38 v39 v40 v41 v42 v43 v44 v45 v46 v47 v48 v49 v50 v51 v52 v53 v54 v55 v56 v57 v58 v59 v60 v61 v62 v63 v64 v65 v66 v67 v68 v69 v70 v71 v72 v73 v74 v75 v76 v77 v78 v79 v80 v81 v82 v83 v84 v85 v86 v87 v89 v91 v92 v93 v94 v95 v96 v97 v98 v99 v100 v101 v102 v103 v104 v105 v106 v107 v108 v109 v110 v111 v112 v113 v114 v115 v116 v117 v118 v119 v120 v121 v122 v123 v124 v125 v126 v127 v128 v129 v130 v131 v132 v133 v134 v135 v136 v137 v138 v139 v140 v141 v142 v143 v144 v145 v146 v147 v148 v149 v150 v151 v152 v153 v154 v155 v156 v157 v158 v159 v160 v161 v162 v163 v164 v165 v166 v167 v168 v169 v170 v171 v172 v173 v174 v175 v176 v177 v178 v179 v180 v181 v182 v183 v184 v185 v186 v187 v188 v189 v190 v191 v192 v193 v194 v195 v196 v197 v198 v199 v200 v201 v202 v203 v204 v205 v206 v207 v208 v209 v210 v211 v212 v213 v214 v215 v216 v217 v218 v219 v220 v221 v222 v223 v224 v225 v226 v227 v228 v229 v230 v231:Value}{KD:Int}{i b off len sc ba n c j:Nat}{sl:Option Addr}{ws:List (List Int)}{u:List Int}{G0:List (List (List Int))}{w wo:World}(hk1:1<=KD)(hk7:KD<=7)(hk8:i<=8)(hu8:u.length<=8)(hlt':(j:Int)<len)(hc1:len<=sc)(hc3:sc<=9223372036854775807)(hw301:len<=301)(hcell:wo.cell? ⟨b,off+j,none⟩=some (.string (strOfNums u)))(HOU:Hid (okW u))(hl0:G0.length<=1505)(hwba:w.heap.size<=ba)(HF:Hid (FamS ba b off len sc ws w wo (.slice sl n c) G0))(hexit:∀ {sl':Option Addr} {n' c':Nat} {wx:World},FamS ba b off len sc ws w wx (.slice sl' n' c') (G0++genU KD i u)->∀ {z17 z18 z19 z91 z92 z93 z94 z95 z96 z97 z98 z99 z100 z101 z102 z103 z104 z105 z106 z107 z108 z109 z110 z111 z112 z113 z114 z115 z116 z117 z118 z119 z120 z121 z122 z123 z124 z125 z126 z127 z128 z129 z130 z131 z132 z133 z134 z135 z136 z137 z138 z139 z140 z141 z142 z143 z144 z145 z146 z147 z148 z149 z150 z151 z152 z153 z154 z155 z156 z157 z158 z159 z160 z161 z162 z163 z164 z165 z166 z167 z168 z169 z170 z171 z172 z173 z174 z175 z176 z177 z178 z179 z180 z181:Value},Q .normal ⟨((Value.int .i64 KD)::v1::(Value.int .i64 i)::v3::v4::v5::v6::v7::v8::v9::v10::v11::v12::v13::v14::(Value.slice sl' n' c')::v16::z17::z18::z19::v20::v21::v22::v23::v24::v25::v26::v27::v28::v29::v30::v31::v32::v33::v34::v35::v36::v37::v38::v39::v40::v41::v42::v43::v44::v45::v46::v47::v48::v49::v50::v51::v52::v53::v54::v55::v56::v57::v58::v59::v60::v61::v62::v63::v64::v65::v66::v67::v68::v69::v70::v71::v72::v73::v74::v75::v76::v77::v78::v79::v80::v81::v82::v83::v84::v85::v86::v87::(Value.slice (some ⟨b,off,none⟩) len sc)::v89::(Value.int .i64 j)::z91::z92::z93::z94::z95::z96::z97::z98::z99::z100::z101::z102::z103::z104::z105::z106::z107::z108::z109::z110::z111::z112::z113::z114::z115::z116::z117::z118::z119::z120::z121::z122::z123::z124::z125::z126::z127::z128::z129::z130::z131::z132::z133::z134::z135::z136::z137::z138::z139::z140::z141::z142::z143::z144::z145::z146::z147::z148::z149::z150::z151::z152::z153::z154::z155::z156::z157::z158::z159::z160::z161::z162::z163::z164::z165::z166::z167::z168::z169::z170::z171::z172::z173::z174::z175::z176::z177::z178::z179::z180::z181::v182::v183::v184::v185::v186::v187::v188::v189::v190::v191::v192::v193::v194::v195::v196::v197::v198::v199::v200::v201::v202::v203::v204::v205::v206::v207::v208::v209::v210::v211::v212::v213::v214::v215::v216::v217::v218::v219::v220::v221::v222::v223::v224::v225::v226::v227::v228::v229::v230::v231::[]).toArray,[]⟩ wx):Code.wp Try.prog (.block 3 (blk Try.f45 3)) Q ⟨((Value.int .i64 KD)::v1::(Value.int .i64 i)::v3::v4::v5::v6::v7::v8::v9::v10::v11::v12::v13::v14::(Value.slice sl n c)::v16::v17::v18::v19::v20::v21::v22::v23::v24::v25::v26::v27::v28::v29::v30::v31::v32::v33::v34::v35::v36::v37::v38::v39::v40::v41::v42::v43::v44::v45::v46::v47::v48::v49::v50::v51::v52::v53::v54::v55::v56::v57::v58::v59::v60::v61::v62::v63::v64::v65::v66::v67::v68::v69::v70::v71::v72::v73::v74::v75::v76::v77::v78::v79::v80::v81::v82::v83::v84::v85::v86::v87::(Value.slice (some ⟨b,off,none⟩) len sc)::v89::(Value.int .i64 j)::v91::v92::v93::v94::v95::v96::v97::v98::v99::v100::v101::v102::v103::v104::v105::v106::v107::v108::v109::v110::v111::v112::v113::v114::v115::v116::v117::v118::v119::v120::v121::v122::v123::v124::v125::v126::v127::v128::v129::v130::v131::v132::v133::v134::v135::v136::v137::v138::v139::v140::v141::v142::v143::v144::v145::v146::v147::v148::v149::v150::v151::v152::v153::v154::v155::v156::v157::v158::v159::v160::v161::v162::v163::v164::v165::v166::v167::v168::v169::v170::v171::v172::v173::v174::v175::v176::v177::v178::v179::v180::v181::v182::v183::v184::v185::v186::v187::v188::v189::v190::v191::v192::v193::v194::v195::v196::v197::v198::v199::v200::v201::v202::v203::v204::v205::v206::v207::v208::v209::v210::v211::v212::v213::v214::v215::v216::v217::v218::v219::v220::v221::v222::v223::v224::v225::v226::v227::v228::v229::v230::v231::[]).toArray,[]⟩ wo:=by
 have f3:(strOfNums u).size=u.length:=strOfNums_size u;have h9:=qJA u;refine wp_block ?_
 let hB:Exit->Act->World->Prop:=bodyPost Try.prog Try.f45 (fun _ _=>True)
 conv=>arg 2;whnf
 go_upto_region 21 with fail;go_cut [109] (fun v wx=>v=.bool (decide (KD=1\/KD=7\/(KD≠6/\u.length<i)))/\wo=wx)
 case first =>
  rcases (by omega:KD=1\/KD=7\/KD=6\/(¬KD=1/\¬KD=7/\¬KD=6)) with rfl|rfl|rfl|⟨h1,h2,h3⟩;rotate_left 3
  ·have e1:(KD == 1)=false:=by rw[beq_eq_false_iff_ne];exact h1
   have e2:(KD == 7)=false:=by rw[beq_eq_false_iff_ne];exact h2
   have e3:(KD == 6)=false:=by rw[beq_eq_false_iff_ne];exact h3
   have e4:(KD != 6)=true:=by rw[bne,e3];rfl
   have H1:=Kh h1;have H2:=Kh h2;have H3:=Kh h3;clear h1 h2 h3;go_wp2
   go_meet
   exact⟨congrArg Value.bool (by simp[H1.out,H2.out,H3.out]),rfl⟩
  all_goals
   go_wp2
   go_meet
   exact⟨congrArg Value.bool (by simp),rfl⟩
 case rest =>
  obtain⟨rfl,rfl⟩:=hcut
  go_upto_if 109 with fail
  go_cut [15] (fun v wx=>FamS ba b off len sc ws w wx v (G0++if KD=1\/KD=7\/(KD≠6/\u.length<i) then [oneB u] else []))
  case first =>
   by_cases hc:KD=1\/KD=7\/(KD≠6/\u.length<i)
   ·have HC:=Kh hc
    rw[decide_eq_true hc];clear hc;go_wp2_with (at_builtin;refine qAG rfl (.tmp 110) (.tmp 114) rfl HF.out (by omega) (us:=oneB u) (cs:=#[.string (strOfNums u)]) (q:=1) rfl rfl (by unfold maxLen;omega) rfl rfl hwba ?_;intro sl' c' w3 H5);go_wp2
    go_meet
    rw[if_pos HC.out];exact H5
   ·have HC:=Kh hc
    rw[decide_eq_false hc];clear hc;go_wp2
    go_meet
    rw[if_neg HC.out,List.append_nil];exact HF.out
  case rest =>
   obtain⟨n,sl,c,rfl,hF⟩:=hcut.shape;have HF:=Kh hF;obtain⟨wo,rfl⟩:∃wo:World,wo=wc:=⟨_,rfl⟩;clear hcut hF;obtain⟨G1,hG⟩:∃G,G=G0++if KD=1\/KD=7\/(KD≠6/\u.length<i) then [oneB u] else []:=⟨_,rfl⟩
   rw[<-hG]at HF;have b6:=Kh hG;have f8:G1.length<=1506:=by rw[hG,List.length_append];have:=jI (c:=KD=1\/KD=7\/(KD≠6/\u.length<i)) (oneB u);omega
   clear hG;by_cases he:u=[]
   ·have a6:(strOfNums u).toList.isEmpty=true:=by rw[h9,he];rfl
    have b1:=Kh he;clear he h9;go_wp2;rw[genU,if_pos b1.out,List.append_nil,<-b6.out];exact HF.out
   have a6:(strOfNums u).toList.isEmpty=false:=by rw[h9,List.isEmpty_eq_false_iff];exact he
   have b1:=Kh he;clear he h9;go_upto_region 24 with fail;go_cut [127] (fun v wx=>v=.bool (decide (KD=2\/KD=4\/KD=5))/\wo=wx)
   case first =>
    rcases (by omega:KD=2\/KD=4\/KD=5\/(¬KD=2/\¬KD=4/\¬KD=5)) with rfl|rfl|rfl|⟨h1,h2,h3⟩;rotate_left 3
    ·have e1:(KD == 2)=false:=by rw[beq_eq_false_iff_ne];exact h1
     have e2:(KD == 4)=false:=by rw[beq_eq_false_iff_ne];exact h2
     have e3:(KD == 5)=false:=by rw[beq_eq_false_iff_ne];exact h3
     have e4:(KD != 5)=true:=by rw[bne,e3];rfl
     have H1:=Kh h1;have H2:=Kh h2;have H3:=Kh h3;clear h1 h2 h3;go_wp2
     go_meet
     exact⟨congrArg Value.bool (by simp[H1.out,H2.out,H3.out]),rfl⟩
    all_goals
     go_wp2
     go_meet
     exact⟨congrArg Value.bool (by simp),rfl⟩
   case rest =>
    obtain⟨rfl,rfl⟩:=hcut
    go_upto_if 127 with fail
    go_cut [15] (fun v wx=>FamS ba b off len sc ws w wx v (G1++if KD=2\/KD=4\/KD=5 then [preB u] else []))
    case first =>
     by_cases hc:KD=2\/KD=4\/KD=5
     ·have HC:=Kh hc
      rw[decide_eq_true hc];clear hc;go_wp2_with (at_builtin;refine qAG rfl (.tmp 128) (.tmp 132) rfl HF.out (by omega) (us:=preB u) (cs:=#[.string (strOfNums u),.string ⟨#[]⟩]) (q:=2) rfl rfl (by unfold maxLen;omega) rfl rfl hwba ?_;intro sl' c' w3 H5);go_wp2
      go_meet
      rw[if_pos HC.out];exact H5
     ·have HC:=Kh hc
      rw[decide_eq_false hc];clear hc;go_wp2
      go_meet
      rw[if_neg HC.out,List.append_nil];exact HF.out
    case rest =>
     obtain⟨n,sl,c,rfl,hF⟩:=hcut.shape;have HF:=Kh hF;obtain⟨wo,rfl⟩:∃wo:World,wo=wc:=⟨_,rfl⟩;clear hcut hF;obtain⟨G2,hG⟩:∃G,G=G1++if KD=2\/KD=4\/KD=5 then [preB u] else []:=⟨_,rfl⟩
     rw[<-hG]at HF;have d2:=Kh hG;have f7:G2.length<=1507:=by rw[hG,List.length_append];have:=jI (c:=KD=2\/KD=4\/KD=5) (preB u);omega
     clear hG;go_upto_region 26 with fail;go_cut [143] (fun v wx=>v=.bool (decide (KD=3\/KD=4\/KD=5))/\wo=wx)
     case first =>
      rcases (by omega:KD=3\/KD=4\/KD=5\/(¬KD=3/\¬KD=4/\¬KD=5)) with rfl|rfl|rfl|⟨h1,h2,h3⟩;rotate_left 3
      ·have e1:(KD == 3)=false:=by rw[beq_eq_false_iff_ne];exact h1
       have e2:(KD == 4)=false:=by rw[beq_eq_false_iff_ne];exact h2
       have e3:(KD == 5)=false:=by rw[beq_eq_false_iff_ne];exact h3
       have e4:(KD != 5)=true:=by rw[bne,e3];rfl
       have H1:=Kh h1;have H2:=Kh h2;have H3:=Kh h3;clear h1 h2 h3;go_wp2
       go_meet
       exact⟨congrArg Value.bool (by simp[H1.out,H2.out,H3.out]),rfl⟩
      all_goals
       go_wp2
       go_meet
       exact⟨congrArg Value.bool (by simp),rfl⟩
     case rest =>
      obtain⟨rfl,rfl⟩:=hcut
      go_upto_if 143 with fail
      go_cut [15] (fun v wx=>FamS ba b off len sc ws w wx v (G2++if KD=3\/KD=4\/KD=5 then [sufB u] else []))
      case first =>
       by_cases hc:KD=3\/KD=4\/KD=5
       ·have HC:=Kh hc
        rw[decide_eq_true hc];clear hc;go_wp2_with (at_builtin;refine qAG rfl (.tmp 144) (.tmp 148) rfl HF.out (by omega) (us:=sufB u) (cs:=#[.string ⟨#[]⟩,.string (strOfNums u)]) (q:=2) rfl rfl (by unfold maxLen;omega) rfl rfl hwba ?_;intro sl' c' w3 H5);go_wp2
        go_meet
        rw[if_pos HC.out];exact H5
       ·have HC:=Kh hc
        rw[decide_eq_false hc];clear hc;go_wp2
        go_meet
        rw[if_neg HC.out,List.append_nil];exact HF.out
      case rest =>
       obtain⟨n,sl,c,rfl,hF⟩:=hcut.shape;have HF:=Kh hF;obtain⟨wo,rfl⟩:∃wo:World,wo=wc:=⟨_,rfl⟩;clear hcut hF;obtain⟨G3,hG⟩:∃G,G=G2++if KD=3\/KD=4\/KD=5 then [sufB u] else []:=⟨_,rfl⟩
       rw[<-hG]at HF;have d1:=Kh hG;have f6:G3.length<=1508:=by rw[hG,List.length_append];have:=jI (c:=KD=3\/KD=4\/KD=5) (sufB u);omega
       clear hG
       go_upto_if 151 with fail
       go_cut [15] (fun v wx=>FamS ba b off len sc ws w wx v (G3++if KD=5 then [facB u] else []))
       case first =>
        by_cases hc:KD=5
        ·have HC:=Kh hc
         have e5:(KD == 5)=true:=by rw[hc];rfl
         clear hc;go_wp2_with (at_builtin;refine qAG rfl (.tmp 152) (.tmp 156) rfl HF.out (by omega) (us:=facB u) (cs:=#[.string ⟨#[]⟩,.string (strOfNums u),.string ⟨#[]⟩]) (q:=3) rfl rfl (by unfold maxLen;omega) rfl rfl hwba ?_;intro sl' c' w3 H5);go_wp2
         go_meet
         rw[if_pos HC.out];exact H5
        ·have HC:=Kh hc
         have e5:(KD == 5)=false:=by rw[beq_eq_false_iff_ne];exact hc
         clear hc;go_wp2
         go_meet
         rw[if_neg HC.out,List.append_nil];exact HF.out
       case rest =>
        obtain⟨n,sl,c,rfl,hF⟩:=hcut.shape;have HF:=Kh hF;obtain⟨wo,rfl⟩:∃wo:World,wo=wc:=⟨_,rfl⟩;clear hcut hF;obtain⟨G4,hG⟩:∃G,G=G3++if KD=5 then [facB u] else []:=⟨_,rfl⟩
        rw[<-hG]at HF;have d0:=Kh hG;have f5:G4.length<=1509:=by rw[hG,List.length_append];have:=jI (c:=KD=5) (facB u);omega
        clear hG;by_cases h6:KD=6
        ·have e6:(KD == 6)=true:=by rw[h6];rfl
         have H6:=Kh h6;obtain⟨n',sl',c',svs,e,b3,hT,hg,f9⟩:=HF.out;injection e with e1 e2 e3;subst e1;subst e2;subst e3;have hn:n<=1700:=by have:=b3.len;omega
         have b0:=Kh b3;clear b3 h6;have g0:wo.grownBy (wo.alloc (.cells #[.string ⟨#[]⟩] 9)) none:=Ga _ _ _;have ho:=World.ownsRow_lit (e:=9) (size:=1) wo #[.string ⟨#[]⟩] 1 (Nat.le_refl _) (by unfold maxLen;omega) (by simp)
         have b9:((wo.alloc (.cells #[.string ⟨#[]⟩] 9)).iter (strOfNums u) 0).heap[wo.heap.size+1]?=some (.stringIter (strOfNums u) 0):=by
          have:=World.iter_heap (wo.alloc (.cells #[.string ⟨#[]⟩] 9)) (strOfNums u) 0
          rwa [zL]at this
         have c8:=Kh (ho.alloc (.stringIter (strOfNums u) 0));have c9:=Kh b9;have d3:=Kh (vO g0 (.stringIter (strOfNums u) 0));clear ho b9 g0;go_wp2
         go_loopg [18] u.length (fun gh v wq=>∃(p:Nat) (sb:Option Addr) (cb:Nat),gh+p=u.length/\v=.slice sb (1+p) cb/\wq.ownsRow wo.heap.size 9 1 (.slice sb (1+p) cb) (1+p) (strs (oY u p))/\wq.heap[wo.heap.size+1]?=some (.stringIter (strOfNums u) p)/\wo.grownBy wq none)
         case atStart=>exact⟨0,_,_,rfl,rfl,c8.out,c9.out,d3.out⟩
         case round =>
          clear c8 c9 d3;obtain⟨p,sb,cb,c0,rfl,h0,h7,a5⟩:=hrel;obtain⟨wq,rfl⟩:∃wq:World,wq=wr:=⟨_,rfl⟩;have H7:=Kh c0;clear c0;by_cases hpl:p<u.length
          ·have a1:p<(strOfNums u).size:=by omega
           have a2:∀ty,(Instr.next (.pointer (some ⟨wo.heap.size+1,0,none⟩)) true ty).run Try.prog wq=_:=fun ty=>Lib.run_next_ascii_at wq (wo.heap.size+1) (strOfNums u) p ty h7 a1 (str_ascii HOU.out hpl a1);have e0:=extract_one u p hpl;have H4:=Lib.iterAt_heap wq (wo.heap.size+1) (strOfNums u) p (p+1) h7;have b4:=grown_iterAt wq (wo.heap.size+1) (strOfNums u) (p+1);have h5:=h0.kept b4 (.inr (iW h0 h7).symm);have h8:=zA a5 b4 (fun q e=>by have:=Oj e;omega);obtain⟨BY,c7⟩:∃BY:Nat,BY=((strOfNums u)[p]'a1).toNat:=⟨_,rfl⟩;rw[<-c7]at a2;obtain⟨wi,b7⟩:∃wi,wq.iterAt (wo.heap.size+1) (strOfNums u) (p+1)=wi:=⟨_,rfl⟩;rw[b7]at a2 H4 h5 h8;have a7:=Kh H4;have d7:(p:Int)+1<=8:=by omega
           have f4:(p:Int)<((strOfNums u).size:Int):=(by omega);have d8:(p:Int)+1<=((strOfNums u).size:Int):=by omega
           clear c7 b7 b4 h0 h7 a5 H4;go_wp2_with (at_builtin;refine app1 rfl (.tmp 166) (.tmp 172) _ rfl nC wo.heap.size _ (1+p) (strs (oY u p)) rfl h5 _ rfl rfl ?c1 ?c2 ?c3 ?_)
           case c1=>unfold maxLen;omega
           case c2=>omega
           case c3=>exact h8.size
           intro sb' cb' w3 h4 H9 _;have c6:=fun q (e:(Value.slice sb (1+p) cb).ownBlock=some q)=>(h5.lt q e).1;have H8:=zA h8 H9 c6;have a4:=zB a7.out H9 (fun e=>iW h5 a7.out e.symm)
           have e1:strs (oY u (p+1))=strs (oY u p)++[.string (strOfNums [u[p]])]:=by
            rw[oY,oY,List.take_succ_eq_append_getElem hpl,List.map_append,<-List.append_assoc,oH];rfl
           have HE:=Kh e1;have f0:=Kh h4;have f2:=Kh a4;clear h5 h8 H9 e0 e1 h4 a4 a2 c6;go_wp2;go_roundg (u.length-(p+1))
           case measure=>have:=H7.out;omega
           case rel=>exact⟨p+1,sb',cb',by have:=H7.out;omega,rfl,by rw[HE.out];exact f0.out,f2.out,H8⟩
          ·obtain⟨ub,a8⟩:∃ub,ub=oY u p:=⟨_,rfl⟩
           have d6:p=u.length:=by have:=H7.out;omega
           have b2:ub.length=1+p:=by rw[a8];simp[oY];omega
           have a0:rL u=ub++[[]]:=by rw[a8,oY,List.take_of_length_le (by omega)];rfl
           have a1:¬p<(strOfNums u).size:=(by omega);have d7:p<=8:=by omega
           have a2:∀ty,(Instr.next (.pointer (some ⟨wo.heap.size+1,0,none⟩)) true ty).run Try.prog wq=_:=fun ty=>Lib.run_next_end_at wq (wo.heap.size+1) (strOfNums u) p ty h7 a1;rw[<-a8]at h0;have e8:=Kh a0;clear a8 b2 a0 d6 h7 hpl;go_wp2_with (at_builtin;refine app1 rfl (.tmp 175) (.tmp 176) _ rfl nC wo.heap.size _ (1+p) (strs ub) rfl h0 _ rfl rfl ?c1 ?c2 ?c3 ?_)
           case c1=>unfold maxLen;omega
           case c2=>omega
           case c3=>exact a5.size
           intro sb' cb' w3 h4 H9 _;have H8:=zA a5 H9 (fun q e=>(h0.lt q e).1);have e3:strs ub++[.string ⟨#[]⟩]=strs (rL u):=by rw[e8.out,oH];rfl
           rw[e3]at h4;have a3:=b0.out.kept H8 (by simp);have d5:=H8.size;clear h0 H9 a5 a2 e3;go_wp2_with (at_builtin;refine app1 rfl (.tmp 174) (.tmp 179) _ rfl gW ba _ n svs rfl a3.own _ rfl rfl ?c1 ?c2 ?c3 ?_)
           case c1=>unfold maxLen;omega
           case c2=>omega
           case c3=>omega
           intro sl5 c5 w5 H0 c4 _;obtain⟨b8,a9⟩:=b0.out.push (us:=rL u) H8 h4 H0 c4;have b5:=fun q (e:(Value.slice sl n c).ownBlock=some q)=>(b0.out.own.lt q e).1;have e7:=hT.kept a9 (fun q e=>.inl (b5 q e));have d9:=zA hg a9 (fun q e=>by have:=b5 q e;omega);have d4:ba<=w5.heap.size:=by have:=a9.size;omega
           have e9:=Kh b8;clear h4 H0 H8 c4 a9 a3 b8 hT hg b5 b0 d5;go_wp2;exact⟨_,_,_,_,rfl,by rw[genU,if_neg b1.out,if_pos H6.out,<-List.append_assoc,<-List.append_assoc,<-List.append_assoc,<-List.append_assoc,<-b6.out,<-d2.out,<-d1.out,<-d0.out];exact e9.out,e7,d9,d4⟩
        ·have e6:(KD == 6)=false:=by rw[beq_eq_false_iff_ne];exact h6
         have f1:=Kh h6;clear h6;go_wp2;rw[genU,if_neg b1.out,if_neg f1.out,List.append_nil,<-List.append_assoc,<-List.append_assoc,<-List.append_assoc,<-b6.out,<-d2.out,<-d1.out,<-d0.out];exact HF.out
theorem qDE (KD:Int)(L K M:Nat)(w:World)(ho:oS KD L K M=true):Calls Try.prog 45 #[.int .i64 KD,.int .i64 L,.int .i64 K,.int .i64 M] w (uZ w (famE KD L K M) (famL KD L K M)):=by
 have i1:=Kh (yK w (L:Int));have HO:=Kh ho;simp only[oS,decide_eq_true_eq]at ho;obtain⟨b7,b6,m8,m7,hk,n0,hm⟩:=ho;have q9:M<=4:=by split at hm<;>omega
 have c8:1<=L:=by omega
 have c7:L<=6:=by omega
 have c9:K<=8:=by omega
 rw[decide_eq_true (show 1<=(L:Int)/\(L:Int)<=6 by omega)]at i1;have g7:=Kh (size_is (kind:=KD) (letters:=L) (k:=K) (m:=M) b7 b6 c8 (fun _=>by omega));have l4:=Kh (ref_len (kind:=KD) (letters:=L) (k:=K) b7 b6 M);have p3:=Kh (famP_ge (kind:=KD) (L:=L) (K:=K) M);have HM:=Kh hm;obtain⟨lo,f9⟩:∃lo:Int,lo=if KD=1 then 0 else 1:=⟨_,rfl⟩
 rw[<-f9]at hk;have i4:=Kh f9;have g6:Hid (∀i,i<=K->(upTo L (i+1)).length<=20000000):=Kh (fun i hi=>by have:=fA L c7 (i+1) (by omega);omega);have k5:KD=1\/KD=2\/KD=3\/KD=4\/KD=5\/KD=6\/KD=7:=by omega
 clear hm f9;go_enter Try.func45,Try.ntmps45
 go_upto_if 23 with fail
 go_cut [10] (fun v10 wx=>v10=.int .i64 lo/\w=wx)
 case first =>
  by_cases h1:KD=1
  ·have e1:(KD == 1)=true:=by rw[h1];rfl
   have i5:Hid (lo=0):=Kh (by rw[i4.out,if_pos h1]);clear h1;go_wp2
   go_meet
   exact⟨by rw[i5.out],rfl⟩
  ·have e1:(KD == 1)=false:=by rw[beq_eq_false_iff_ne];exact h1
   have i5:Hid (lo=1):=Kh (by rw[i4.out,if_neg h1]);clear h1;go_wp2
   go_meet
   exact⟨by rw[i5.out],rfl⟩
 case rest =>
  obtain⟨rfl,rfl⟩:=hcut;go_upto_region 4 with fail;go_cut [63] (fun v63 wx=>v63=.bool false/\w=wx)
  case first =>
   as_aux_lemma =>
    by_cases h7:KD=7
    ·have e7:(KD == 7)=true:=by rw[h7];rfl
     have e8:(KD != 7)=false:=by rw[h7];rfl
     have m6:(M:Int)<=4:=by omega
     clear h7;go_wp2_with fail;refine i1.out.mono ?_;rintro e w ⟨rfl,rfl⟩;go_wp2
     go_meet
     exact⟨congrArg Value.bool (by simp only[Bool.or_eq_false_iff,decide_eq_false_iff_not];omega),rfl⟩
    ·have e7:(KD == 7)=false:=by rw[beq_eq_false_iff_ne];exact h7
     have e8:(KD != 7)=true:=by rw[bne,e7];rfl
     have j7:(M:Int)=0:=by have:=HM.out;rwa [if_neg h7]at this
     have m6:((M:Int) != 0)=false:=by rw[j7];rfl
     clear h7 j7;go_wp2_with fail;refine i1.out.mono ?_;rintro e w ⟨rfl,rfl⟩;go_wp2
     go_meet
     exact⟨congrArg Value.bool (by simp only[Bool.or_eq_false_iff,decide_eq_false_iff_not];omega),rfl⟩
  case rest =>
   obtain⟨rfl,rfl⟩:=hcut;by_cases hsix:KD=6/\8<(K:Int)+2
   ·have H3:=Kh (qAH HO.out (.inl hsix))
    obtain⟨h6,o1⟩:=hsix;have e6:(KD == 6)=true:=by rw[h6];rfl
    clear h6;go_wp2;refine bodyPost_ret (v:=.tuple #[.slice none 0 0,.int .i64 3]) (by simp[results,Try.results45,go_sem]) rfl ?_;rw[H3.out.1,H3.out.2];exact uZ.nil (zH _ _)
   have o4:=Kh hsix;go_upto_region 6 with fail;go_cut [70] (fun v70 wx=>v70=.bool false/\w=wx)
   case first =>
    by_cases h6:KD=6
    ·have e6:(KD == 6)=true:=by rw[h6];rfl
     have o1:¬8<(K:Int)+2:=fun h=>hsix ⟨h6,h⟩;clear h6 hsix;go_wp2
     go_meet
     exact⟨rfl,rfl⟩
    ·have e6:(KD == 6)=false:=by rw[beq_eq_false_iff_ne];exact h6
     clear h6 hsix;go_wp2
     go_meet
     exact⟨rfl,rfl⟩
   case rest =>
    obtain⟨rfl,rfl⟩:=hcut;clear hsix
    as_aux_lemma =>
     go_wp2
     go_loopg [11,12,13] K (fun gh vc vi vp wr=>∃i:Nat,gh+i=K/\vc=.int .i64 (((upTo L (i+1)).length:Nat):Int)/\vi=.int .i64 (i:Int)/\vp=.int .i64 ((L ^ i:Nat):Int)/\w=wr)
     case atStart=>exact⟨0,rfl,by rw[wS,List.length_append,tU];simp[upTo],rfl,rfl,rfl⟩
     case round =>
      obtain⟨i,b8,rfl,rfl,rfl,rfl⟩:=hrel;have H1:=Kh b8;clear b8;have k8:=g6.out i (by have:=H1.out;omega);by_cases hlt:i<K
      ·have b3:(i:Int)<(K:Int):=by omega
       have k7:=g6.out (i+1) (by omega);have e0:=upTo_len_step L i;rw[e0]at k7;have g8:=Kh e0;obtain⟨CN,d4⟩:∃CN,CN=(upTo L (i+1)).length:=⟨_,rfl⟩;obtain⟨PW,g5⟩:∃PW,PW=L ^ i:=⟨_,rfl⟩;obtain⟨P2,b9⟩:∃P2,P2=L ^ i*L:=⟨_,rfl⟩;have m5:(PW:Int)*(L:Int)=(P2:Int):=by rw[b9,g5];push_cast;rfl
       have d6:Hid ((upTo L (i+1+1)).length=CN+P2/\L ^ (i+1)=P2):=Kh ⟨by rw[g8.out,d4,b9],by rw[b9,Nat.pow_succ]⟩;rw[<-b9,<-d4]at k7;rw[<-d4,<-g5];clear e0 d4 g5 b9 k8;go_wp2;go_roundg (K-(i+1))
       case measure=>have:=H1.out;omega
       case rel=>exact⟨i+1,by have:=H1.out;omega,by rw[d6.out.1];go_num,by go_num,by rw[d6.out.2],rfl⟩
      ·obtain rfl:i=K:=by have:=H1.out;omega
       clear hlt g6;obtain⟨ws,H2⟩:∃ws,ws=xO L i:=⟨_,rfl⟩;have o2:=Kh H2;have c6:upTo L (i+1)=ws:=H2.symm;rw[c6]at k8⊢;have i6:Hid (ws.length<=(famP KD L i M).length+1):=Kh (by rw[H2];exact p3.out);have q0:1<=ws.length:=by rw[H2];exact qDV c8
       have p7:Hid (1<=i->2<=ws.length):=Kh (fun h=>by rw[H2];exact upTo_two c8 h);have l2:Hid (∀r (h:r<ws.length),(ws[r]=[]↔r=0)):=Kh (by subst H2;exact fun r h=>words_first h);have o3:Hid (∀u∈ws,u.length<=8):=Kh (by subst H2;exact fun u hu=>qAX c9 hu);have o8:Hid (∀u∈ws,okW u):=Kh (by subst H2;exact fun u hu=>okB c7 (n:=i+1) hu);have l3:Hid (ws.length<=301->Calls Try.prog 76 #[.int .i64 L,.int .i64 i] w (qJG w ws)):=Kh (fun h=>by rw[<-c6];exact upto_any L i w c8 c7 c9 (by rw[c6];omega));clear H2 c6;by_cases hbig:300<(ws.length:Int)-1
       ·have H3:=Kh (qAH HO.out (.inr (g7.out.2 (by have:=i6.out;omega))))
        go_wp2;refine bodyPost_ret (v:=.tuple #[.slice none 0 0,.int .i64 3]) (by simp[results,Try.results45,go_sem]) rfl ?_;rw[H3.out.1,H3.out.2];exact uZ.nil (zH _ _)
       have c1:=Kh (l3.out (by omega));clear l3;go_wp2_with fail;refine c1.out.mono ?_;rintro e w1 ⟨sa,sc,rfl,H5,g1⟩;obtain⟨b,off,rfl,n8,k6⟩:=cJ H5 (by omega);have n7:sc<=9223372036854775807:=by unfold maxLen at k6;omega
       have H9:ws.length<=301:=by omega
       clear c1 k6 hbig;obtain⟨ba,g3⟩:∃ba,ba=w1.heap.size:=⟨_,rfl⟩;rw[<-g3]at H5;have a6:ba<=w1.heap.size:=by omega
       have d8:w.heap.size<=ba:=by rw[g3];exact g1.size
       clear g3;go_wp2
       go_loopw [15,90] (fun v iv wr=>∃(j n:Nat) (sl:Option Addr) (c:Nat) (svs:List Value),iv=.int .i64 (j:Int)/\j<=ws.length/\v=.slice sl n c /\
         LUp 28 ba wr (.slice sl n c) n svs (genL KD i (ws.take j))/\RowT ba 9 wr (.slice (some ⟨b,off,none⟩) ws.length sc) (strs ws)/\w.grownBy wr none/\ba<=wr.heap.size)
        (fun _ iv _=>ws.length-(intOf iv).toNat)
       case atStart=>exact⟨0,0,none,0,[],rfl,Nat.zero_le _,rfl,by simpa [genL] using LUp.nil (by decide) _ _,H5,g1,a6⟩
       case round =>
        clear H5 g1 a6;obtain⟨j,n,sl,c,svs,rfl,hj,rfl,h3,hT,hg,a6⟩:=hrel;obtain⟨wo,rfl⟩:∃wo:World,wo=wr:=⟨_,rfl⟩
        have hn:n<=1600:=by
         have h1:=h3.len;have h2:=qAF KD i (ws.take j);rw[List.length_take]at h2;omega
        have h0:=Kh h3;clear h3;by_cases hlt:j<ws.length
        ·have b3:(j:Int)<ws.length:=by omega
         have h9:=gY hT hlt;have i8:=o3.out _ (List.getElem_mem hlt);have e4:=genL_snoc KD i hlt;obtain⟨u,d9⟩:∃u,u=ws[j]:=⟨_,rfl⟩;rw[<-d9]at h9 i8 e4;have o5:=Kh e4;have o9:Hid (okW u):=Kh (o8.out u (by rw[d9];exact List.getElem_mem hlt));clear d9 e4
         go_upto_block 3 with fail
         refine rfam_word b7 b6 c9 i8 b3 n8 n7 H9 h9 o9 (G0:=genL KD i (ws.take j)) (by have:=qAF KD i (ws.take j);rw[List.length_take]at this;omega) d8 (Kh ⟨n,sl,c,svs,rfl,h0.out,hT,hg,a6⟩) ?_;intro sl' n' c' wx hF
         intros
         obtain⟨n3,sl3,c3,svs3,e,b4,n9,d0,g2⟩:=hF;injection e with e1 e2 e3;subst e1;subst e2;subst e3;have i3:=Kh b4;clear b4 hT hg a6 h9;go_wp2;go_roundw
         case rel=>exact⟨j+1,_,_,_,svs3,by go_num,by omega,rfl,by rw[o5.out];exact i3.out,n9,d0,g2⟩
         case measure=>simp[intOf];omega
        ·obtain rfl:j=ws.length:=by omega
         rw[List.take_length]at h0;have a8:Hid (refL KD L i M=genL KD i ws++if KD=7 then (allC ws (M+1)).take 301 else []):=Kh (by rw[refL,o2.out]);clear hlt hj
         go_upto_if 183 with fail
         go_cut [15] (fun v wx=>∃(n:Nat) (sl:Option Addr) (c:Nat) (svs:List Value),v=.slice sl n c/\n<=2000/\LUp 28 ba wx (.slice sl n c) n svs (refL KD L i M)/\w.grownBy wx none)
         case first =>
          by_cases h7:KD=7
          ·have e7:(KD == 7)=true:=by rw[h7];rfl
           have r0:1<=i:=by have:=i4.out;rw[if_neg (by omega)]at this;omega
           have H7:=Kh h7;clear h7;have m0:=Kh (rchains_any ba wo (.slice (some ⟨b,off,none⟩) ws.length sc) ws M a6 hT (by omega) (p7.out (by omega)) H9 ((l2.out 0 (by omega)).2 rfl) (fun r h h1 e=>by have:=(l2.out r h).1 e;omega));obtain⟨CH,d5⟩:∃CH,CH=(allC ws (M+1)).take 301:=⟨_,rfl⟩;rw[<-d5]at m0;have q8:CH.length<=301:=by rw[d5,List.length_take];omega
           have p6:=Kh d5;clear d5;go_wp2_with fail;refine m0.out.mono ?_;rintro e w2 ⟨sb,cb,svb,rfl,i9,H4,d3⟩;have b5:=h0.out.kept d3 (by simp);have q3:=H4.1;have c4:Hid (∀x∈svb,x.oneCell'=true):=Kh H4.one;have m1:=d3.size;go_wp2_with (at_builtin;refine appR rfl (.tmp 184) (.tmp 187) _ rfl gW ba _ n svs rfl b5.own _ svb rfl ⟨_,i9.row⟩ c4.out (n+CH.length) ?a1 ?a2 ?a3 ?a4 ?_)
           case a1=>omega
           case a2=>unfold maxLen;omega
           case a3=>omega
           case a4=>omega
           intro sl2 c2 w3 a0 d0;obtain⟨j3,k4⟩:=h0.out.cat d3 H4 a0 d0;have k3:=zA hg k4 (fun q e=>by have:=(h0.out.own.lt q e).1;omega);have c5:=Kh j3;clear b5 i9 H4 a0 d0 k4 j3 hT hg d3 h0 a6 m1 c4;have h0:=c5;have hg:=k3;clear c5 k3;go_wp2
           go_meet
           exact⟨n+CH.length,sl2,c2,svs++svb,rfl,by omega,by rw[a8.out,if_pos H7.out,<-p6.out];exact h0.out,hg⟩
          ·have e7:(KD == 7)=false:=by rw[beq_eq_false_iff_ne];exact h7
           have H7:=Kh h7;clear h7;go_wp2
           go_meet
           exact⟨n,sl,c,svs,rfl,by omega,by rw[a8.out,if_neg H7.out,List.append_nil];exact h0.out,hg⟩
         case rest =>
          clear h0 hT hg a6 a8;obtain⟨m,sl2,c2,svs,rfl,q2,h3,hg⟩:=hcut;obtain⟨wo,rfl⟩:∃wo:World,wo=wc:=⟨_,rfl⟩;have h0:=Kh h3;clear h3
          as_aux_lemma =>
           obtain⟨RL,g4⟩:∃RL,RL=refL KD L i M:=⟨_,rfl⟩;have h4:=Kh g4;rw[<-g4]at h0;clear g4;have j4:=h0.out.len;by_cases hlim:300<m
           ·have a5:(300:Int)<(m:Int):=by omega
            have H3:=Kh (qAH HO.out (.inr (g7.out.2 (l4.out.1 (by rw[<-h4.out];omega)))));clear hlim;go_wp2;refine bodyPost_ret (v:=.tuple #[.slice none 0 0,.int .i64 3]) (by simp[results,Try.results45,go_sem]) rfl ?_;rw[H3.out.1,H3.out.2];exact uZ.nil hg
           have a5:¬(300:Int)<(m:Int):=(by omega);have l9:=Kh (famE_small HO.out (o4.out) (fun h=>by have:=l4.out.2 (g7.out.1 h);rw[<-h4.out]at this;omega));have l7:Hid RL.Nodup:=Kh (by rw[h4.out];exact ref_nodup b7 b6 (by rw[<-h4.out];omega));have i7:Hid (∀ps,qQ ps->ps.Perm RL->ps=famP KD L i M):=Kh (fun ps h1 h2=>ref_sorted b7 b6 (by rw[<-h4.out];omega) h1 (by rw[<-h4.out];exact h2));have l6:Hid (∀p∈RL,okP p):=Kh (fun p hp=>by rw[h4.out]at hp;exact refL_ok c7 c9 (by omega) hp);have c0:m<=300:=by omega
           have p0:=Kh j4;clear hlim j4 h4;obtain⟨NL,l1⟩:∃NL,NL=m:=⟨_,rfl⟩;rw[<-l1]at h0 p0 c0 a5⊢;clear l1;obtain⟨SL,k9⟩:∃SL,SL=sl2:=⟨_,rfl⟩;rw[<-k9]at h0⊢;clear k9;obtain⟨SC,l0⟩:∃SC,SC=c2:=⟨_,rfl⟩;rw[<-l0]at h0⊢;clear l0;go_wp2
           go_loopg [194] NL (fun gh iv wx=>∃(q:Nat) (sv:List Value) (ps:List (List (List Int))),gh+q=NL/\iv=.int .i64 (q:Int)/\LUp 28 ba wx (.slice SL NL SC) NL sv ps/\Hid (qQ (ps.take q)/\ps.Perm RL)/\w.grownBy wx none)
           case atStart=>exact⟨0,_,_,rfl,rfl,h0.out,Kh ⟨by simp[qQ],List.Perm.refl _⟩,hg⟩
           case round =>
            clear h0 hg;obtain⟨q,sv,ps,b8,rfl,h3,b0,hg⟩:=hrel;obtain⟨wa,rfl⟩:∃wa:World,wa=wr:=⟨_,rfl⟩;have H1:=Kh b8;have h0:=Kh h3;clear b8;by_cases hq:q<NL
            ·have q1:(q:Int)<(NL:Int):=by omega
             rcases id h3.own.2 with ⟨_,e2⟩|⟨g,cap,cur,e1,hgb,_,hnc,hcm,_,_⟩
             ·omega
             simp only[Value.slice.injEq]at e1;obtain⟨rfl,_,rfl⟩:=e1;have o0:SC<=9223372036854775807:=by unfold maxLen at hcm;omega
             have p9:w.heap.size<=g:=by omega
             have l8:Hid (InsI RL ps q q):=Kh (ins_start b0.out.1 (by have:=h3.len;omega) b0.out.2);clear h3 b0 hcm;go_wp2
             go_loopg [21] q (fun gh jv wx=>∃(j:Nat) (sv:List Value) (ps:List (List (List Int))),j=gh/\j<=q/\jv=.int .i64 (j:Int)/\LUp 28 ba wx (.slice (some ⟨g,0,none⟩) NL SC) NL sv ps/\Hid (InsI RL ps q j)/\w.grownBy wx none)
             case atStart=>exact⟨q,sv,ps,rfl,Nat.le_refl _,rfl,h0.out,l8,hg⟩
             case round =>
              clear h0 l8 hg;obtain⟨j,sv,ps,rfl,q5,rfl,h3,b1,hg⟩:=hrel;obtain⟨wb,rfl⟩:∃wb:World,wb=wr:=⟨_,rfl⟩;by_cases hj0:j=0
              ·subst hj0
               have h0:=Kh h3;clear h3;go_wp2
               go_quiet (fail)
               go_wp2;go_roundg (NL-(q+1))
               case measure=>have:=H1.out;omega
               case rel=>exact⟨q+1,sv,ps,by have:=H1.out;omega,by go_num,h0.out.kept (zM wb _ none) (by simp),Kh (qFD b1.out l7.out (.inl rfl)),zA hg (zM wb _ none) (by simp)⟩
              ·obtain⟨k,j9⟩:∃k,j=k+1:=⟨j-1,by omega⟩
               obtain⟨a1,d1,p1,f0,f6,H8,j1⟩:=h3.at (i:=k) (by omega);obtain⟨a2,d2,p2,e5,f5,H6,j0⟩:=h3.at (i:=j) (by omega);obtain⟨A0,x0,B0,C0,f3,_,_,_,_,h5⟩:=b1.out;have f8:=l6.out p1 (h5.mem_iff.1 (List.mem_of_getElem? f6));have f7:=l6.out p2 (h5.mem_iff.1 (List.mem_of_getElem? f5));clear f3 h5;have h8:wb.grownBy wb.drew none:=zO wb none;have a9:=Kh (less_any wb.heap.size wb.heap.size wb.drew (.slice a2 p2.length d2) (.slice a1 p1.length d1) p2 p1 (j0.kept h8 (by simp)).row (j1.kept h8 (by simp)).row f7.2 f8.2 f7.1 f8.1);have h0:=Kh h3;have n5:(0:Int)<(j:Int):=(by omega);have g0:0<j:=(by omega);have q7:decide ((0:Int)<(j:Int))=true:=decide_eq_true n5;have q6:decide (0<j)=true:=decide_eq_true g0;have q4:(j:Int)<(NL:Int):=(by omega);have m9:(k:Int)<(NL:Int):=(by omega);have p8:IntKind.i64.wrap ((j:Int)-1)=(k:Int):=by rw[IntWalk.i64_in _ (by omega)];omega
               have m2:IntKind.i64.wrap (k:Int)=(k:Int):=IntWalk.i64_in _ (by omega);have n4:(0:Int)<=(k:Int):=by omega
               have j8:(k:Int)<=300:=by omega
               have m4:(j:Int)-1=(k:Int):=by omega
               have b2:=Kh j9;have d7:Hid (∀W,wb.drew.grownBy W none->W.cell? ⟨g,j,none⟩=some (.slice a2 p2.length d2)/\W.cell? ⟨g,k,none⟩=some (.slice a1 p1.length d1)):=Kh (fun W hW=>⟨vD (vD H6 h8) hW,vD (vD H8 h8) hW⟩);obtain⟨n2,j5⟩:∃n2,n2=p2.length:=⟨_,rfl⟩;obtain⟨n1,j6⟩:∃n1,n1=p1.length:=⟨_,rfl⟩;rw[<-j6]at f0 H8 a9 d7;rw[<-j5]at e5 H6 a9 d7;have o6:=Kh f0;have d6:=Kh e5;have i0:=Kh f6;have g9:=Kh f5;clear h3 j1 j0 f8 f7 f0 e5 f6 f5 j6 j5 j9 hj0;cases hle:vL p2 p1 with
               | false =>
                rw[hle]at a9;have p5:=Kh (qFD b1.out l7.out (.inr ⟨k,p1,p2,b2.out,i0.out,by rw[<-b2.out];exact g9.out,hle⟩));clear hle b1;go_wp2
                go_region_held3 (fun W=>W.cell? ⟨g,j,none⟩=some (.slice a2 n2 d2)/\W.cell? ⟨g,k,none⟩=some (.slice a1 n1 d1))
                 (first|go_keep|exact d7.out _ H0|fail)
                 (first|(go_at_call 78;(with_reducible refine a9.out.mono ?_);rintro e w7 ⟨rfl,H0⟩)|fail)
                go_wp2;go_roundg (NL-(q+1))
                case measure=>have:=H1.out;omega
                case rel=>exact⟨q+1,sv,ps,by have:=H1.out;omega,by go_num,(h0.out.kept h8 (by simp)).kept H0 (by simp),p5,zA (zA hg h8 (by simp)) H0 (by simp)⟩
               | true =>
                rw[hle]at a9;have g8:=Kh (ins_step (by rw[<-b2.out];exact b1.out) i0.out (by rw[<-b2.out];exact g9.out) hle);clear hle b1;go_wp2
                go_region_held3 (fun W=>W.cell? ⟨g,j,none⟩=some (.slice a2 n2 d2)/\W.cell? ⟨g,k,none⟩=some (.slice a1 n1 d1))
                 (first|go_keep|exact d7.out _ H0|fail)
                 (first|(go_at_call 78;(with_reducible refine a9.out.mono ?_);rintro e w7 ⟨rfl,H0⟩)|fail)
                have a7:=(h0.out.kept h8 (by simp)).kept H0 (by simp);have k0:=zA (zA hg h8 (by simp)) H0 (by simp);have k1:=vD (vD H8 h8) H0;have k2:=vD (vD H6 h8) H0;rcases id a7.own.2 with ⟨e1,_⟩|⟨g',cap,cur,e1,_,hgk,_,_,_,_⟩
                ·simp at e1
                simp only[Value.slice.injEq,Option.some.injEq,Addr.mk.injEq,and_true]at e1;obtain⟨rfl,_,rfl⟩:=e1;have f1:=frozen_of_row w7 g k _ _ hgk;have f2:=frozen_of_row w7 g j _ _ hgk;have i2:=Kh a7;have p4:=Kh k0;have r1:=Kh hgk;clear a7 k0 hgk hg h8 H0 H8 H6 h0 a9;go_wp2
                go_region
                all_goals
                 go_wp2;go_roundg k
                 case measure=>have:=b2.out;omega
                 case rel =>
                  have e9:=b2.out;subst e9;obtain⟨m3,n6⟩:=i2.out.drewN.swap o6.out d6.out i0.out g9.out (W:=_) (by first|exact .inl rfl|exact .inr rfl);exact⟨k,_,_,rfl,by omega,by go_num,m3,g8,zA (zA p4.out (zO w7 none) (by simp)) n6 (fun x e=>by have:g=x:=Oj e;omega)⟩
            ·obtain rfl:q=NL:=by have:=H1.out;omega
             have f4:=h3.len;have j2:ps=famP KD L i M:=i7.out ps (by have:=b0.out.1;rwa [f4,List.take_length]at this) b0.out.2;have o7:=Kh j2;have l5:=Kh f4;clear j2 f4 h3 b0;go_wp2;refine bodyPost_ret (v:=.tuple #[.slice SL q SC,.int .i64 0]) (by simp[results,Try.results45,go_sem]) rfl ?_;rw[l9.out.1,l9.out.2,<-o7.out];exact⟨SL,SC,sv,by rw[<-l5.out],by rw[<-l5.out];exact RowT.of_owns h0.out.own,h0.out.rows,hg⟩
theorem rfamily_any (kind letters k m:Int)(w:World):Calls Try.prog 45 #[.int .i64 kind,.int .i64 letters,.int .i64 k,.int .i64 m] w (uZ w (famE kind letters k m) (famL kind letters k m)):=by
 cases ho:oS kind letters k m with
 | false =>
  have e1:famE kind letters k m=1:=by rw[famE,if_pos ho]
  have e2:famL kind letters k m=[]:=by rw[famL,e1];rfl
  rw[e1,e2];exact rfam_err _ _ _ _ _ ho
 | true =>
  have h0:=ho;simp only[oS,decide_eq_true_eq]at ho;obtain⟨h6,h5,h3,h2,hk,h4,hm⟩:=ho;have h1:0<=m/\m<=4:=by split at hm<;>omega
  have h7:0<=k:=by split at hk<;>omega
  obtain⟨L,rfl⟩:∃L:Nat,letters=(L:Int):=⟨letters.toNat,by omega⟩;obtain⟨K,rfl⟩:∃K:Nat,k=(K:Int):=⟨k.toNat,by omega⟩;obtain⟨M,rfl⟩:∃M:Nat,m=(M:Int):=⟨m.toNat,by omega⟩;exact qDE kind L K M w h0
open Go.Maps
def qGD (l:List (List (List Int))):Bool:=decide (l.length<=300) && l.all fun p=>decide ((p.map List.length).sum<=8/\p.length<=8)
theorem fam_small:∀kind∈[1,2,3,4,5,6,7],∀letters∈[1,2],∀k∈[1,2],qGD (famL kind letters k 0)=true:=by decide +kernel
theorem sum_get {p:List (List Int)}:∀u∈p,u.length<=(p.map List.length).sum:=by
 induction p with
 | nil=>intro u hu;simp at hu
 | cons a p ih =>
  intro u hu;rw[List.map_cons,List.sum_cons];rcases List.mem_cons.1 hu with rfl|hu
  ·omega
  ·have:=ih u hu;omega
def FamD (w:World)(v:Value)(L:List (List (List Int))):Prop:=qGD L=true/\∃svs,RowT w.heap.size 28 w v svs/\wK w.heap.size 9 strs w svs L/\∃sa sc,v=.slice sa L.length sc
theorem FamD.kept {w w':World}{v:Value}{L:List (List (List Int))}{row:Option Nat}(h:FamD w v L)(hg:w.grownBy w' row)(hr:∀k,row=some k->zX w 28 k/\zX w 9 k):FamD w' v L:=by
 obtain⟨h1,svs,h2,h3,h4⟩:=h;exact⟨h1,svs,(h2.kept hg (fun k e=>.inr (hr k e).1)).mono hg.size,(h3.kept hg (fun k e=>.inr (hr k e).2)).mono hg.size,h4⟩
theorem FamD.pats {w:World}{v:Value}{L:List (List (List Int))}(h:FamD w v L):vS w.heap.size w v (famB L):=by
 obtain⟨h1,svs,h2,h3,h4⟩:=h;refine kA h2 h3 (fun p hp u hu=>?_);simp only[qGD,Bool.and_eq_true,decide_eq_true_eq,List.all_eq_true]at h1;have:=(h1.2 p hp).1;have:=sum_get u hu;omega
theorem famB_total {p:List (List Int)}:sQ (p.map strOfNums)=(p.map List.length).sum:=by
 unfold sQ
 induction p with
 | nil=>rfl
 | cons a p ih =>
  rw[List.map_cons,List.map_cons,List.sum_cons];simp only[List.map_cons,List.sum_cons,List.foldl_cons]at ih⊢
  first|(rw[<-ih,strOfNums_size])|(simp[strOfNums_size,ih])
theorem kG {L:List (List (List Int))}(h:qGD L=true):(famB L).length<=300/\∀p∈famB L,sQ p<=8:=by
 simp only[qGD,Bool.and_eq_true,decide_eq_true_eq,List.all_eq_true]at h;refine⟨by rw[uH];exact h.1,fun p hp=>?_⟩;obtain⟨q,hq,rfl⟩:=List.mem_map.1 hp;rw[famB_total];exact(h.2 q hq).1
theorem mQ {B:Nat}{w:World}{tb:Nat}(h:xL B w tb):∀k,some tb=some k->zX w 28 k/\zX w 9 k:=fun k e=>by
 have e:tb=k:=Oj e
 subst e
 obtain⟨sl,zs,n,hb,_⟩:=h
 exact⟨⟨_,_,_,hb,by decide⟩,⟨_,_,_,hb,by decide⟩⟩
def FamilyRet (B tb:Nat)(w:World)(letters:Nat)(e:Ending)(w':World):Prop :=
 ∃v L,e=.returned v/\FamD w' v L/\xL B w' tb/\w.grownBy w' (some tb)
theorem family34_any (B tb:Nat)(w:World)(letters:Nat)(h1:1<=letters)(h2:letters<=2)(hT:xL B w tb):Calls Try.prog 16 #[.pointer (some ⟨tb,0,none⟩),.int .i64 (letters:Int)] w (FamilyRet B tb w letters):=by
 have a4:=hT.lt;have a8:=hT.ge;have H3:=Kh (wW B tb w 7 (by omega) hT)
 have H6:Hid (∀(W:World) (kind k:Int) (wT:World),kind∈[1,2,3,4,5,6,7]->k∈[1,2]->xL B W tb->w.grownBy W (some tb)->Calls Try.prog 45 #[.int .i64 kind,.int .i64 (letters:Int),.int .i64 k,.int .i64 0] W fun e w'=>∃v E L,e=.returned (.tuple #[v,.int .i64 E])/\FamD w' v L/\xL B w' tb/\w.grownBy w' (some tb)):=Kh (fun W kind k wT H1 hk2 hTW hgW=>by
  refine(rfamily_any kind (letters:Int) k 0 W).mono ?_;rintro e w' ⟨sa,sc,svs,rfl,H7,H8,hg⟩;refine⟨_,_,famL kind letters k 0,rfl,⟨?_,svs,H7,H8,sa,sc,rfl⟩,hTW.kept hg (by simp),xZ hgW hg (.inr (.inl rfl)) (.inl rfl)⟩
  have hl:(letters:Int)∈([1,2]:List Int):=by
   rcases (by omega:letters=1\/letters=2) with rfl|rfl<;>simp
  exact fam_small kind H1 letters hl k hk2)
 go_enter Try.func16,Try.ntmps16;go_wp2_with fail;refine H3.out.mono ?_;rintro e w1 ⟨r,rfl,a2,h6,h5,H2⟩;replace h6:=h6 (by omega);have a1:=Kh h5;have H5:=Kh H2;have h3:=Kh (wW B tb w1 2 (by omega) h5);obtain⟨kd,a6⟩:∃kd:Nat,1+r=(kd:Int):=⟨(1+r).toNat,by omega⟩;have H1:1<=kd:=by omega
 have a7:kd<=7:=by omega
 have H0:(kd:Int)∈([1,2,3,4,5,6,7]:List Int):=by
  rcases (by omega:kd=1\/kd=2\/kd=3\/kd=4\/kd=5\/kd=6\/kd=7) with rfl|rfl|rfl|rfl|rfl|rfl|rfl<;>simp
 have H4:=Kh H0;clear H3 H2 h5 hT H0;by_cases h7:kd=7
 ·have HC:=Kh (H6.out w1 (kd:Int) 1 w1 H4.out (by simp) a1.out H5.out)
  subst h7;go_wp2_with fail;refine HC.out.mono ?_;rintro e w2 ⟨v,E,L,rfl,hf,h4,h0⟩;obtain⟨_,_,_,_,sa,sc,rfl⟩:=id hf;go_wp2;go_ret;exact⟨_,L,rfl,hf,h4,h0⟩
 ·have a9:((kd:Int) != 7)=true:=by rw[bne_iff_ne];omega
  go_wp2_with fail;refine h3.out.mono ?_;rintro e w2 ⟨q,rfl,a3,h9,h4,h0⟩;replace h9:=h9 (by omega);have h0:=zD H5.out h0;obtain⟨kq,a5⟩:∃kd:Nat,1+q=(kd:Int):=⟨(1+q).toNat,by omega⟩
  have h8:(kq:Int)∈([1,2]:List Int):=by
   rcases (by omega:kq=1\/kq=2) with rfl|rfl<;>simp
  have HC:=Kh (H6.out w2 (kd:Int) (kq:Int) w1 H4.out h8 h4 h0);clear h4 h0 h3 h8;go_wp2_with fail;refine HC.out.mono ?_;rintro e w3 ⟨v,E,L,rfl,hf,a0,H9⟩;obtain⟨_,_,_,_,sa,sc,rfl⟩:=id hf;go_wp2;go_ret;exact⟨_,L,rfl,hf,a0,H9⟩
theorem lets_valid {u:List Nat}{k:Nat}(h1:1<=k)(h6:k<=6)(hu:yO k u)(hl:u.length<=2048):zU (strOfNums (lets u)) (k:Int)=true/\zJ (strOfNums (lets u))=u:=by
 have e1:(strOfNums (lets u)).data.toList=(lets u).map (fun n=>UInt8.ofNat n.toNat):=strOfNums_data _
 have hb:∀x∈u,(UInt8.ofNat (97+(x:Int)).toNat).toNat=97+x:=fun x hx=>by
  have:=hu x hx;rw[UInt8.toNat_ofNat'];omega
 constructor
 ·simp only[zU,Bool.and_eq_true,decide_eq_true_eq,List.all_eq_true]
  refine⟨⟨by omega,by omega,by rw[strOfNums_size];simpa [lets] using hl⟩,fun c hc=>?_⟩;rw[e1]at hc;simp only[lets,List.map_map,List.mem_map]at hc;obtain⟨x,hx,rfl⟩:=hc;have h3:=hb x hx;have:=hu x hx;unfold qW;rw[decide_eq_true_eq];simp only[Function.comp];omega
 ·rw[lettersOf_map,e1]
  simp only[lets,List.map_map];refine(List.map_congr_left fun x hx=>?_).trans (List.map_id u);have:=hb x hx;simp only[Function.comp,letU,id];omega
end Go.Proofs.Ytjfdomfendbhfaa
