/- Part 20 of the proof. -/
import Derived.Test.YtcoimliafiammaaGreatQa19
import Derived.Lib.OthersKept
import Derived.BigRegion
import Derived.Deep.DeepCutAuto
import Derived.Deep.CutBlock
set_option linter.unusedVariables false
set_option linter.unusedSimpArgs false
set_option maxRecDepth 100000
set_option maxHeartbeats 16000000
namespace Go.Proofs.YtcoimliafiammaaGreat
def genU (kind:Int)(k:Nat)(u:List Int):List (List (List Int)) :=
 (if kind=1\/kind=7\/(kind≠6/\u.length<k) then [oneB u] else [])++(if u=[] then [] else (if kind=2\/kind=4\/kind=5 then [preB u] else [])++((if kind=3\/kind=4\/kind=5 then [sufB u] else [])++((if kind=5 then [facB u] else [])++(if kind=6 then [wY u] else []))))
def genL (kind:Int)(k:Nat)(W:List (List Int)):List (List (List Int)):=W.flatMap (genU kind k)
def refL (kind:Int)(letters k m:Nat):List (List (List Int)):=genL kind k (xM letters k)++(if kind=7 then (allC (xM letters k) (m+1)).take 301 else [])
theorem qRZ (kind:Int)(k:Nat){W:List (List Int)}{j:Nat}(h:j<W.length):genL kind k (W.take (j+1))=genL kind k (W.take j)++genU kind k W[j]:=by
 rw[genL,List.take_succ_eq_append_getElem h,List.flatMap_append];simp[genL]
theorem rR {α β:Type}(f g:α->List β):∀l:List α,(l.flatMap fun x=>f x++g x).Perm (l.flatMap f++l.flatMap g)
 | []=>by simp
 | a::l=>by
  simp only[List.flatMap_cons]
  have ih:=rR f g l
  have h1:(f a++g a++l.flatMap fun x=>f x++g x).Perm (f a++g a++(l.flatMap f++l.flatMap g)):=List.Perm.append_left _ ih
  refine h1.trans ?_
  rw[List.append_assoc,List.append_assoc]
  refine List.Perm.append_left _ ?_
  rw[<-List.append_assoc,<-List.append_assoc]
  exact List.Perm.append_right _ List.perm_append_comm
theorem qSF {α β:Type}(c:α->Prop)[DecidablePred c](h:α->β):∀l:List α,(l.flatMap fun x=>if c x then [h x] else [])=(l.filter fun x=>decide (c x)).map h
 | []=>rfl
 | a::l=>by
  simp only[List.flatMap_cons,qSF c h l,List.filter_cons]
  by_cases hc:c a<;>simp[hc]
theorem qFN (letters k:Nat):((xM letters k).filter fun u=>decide (u.length<k))=upTo letters k:=by
 rw[xM,xP,List.filter_append];have e1:(upTo letters k).filter (fun u=>decide (u.length<k))=upTo letters k:=List.filter_eq_self.2 fun u hu=>by simpa using kO hu
 have e2:(lex letters k).filter (fun u=>decide (u.length<k))=[]:=List.filter_eq_nil_iff.2 fun u hu=>by rw[(rG hu).1];simp
 rw[e1,e2,List.append_nil]
theorem tH {α β:Type}{f g:α->List β}:∀ {l:List α},(∀x∈l,f x=g x)->l.flatMap f=l.flatMap g
 | [],_=>rfl
 | a::l,h=>by rw[List.flatMap_cons,List.flatMap_cons,h a (by simp),tH fun x hx=>h x (by simp[hx])]
theorem dY {letters k:Nat}(f:List Int->List (List (List Int))):((xM letters k).flatMap fun u=>if u=[] then [] else f u)=((xM letters k).drop 1).flatMap f:=by
 obtain⟨r,e,hr⟩:=eH letters k;rw[xM,e];simp only[List.flatMap_cons,if_pos,List.nil_append,List.drop_one,List.tail_cons];exact tH fun u hu=>by rw[if_neg (hr u hu)]
theorem rJ {α β:Type}(h:α->β)(l:List α):(l.flatMap fun x=>[h x])=l.map h:=by induction l with
 | nil=>rfl
 | cons a l ih=>simp[ih]
theorem xCD (k:Nat)(u:List Int):genU 1 k u=[oneB u]:=by unfold genU;by_cases h:u=[]<;>simp[h]
theorem xBX (k:Nat)(u:List Int):genU 7 k u=[oneB u]:=by unfold genU;by_cases h:u=[]<;>simp[h]
theorem xCC (k:Nat)(u:List Int):genU 2 k u=(if u.length<k then [oneB u] else [])++(if u=[] then [] else [preB u]):=by unfold genU;by_cases h:u=[]<;>simp[h]
theorem xCB (k:Nat)(u:List Int):genU 3 k u=(if u.length<k then [oneB u] else [])++(if u=[] then [] else [sufB u]):=by unfold genU;by_cases h:u=[]<;>simp[h]
theorem xCA (k:Nat)(u:List Int):genU 4 k u=(if u.length<k then [oneB u] else [])++(if u=[] then [] else [preB u]++[sufB u]):=by unfold genU;by_cases h:u=[]<;>simp[h]
theorem xBZ (k:Nat)(u:List Int):genU 5 k u=(if u.length<k then [oneB u] else [])++(if u=[] then [] else [preB u]++([sufB u]++[facB u])):=by unfold genU;by_cases h:u=[]<;>simp[h]
theorem xBY (k:Nat)(u:List Int):genU 6 k u=(if u=[] then [] else [wY u]):=by unfold genU;by_cases h:u=[]<;>simp[h]
theorem qBG {kind:Int}{letters k:Nat}(h1:1<=kind)(h7:kind<=7)(m:Nat)(hm:(allC (xM letters k) (m+1)).length<=301\/kind≠7):(refL kind letters k m).Perm (famP kind letters k m):=by
 have h2:kind=1\/kind=2\/kind=3\/kind=4\/kind=5\/kind=6\/kind=7:=by omega
 have h0:((xM letters k).flatMap fun u=>if u.length<k then [oneB u] else [])=(upTo letters k).map oneB:=by rw[qSF (fun u:List Int=>u.length<k) oneB,qFN]
 rcases h2 with rfl|rfl|rfl|rfl|rfl|rfl|rfl
 ·have e:refL 1 letters k m=famP 1 letters k m:=by
   rw[refL,if_neg (by decide),List.append_nil,genL,tH fun u _=>xCD k u,rJ];rfl
  rw[e]
 ·rw[refL,if_neg (by decide),List.append_nil,genL,tH fun u _=>xCC k u]
  refine(rR _ _ _).trans ?_;rw[h0,dY,rJ];exact List.Perm.refl _
 ·rw[refL,if_neg (by decide),List.append_nil,genL,tH fun u _=>xCB k u]
  refine(rR _ _ _).trans ?_;rw[h0,dY,rJ];exact List.Perm.refl _
 ·rw[refL,if_neg (by decide),List.append_nil,genL,tH fun u _=>xCA k u]
  refine(rR _ _ _).trans ?_;rw[h0,dY];show List.Perm _ ((upTo letters k).map oneB++((xM letters k).drop 1).map sufB++((xM letters k).drop 1).map preB);rw[List.append_assoc];refine List.Perm.append_left _ ((rR _ _ _).trans ?_);rw[rJ,rJ];exact List.perm_append_comm
 ·rw[refL,if_neg (by decide),List.append_nil,genL,tH fun u _=>xBZ k u]
  refine(rR _ _ _).trans ?_;rw[h0,dY];show List.Perm _ ((upTo letters k).map oneB++((xM letters k).drop 1).map sufB++((xM letters k).drop 1).map preB++((xM letters k).drop 1).map facB);rw[List.append_assoc,List.append_assoc];refine List.Perm.append_left _ ((rR _ _ _).trans ?_);rw[rJ];refine(List.Perm.append_left _ (rR _ _ _)).trans ?_;rw[rJ,rJ,<-List.append_assoc,<-List.append_assoc];exact List.Perm.append_right _ List.perm_append_comm
 ·have e:refL 6 letters k m=famP 6 letters k m:=by
   rw[refL,if_neg (by decide),List.append_nil,genL,tH fun u _=>xBY k u,dY,rJ];rfl
  rw[e]
 have e:refL 7 letters k m=famP 7 letters k m:=by
  rw[refL,if_pos rfl,genL,tH fun u _=>xBX k u,rJ,List.take_of_length_le (by rcases hm with h|h;exact h;exact absurd rfl h)];show _=chL (xM letters k) (m+1);rw[qCL]
 rw[e]
theorem qGR {l:List (List (List Int))}(h:pE l):l.Nodup:=List.Pairwise.imp (fun {a b} h e=>by rw[e,pQ]at h;cases h) h
theorem qZH {kind:Int}{letters k:Nat}(h1:1<=kind)(h7:kind<=7)(m:Nat):(300<(refL kind letters k m).length↔300<(famP kind letters k m).length):=by
 by_cases hm:(allC (xM letters k) (m+1)).length<=301\/kind≠7
 ·rw[(qBG h1 h7 m hm).length_eq]
 have h0:¬(allC (xM letters k) (m+1)).length<=301:=fun h=>hm (.inl h);have hk:kind=7:=Decidable.not_not.1 fun h=>hm (.inr h);subst hk
 have e1:301<=(refL 7 letters k m).length:=by
  rw[refL,if_pos rfl,List.length_append,List.length_take];omega
 have e2:301<=(famP 7 letters k m).length:=by
  show 301<=(chL (xM letters k) (m+1)).length;rw[qCL,List.length_append];omega
 omega
open Go.RowKit
theorem fV {w:World}{base e g n c:Nat}{xs:List Value}(h:w.ownsRow base e 1 (.slice (some ⟨g,0,none⟩) n c) n xs)(i:Nat)(u:Value):(w.setCell ⟨g,i,none⟩ u).ownsRow base e 1 (.slice (some ⟨g,0,none⟩) n c) n (xs.set i u):=by
 obtain⟨h1,h2⟩:=h;refine⟨by simpa using h1,?_⟩;rcases h2 with ⟨e1,_⟩|⟨g',cap,cur,e1,hb,hg,hnc,hcm,hcs,htake⟩
 ·simp at e1
 simp only[Value.slice.injEq,Option.some.injEq,Addr.mk.injEq,and_true]at e1;obtain⟨rfl,_,rfl⟩:=e1;refine .inr ⟨g,c,cur.setIfInBounds i u,rfl,hb,heap_setCell_same w g i _ _ u hg,hnc,hcm,by simpa using hcs,?_⟩;rw[<-htake,Array.toList_setIfInBounds,List.take_set]
theorem wO.swap {α:Type}{B:Nat}{e:TypeId}{f:α->List Value}{w:World}{a9:List Value}{ps:List α}(h:wO B e f w a9 ps){i:Nat}{x y:Value}{p q:α}(hx:a9[i]?=some x)(hy:a9[i+1]?=some y)(hp:ps[i]?=some p)(hq:ps[i+1]?=some q):wO B e f w ((a9.set i y).set (i+1) x) ((ps.set i q).set (i+1) p):=by
 obtain⟨a1,rfl⟩:=List.getElem?_eq_some_iff.1 hx;obtain⟨a2,rfl⟩:=List.getElem?_eq_some_iff.1 hy;obtain⟨b1,rfl⟩:=List.getElem?_eq_some_iff.1 hp;obtain⟨b2,rfl⟩:=List.getElem?_eq_some_iff.1 hq;refine⟨by simpa using h.1,fun k h1 h2=>?_⟩;rw[List.getElem_set,List.getElem_set,List.getElem_set,List.getElem_set];by_cases e1:i+1=k
 ·rw[if_pos e1,if_pos e1];exact h.2 i a1 b1
 rw[if_neg e1,if_neg e1];by_cases e2:i=k
 ·rw[if_pos e2,if_pos e2];exact h.2 (i+1) a2 b2
 rw[if_neg e2,if_neg e2];exact h.2 k (by simpa using h1) (by simpa using h2)
theorem LUp.swap {e base g n c i:Nat}{w:World}{a9:List Value}{ps:List (List (List Int))}(h:LUp e base w (.slice (some ⟨g,0,none⟩) n c) n a9 ps){x y:Value}{p q:List (List Int)}(hx:a9[i]?=some x)(hy:a9[i+1]?=some y)(hp:ps[i]?=some p)(hq:ps[i+1]?=some q){W:World}(hW:W=(w.setCell ⟨g,i+1,none⟩ x).setCell ⟨g,i,none⟩ y\/W=(w.setCell ⟨g,i,none⟩ y).setCell ⟨g,i+1,none⟩ x):LUp e base W (.slice (some ⟨g,0,none⟩) n c) n ((a9.set i y).set (i+1) x) ((ps.set i q).set (i+1) p)/\w.grownBy W (some g):=by
 have hg:w.grownBy W (some g):=by
  rcases hW with rfl|rfl
  ·exact zC (zD w ⟨g,i+1,none⟩ x) (zD _ ⟨g,i,none⟩ y)
  exact zC (zD w ⟨g,i,none⟩ y) (zD _ ⟨g,i+1,none⟩ x)
 refine⟨⟨?_,?_,h.ne⟩,hg⟩
 ·rcases hW with rfl|rfl
  ·have h2:=fV (fV h.own (i+1) x) i y
   rwa [List.set_comm _ _ (by omega)]at h2
  exact fV (fV h.own i y) (i+1) x
 have h0:=zZ h.own h.ne;exact(((h.rows.swap hx hy hp hq).kept hg (fun k e=>.inr (h0 k (by rw[<-e];rfl)))).mono hg.size)
theorem LUp.drewN {e base n:Nat}{w:World}{v:Value}{a9:List Value}{ps:List (List (List Int))}(h:LUp e base w v n a9 ps):LUp e base w.drew v n a9 ps:=h.kept (zN w none) (by simp)
theorem LUp.at {base g n c i:Nat}{w:World}{a9:List Value}{ps:List (List (List Int))}(h:LUp 65 base w (.slice (some ⟨g,0,none⟩) n c) n a9 ps)(hi:i<n):∃(a:Option Addr) (d:Nat) (p:List (List Int)),a9[i]?=some (.slice a p.length d)/\ps[i]?=some p/\w.cell? ⟨g,i,none⟩=some (.slice a p.length d)/\RowT w.heap.size 9 w (.slice a p.length d) (strs p):=by
 have hl:=h.own.1;have h0:=h.rows.1;have hr:=h.rows.2 i (by omega) (by omega);obtain⟨a,d,e⟩:=hr.row.shape;rw[xC]at e;refine⟨a,d,ps[i]'(by omega),by rw[<-e];exact List.getElem?_eq_getElem _,List.getElem?_eq_getElem _,?_,by rw[<-e];exact hr⟩;have:=(RowT.of_owns h.own).row;rcases this with ⟨a0,c0,e0,hx⟩|⟨b',off',cap',hv,_,_,_,hra⟩
 ·simp only[Value.slice.injEq]at e0;omega
 simp only[Value.slice.injEq,Option.some.injEq,Addr.mk.injEq,and_true]at hv;obtain⟨⟨rfl,rfl⟩,_⟩:=hv;have hc:=hra.2 i (by omega);rw[Nat.zero_add]at hc;rw[hc,<-e]
def InsI (L ps:List (List (List Int)))(i j:Nat):Prop:=∃A x B C,ps=A++x::(B++C)/\A.length=j/\A.length+B.length=i/\pE (A++B)/\(∀b∈B,vQ x b=true)/\ps.Perm L
theorem qRX {L ps:List (List (List Int))}{i:Nat}(hs:pE (ps.take i))(hi:i<ps.length)(hp:ps.Perm L):InsI L ps i i :=
 ⟨ps.take i,ps[i],[],ps.drop (i+1),by rw[List.nil_append,<-List.drop_eq_getElem_cons hi,List.take_append_drop],by simp;omega,by simp;omega,by simpa using hs,by simp,hp⟩
theorem qDB {α:Type}(a x:α)(R:List α):∀A:List α,((A++a::x::R).set A.length x).set (A.length+1) a=A++x::a::R
 | []=>rfl
 | b::A=>by have:=qDB a x R A;simp[this]
theorem aD {α:Type}{A:List α}{j:Nat}(h:A.length=j+1):∃A' a,A=A'++[a]/\A'.length=j:=by
 have h0:A≠[]:=by intro e;rw[e]at h;simp at h
 exact⟨A.dropLast,A.getLast h0,(List.dropLast_concat_getLast h0).symm,by simp[h]⟩
theorem qWV {L ps:List (List (List Int))}{i j:Nat}{p q:List (List Int)}(h:InsI L ps i (j+1))(hp:ps[j]?=some p)(hq:ps[j+1]?=some q)(hl:vQ q p=true):InsI L ((ps.set j q).set (j+1) p) i j:=by
 obtain⟨A,x,B,C,rfl,hA,hi,hs,hB,h0⟩:=h;obtain⟨A',a,rfl,rfl⟩:=aD hA;have e0:A'++[a]++x::(B++C)=A'++a::x::(B++C):=by simp
 rw[e0]at hp hq h0⊢;have e1:a=p:=by rw[List.getElem?_append_right (Nat.le_refl _)]at hp;simpa using hp
 have e2:x=q:=by rw[List.getElem?_append_right (by omega)]at hq;simpa using hq
 subst e1;subst e2;rw[qDB];refine⟨A',x,a::B,C,by simp,rfl,by simp at hi⊢;omega,by simpa using hs,?_,(List.Perm.append_left A' (List.Perm.swap _ _ _)).trans h0⟩;intro b hb;rcases List.mem_cons.1 hb with rfl|hb
 ·exact hl
 exact hB b hb
theorem qKL {L ps:List (List (List Int))}{i j:Nat}(h:InsI L ps i j)(hn:L.Nodup)(hd:j=0\/∃k p q,j=k+1/\ps[k]?=some p/\ps[k+1]?=some q/\vQ q p=false):pE (ps.take (i+1))/\ps.Perm L:=by
 obtain⟨A,x,B,C,rfl,hA,hi,hs,hB,h0⟩:=h;refine⟨?_,h0⟩
 have et:(A++x::(B++C)).take (i+1)=A++x::B:=by
  have e3:A++x::(B++C)=(A++x::B)++C:=by simp
  rw[e3,List.take_left' (by simp;omega)]
 rw[et];have h1:=List.pairwise_append.1 hs;have h2:=h0.nodup_iff.2 hn
 have h8:∀a∈A,vQ a x=true:=by
  rcases hd with rfl|⟨k,p,q,rfl,hp,hq,hl⟩
  ·intro a ha;rw[List.eq_nil_of_length_eq_zero hA]at ha;simp at ha
  obtain⟨A',a,rfl,rfl⟩:=aD hA;have e0:A'++[a]++x::(B++C)=A'++a::x::(B++C):=by simp
  rw[e0]at hp hq h2;have e1:a=p:=by rw[List.getElem?_append_right (Nat.le_refl _)]at hp;simpa using hp
  have e2:x=q:=by rw[List.getElem?_append_right (by omega)]at hq;simpa using hq
  subst e1;subst e2
  have h7:a≠x:=by
   have h3:=(List.pairwise_append.1 h2).2.1;have h4:=(List.pairwise_cons.1 h3).1 x (by simp);exact h4
  have h6:vQ a x=true:=by
   rcases qHT h7 with h|h
   ·exact h
   rw[hl]at h;cases h
  intro b hb;rcases List.mem_append.1 hb with hb|hb
  ·have h5:=(List.pairwise_append.1 h1.1).2.2 b hb a (by simp)
   exact dV h5 h6
  have:b=a:=by simpa using hb
  rw[this];exact h6
 refine List.pairwise_append.2 ⟨h1.1,List.pairwise_cons.2 ⟨hB,h1.2.1⟩,fun a ha b hb=>?_⟩;rcases List.mem_cons.1 hb with rfl|hb
 ·exact h8 a ha
 exact h1.2.2 a ha b hb
theorem qPF {l m:List (List (List Int))}(h1:pE l)(h2:pE m)(h:l.Perm m):l=m:=qEW h1 h2 fun _=>h.mem_iff
theorem qUU (kind letters k m:Int)(w:World)(ho:tZ kind letters k m=false):Calls Tryz.prog 11 #[.int .i64 kind,.int .i64 letters,.int .i64 k,.int .i64 m] w (sW w 1 []):=by
 have h0:=Kh (yK w letters);obtain⟨b,hb⟩:=Nm (decide (1<=letters/\letters<=6));rw[<-hb]at h0;simp only[tZ,decide_eq_false_iff_not]at ho
 have hc:(kind<1/\(kind == 1)=false)\/(7<kind/\(kind == 1)=false)\/((1<=kind/\kind<=7)/\(b=false/\(kind=1\/(kind == 1)=false)\/b=true/\(kind=1/\(k<0\/¬k<0/\8<k\/¬k<0/\¬8<k/\(m != 0)=true) \/
   (kind == 1)=false/\(k<1\/¬k<1/\8<k\/¬k<1/\¬8<k/\(kind=7/\m<0\/kind=7/\¬m<0/\4<m\/(kind == 7)=false/\(kind != 7)=true/\(m != 0)=true))))):=by
  simp only[bne_iff_ne,ne_eq,beq_eq_false_iff_ne];have h1:b=true↔1<=letters/\letters<=6:=by rw[hb,decide_eq_true_eq]
  cases b<;>simp only[true_iff,false_iff,Bool.false_eq_true,Bool.true_eq_false,true_and,false_and,or_false,false_or]at h1⊢ <;> (try split at ho)<;>(try split at ho)<;>omega
 clear ho hb;rcases hc with ⟨a1,a2⟩|⟨a1,a2⟩|⟨⟨a1,a2⟩,⟨rfl,rfl|a3⟩|⟨rfl,⟨rfl,a3|⟨a3,a4⟩|⟨a3,a4,a5⟩⟩|⟨a3,a4|⟨a4,a5⟩|⟨a4,a5,⟨rfl,a6⟩|⟨rfl,a6,a7⟩|⟨a6,a7,a8⟩⟩⟩⟩⟩
 all_goals
  go_enter Tryz.func11,Tryz.ntmps11;go_wp2_with fail
  try
   refine h0.out.mono ?_;rintro e w ⟨rfl,rfl⟩;go_wp2
  refine bodyPost_ret (v:=.tuple #[.slice none 0 0,.int .i64 1]) (by simp[results,Tryz.results11,go_sem]) rfl ?_;exact sW.nil (zH _ _)
theorem qAR (L i:Nat):(upTo L (i+2)).length=(upTo L (i+1)).length+L ^ i*L:=by
 rw[xP L (i+1),List.length_append,uF,Nat.pow_succ]
theorem xAI {kind:Int}{L K:Nat}(M:Nat):(xM L K).length<=(famP kind L K M).length+1:=by
 unfold famP;simp only
 split
 ·rw[List.length_map];omega
 split
 ·simp only[List.length_append,List.length_map,List.length_drop];omega
 split
 ·simp only[List.length_append,List.length_map,List.length_drop];omega
 split
 ·simp only[List.length_append,List.length_map,List.length_drop];omega
 split
 ·simp only[List.length_append,List.length_map,List.length_drop];omega
 split
 ·simp only[List.length_append,List.length_map,List.length_drop];omega
 rw[qCL,List.length_append,List.length_map];omega
theorem qCC {kind:Int}{L K M:Nat}(ho:tZ kind L K M=true)(h:(kind=6/\8<(K:Int)+2)\/300<eR kind L K M):famE kind L K M=3/\famL kind L K M=[]:=by
 have e1:famE kind L K M=3:=by rw[famE,if_neg (by rw[ho];simp),if_pos (h.imp id (fun hs=>by simpa using hs))]
 exact⟨e1,by rw[famL,e1];rfl⟩
theorem qNM {kind:Int}{L K M:Nat}(ho:tZ kind L K M=true)(h6:¬(kind=6/\8<(K:Int)+2))(h:¬300<eR kind L K M):famE kind L K M=0/\famL kind L K M=famP kind L K M:=by
 have e1:famE kind L K M=0:=by
  rw[famE,if_neg (by rw[ho];simp),if_neg];rintro (h1|h1)
  ·exact h6 h1
  exact h (by simpa using h1)
 exact⟨e1,by rw[famL,e1];simp⟩
theorem iJ {α:Type}{c:Prop}[Decidable c](x:α):(if c then [x] else []).length<=1:=by split<;>simp
theorem qWY (kind:Int)(k:Nat)(u:List Int):(genU kind k u).length<=5:=by
 unfold genU;rw[List.length_append];have h1:=iJ (c:=kind=1\/kind=7\/(kind≠6/\u.length<k)) (oneB u);by_cases hu:u=[]
 ·rw[if_pos hu,List.length_nil];omega
 rw[if_neg hu];rw[List.length_append,List.length_append,List.length_append];have h2:=iJ (c:=kind=2\/kind=4\/kind=5) (preB u);have h3:=iJ (c:=kind=3\/kind=4\/kind=5) (sufB u);have h4:=iJ (c:=kind=5) (facB u);have h5:=iJ (c:=kind=6) (wY u);omega
theorem qBZ (kind:Int)(k:Nat):∀W:List (List Int),(genL kind k W).length<=5*W.length
 | []=>by simp[genL]
 | u::W=>by
  have:=qBZ kind k W
  have:=qWY kind k u
  simp only[genL,List.flatMap_cons,List.length_append,List.length_cons]at *
  omega
theorem qFF (w:World)(k:Nat)(s:ByteArray)(a9:Nat):w.grownBy (w.iterAt k s a9) (some k) :=
 ⟨rfl,rfl,rfl,by rw[Lib.iterAt_size];exact Nat.le_refl _,fun i _ hne=>Lib.iterAt_other w k i s a9 (fun e=>hne (by rw[e]))⟩
theorem wO.cat {α:Type}{B:Nat}{e:TypeId}{f:α->List Value}{w:World}{a8 a9:List Value}{ps a7:List α}(h:wO B e f w a8 ps)(h2:wO B e f w a9 a7):wO B e f w (a8++a9) (ps++a7):=by
 refine⟨by simp[h.1,h2.1],fun i a b=>?_⟩;have hl:=h.1;by_cases hi:i<a8.length
 ·rw[List.getElem_append_left hi,List.getElem_append_left (by omega)];exact h.2 i hi _
 rw[List.getElem_append_right (by omega),List.getElem_append_right (by omega)];have:=h2.2 (i-a8.length) (by rw[List.length_append]at a;omega) (by rw[List.length_append]at b;omega);simp only[hl]at this⊢;exact this
theorem wO.one {w:World}{B:Nat}{e:TypeId}{a9:List Value}{ps:List (List (List Int))}(h:wO B e strs w a9 ps):∀u∈a9,u.oneCell'=true:=by
 intro u hu;obtain⟨i,hi,rfl⟩:=List.mem_iff_getElem.1 hu;have hl:=h.1;obtain⟨a,c,e⟩:=(h.2 i hi (by omega)).row.shape;rw[e];rfl
theorem LUp.cat {e base n n2:Nat}{w w1 w2:World}{v v2:Value}{a8 a9:List Value}{ps a6:List (List (List Int))}(h:LUp e base w v n a8 ps)(a5:w.grownBy w1 none)(hr:wO w1.heap.size 9 strs w1 a9 a6)(a7:w2.ownsRow base e 1 v2 n2 (a8++a9))(hg:w1.grownBy w2 v.ownBlock):LUp e base w2 v2 n2 (a8++a9) (ps++a6)/\w.grownBy w2 v.ownBlock:=by
 have h1:=h.kept a5 (by simp);have h0:=zZ h1.own h.ne;exact⟨⟨a7,((h1.rows.cat hr).kept hg (fun k e=>.inr (h0 k e))).mono hg.size,h.ne⟩,zC (wP a5) hg⟩
theorem qGH {L K r:Nat}(h:r<(xM L K).length):((xM L K)[r]=[]↔r=0):=by
 obtain⟨t,e,ht⟩:=eH L K;have e':xM L K=[]::t:=e;constructor
 ·intro h0
  rcases r with _|r
  ·rfl
  exfalso;simp only[e',List.getElem_cons_succ]at h0;exact ht _ (List.getElem_mem _) h0
 rintro rfl;simp only[e',List.getElem_cons_zero]
theorem qCW {L K:Nat}(h6:K<=8){u:List Int}(hu:u∈xM L K):u.length<=8:=rK (n:=K+1) (by omega) hu
theorem okB {letters:Nat}(h:letters<=6){n:Nat}{u:List Int}(hu:u∈upTo letters n):okW u:=by
 simp only[upTo,List.mem_flatMap,List.mem_range]at hu;obtain⟨m,_,hu⟩:=hu;intro x hx;have:=(rG hu).2 x hx;unfold qBM at *;omega
def okP (p:List (List Int)):Prop:=p.length<=100/\∀u∈p,okW u/\u.length<=8
theorem qZP:okW []:=fun x hx=>by simp at hx
theorem qNK {kind:Int}{k:Nat}{u:List Int}{p:List (List Int)}(hp:p∈genU kind k u):p=oneB u\/p=preB u\/p=sufB u\/p=facB u\/p=wY u:=by
 unfold genU at hp;rw[List.mem_append]at hp;rcases hp with hp|hp
 ·split at hp
  ·exact .inl (by simpa using hp)
  simp at hp
 by_cases hu:u=[]
 ·rw[if_pos hu]at hp;simp at hp
 rw[if_neg hu,List.mem_append,List.mem_append,List.mem_append]at hp;rcases hp with hp|hp|hp|hp
 ·split at hp
  ·exact .inr (.inl (by simpa using hp))
  simp at hp
 ·split at hp
  ·exact .inr (.inr (.inl (by simpa using hp)))
  simp at hp
 ·split at hp
  ·exact .inr (.inr (.inr (.inl (by simpa using hp))))
  simp at hp
 split at hp
 ·exact .inr (.inr (.inr (.inr (by simpa using hp))))
 simp at hp
theorem xAE {kind:Int}{k:Nat}{u:List Int}(h:okW u)(h8:u.length<=8){p:List (List Int)}(hp:p∈genU kind k u):okP p:=by
 have hn:okW []/\([]:List Int).length<=8:=⟨qZP,by simp⟩;rcases qNK hp with rfl|rfl|rfl|rfl|rfl
 ·refine⟨by simp[oneB],fun x hx=>?_⟩
  simp only[oneB,List.mem_singleton]at hx;subst hx;exact⟨h,h8⟩
 ·refine⟨by simp[preB],fun x hx=>?_⟩
  simp only[preB,List.mem_cons,List.not_mem_nil,or_false]at hx;rcases hx with rfl|rfl
  ·exact⟨h,h8⟩
  exact hn
 ·refine⟨by simp[sufB],fun x hx=>?_⟩
  simp only[sufB,List.mem_cons,List.not_mem_nil,or_false]at hx;rcases hx with rfl|rfl
  ·exact hn
  exact⟨h,h8⟩
 ·refine⟨by simp[facB],fun x hx=>?_⟩
  simp only[facB,List.mem_cons,List.not_mem_nil,or_false]at hx;rcases hx with rfl|rfl|rfl
  ·exact hn
  ·exact⟨h,h8⟩
  exact hn
 refine⟨by simp[wY];omega,fun x hx=>?_⟩;simp only[wY,List.mem_append,List.mem_singleton,List.mem_map]at hx;rcases hx with (rfl|⟨c,hc,rfl⟩)|rfl
 ·exact hn
 ·refine⟨fun y hy=>?_,by simp⟩
  simp only[List.mem_singleton]at hy;subst hy;exact h y hc
 exact hn
theorem qTD (ws:List (List Int)):∀(i:Nat) {b:List (List Int)},b∈chB ws i->∀u∈b,u∈ws
 | 0,b,h=>by
  obtain⟨v,hv,rfl⟩:=List.mem_map.1 h
  intro u hu
  simp only[oneB,List.mem_singleton]at hu
  subst hu;exact hv
 | i+1,b,h=>by
  obtain⟨c,hc,hb⟩:=List.mem_flatMap.1 h
  obtain⟨v,hv,rfl⟩:=List.mem_map.1 hb
  intro u hu
  rcases List.mem_append.1 hu with hu|hu
  ·exact qTD ws i hc u hu
  ·simp only[List.mem_singleton]at hu
   subst hu;exact List.mem_of_mem_drop hv
theorem qCP (ws:List (List Int)):∀(i:Nat) {b:List (List Int)},b∈allC ws i->b.length<=i+1/\∀u∈b,u∈ws
 | 0,b,h=>by simp[allC]at h
 | i+1,b,h=>by
  rcases List.mem_append.1 h with h|h
  ·exact⟨by have:=(qCP ws i h).1;omega,(qCP ws i h).2⟩
  ·obtain⟨c,hc,hb⟩:=List.mem_flatMap.1 h
   obtain⟨v,hv,rfl⟩:=List.mem_map.1 hb
   refine⟨by rw[List.length_append,jF i hc];simp,fun u hu=>?_⟩
   rcases List.mem_append.1 hu with hu|hu
   ·exact qTD ws i hc u hu
   ·simp only[List.mem_singleton]at hu
    subst hu;exact hv
theorem qZI {kind:Int}{L K M:Nat}(hl:L<=6)(hk:K<=8)(hm:M<=4){p:List (List Int)}(hp:p∈refL kind L K M):okP p:=by
 have hw:∀u∈xM L K,okW u/\u.length<=8:=fun u hu=>⟨okB hl (n:=K+1) hu,qCW hk hu⟩;rcases List.mem_append.1 hp with hp|hp
 ·obtain⟨u,hu,hp⟩:=List.mem_flatMap.1 hp
  exact xAE (hw u hu).1 (hw u hu).2 hp
 split at hp
 ·have h:=qCP _ _ (List.mem_of_mem_take hp)
  exact⟨by omega,fun u hu=>hw u (h.2 u hu)⟩
 simp at hp
theorem qMG {kind:Int}{L K M:Nat}(h1:1<=kind)(h7:kind<=7)(hn:¬300<(refL kind L K M).length){ps:List (List (List Int))}(hs:pE ps)(hp:ps.Perm (refL kind L K M)):ps=famP kind L K M:=by
 refine qPF hs (cI _ _ _ _) (hp.trans (qBG h1 h7 M ?_));by_cases hk:kind=7
 ·refine .inl ?_
  rw[refL,if_pos hk,List.length_append,List.length_take]at hn;omega
 exact .inr hk
theorem qPV {kind:Int}{L K M:Nat}(h1:1<=kind)(h7:kind<=7)(hn:¬300<(refL kind L K M).length):(refL kind L K M).Nodup:=by
 have hp:(refL kind L K M).Perm (famP kind L K M):=by
  refine qBG h1 h7 M ?_;by_cases hk:kind=7
  ·refine .inl ?_
   rw[refL,if_pos hk,List.length_append,List.length_take]at hn;omega
  exact .inr hk
 exact hp.nodup_iff.2 (qGR (cI _ _ _ _))
theorem qUK (u:List Int)(p:Nat)(h:p<u.length)(h':p<(strOfNums u).size):(strOfNums u)[p]'h'=UInt8.ofNat (u[p].toNat):=by
 have e:(strOfNums u)[p]'h'=(strOfNums u).data.toList[p]'(by rw[strOfNums_data];simpa using h):=by rw[Array.getElem_toList];rfl
 rw[e];simp only[strOfNums_data,List.getElem_map]
theorem qPC {u:List Int}(hu:okW u){p:Nat}(h:p<u.length)(h':p<(strOfNums u).size):((strOfNums u)[p]'h').toNat<128:=by
 obtain⟨a,b⟩:=hu _ (List.getElem_mem h);rw[qUK u p h h',UInt8.toNat_ofNat'];omega
theorem gX {w:World}{B e size n:Nat}{v:Value}{xs:List Value}{k:Nat}{s:ByteArray}{a9:Nat}(h:w.ownsRow B e size v n xs)(hk:w.heap[k]?=some (.stringIter s a9)):some k≠v.ownBlock:=by
 rcases h.2 with ⟨rfl,_⟩|⟨g,cap,cur,rfl,hb,hg,_⟩
 ·simp[Value.ownBlock]
 intro e;simp only[Value.ownBlock,Option.some.injEq]at e;subst e;rw[hk]at hg;cases hg
def FamS (ba b off len sc:Nat)(ws:List (List Int))(w wx:World)(v:Value)(G:List (List (List Int))):Prop :=
 ∃(n:Nat) (sl:Option Addr) (c:Nat) (svs:List Value),v=.slice sl n c/\LUp 65 ba wx (.slice sl n c) n svs G/\RowT ba 9 wx (.slice (some ⟨b,off,none⟩) len sc) (strs ws)/\w.grownBy wx none/\ba<=wx.heap.size
theorem FamS.shape {ba b off len sc:Nat}{ws:List (List Int)}{w wx:World}{v:Value}{G:List (List (List Int))}(h:FamS ba b off len sc ws w wx v G):∃n sl c,v=.slice sl n c/\FamS ba b off len sc ws w wx (.slice sl n c) G:=by
 obtain⟨n,sl,c,svs,rfl,h⟩:=h;exact⟨n,sl,c,rfl,n,sl,c,svs,rfl,h⟩
theorem qCB {ops:Array Oper}{a9:List Oper}{o:Oper}{a:Act}{Q:Exit->Act->World->Prop}(a7:o.guard=none)(s x:Operand)(ho:o.op=.call { callee:=.builtin .append,args:=#[s,x],argTypes:=#[32,32] }){ba b off len sc n c q:Nat}{sl:Option Addr}{ws us:List (List Int)}{G:List (List (List Int))}{w wo:World}{cs:Array Value}(hF:FamS ba b off len sc ws w wo (.slice sl n c) G)(hn:G.length<=1700)(hc:cs.toList=strs us)(hq:cs.size=q)(hm:q<=maxLen)(hs:a.eval s=.slice sl n c)(hx:a.eval x=.slice (some ⟨wo.heap.size+1,0,none⟩) 1 1)(a8:w.heap.size<=ba)(h:∀sl' c' w3,FamS ba b off len sc ws w w3 (.slice sl' (n+1) c') (G++[us])->wpList Tryz.prog ops Q a9 (a.put o.dst (.slice sl' (n+1) c')) w3):wpList Tryz.prog ops Q (o::a9) a ((wo.alloc (.cells cs 9)).alloc (.cells #[.slice (some ⟨wo.heap.size,0,none⟩) q q] 65)):=by
 obtain⟨n',sl',c',svs,e,hL,hT,hg,h7⟩:=hF;injection e with e1 e2 e3;subst e1;subst e2;subst e3;have h6:=hL.len;have h4:=hL.own.alloc (.cells cs 9);refine app1 a7 s x _ ho qG ba _ n svs hs h4 _ (by rw[zL];exact hx) rfl (by unfold maxLen;omega) (by omega) (by rw[zL];omega) ?_;intro sl1 c1 wp1 h0 h5 _;obtain⟨h3,h1⟩:=(PatsUp.mk hL.own hL.rows).push hc hq hm h0 h5;have h2:=fun q (e:(Value.slice sl n c).ownBlock=some q)=>(hL.own.lt q e).1;exact h sl1 c1 wp1 ⟨n+1,sl1,c1,_,rfl,LUp.ofPats h3,hT.kept h1 (fun q e=>.inl (h2 q e)),zA hg h1 (fun q e=>by have:=h2 q e;omega),by have:=h1.size;omega⟩
theorem qPT {Q:Exit->Act->World->Prop}{v1 v3 v4 v5 v6 v7 v8 v9 z1 z2 z3 z4 z5 z6 B6 B7 B8 z7 z8 z9 y0 y1 y2 y3 y4 y5 y6 y7 y8 y9 x0 x1 x2 x3 x4 x5 x6 x7 x8 x9 t0 t1 t2 t3 t4 t5 t6 t7 t8 t9 s0 s1 s2 s3 s4 s5 s6 s7 s8 s9 r0 r1 r2 r3 r4 r5 r6 r7 r8 r9 q0 q1 q2 q3 q4 q5 q6 q7 q8 q9 p0 p1 p2 p3 p4 p5 B9 A0 A1 A2 A3 A4 A5 A6 A7 p6 p7 p8 p9 o0 o1 o2 o3 o4 o5 o6 o7 o8 o9 n0 n1 n2 n3 n4 n5 n6 n7 n8 n9 m0 m1 m2 m3 m4 m5 m6 m7 m8 m9 l0 l1 l2 l3 l4 l5 l6 l7 l8 l9 k0 k1 k2 k3 k4 k5 k6 k7 k8 k9 j0 j1 j2 j3 j4 j5 j6 j7 j8 j9 i0 i1 i2 i3 i4 i5 i6 i7 i8 i9 g1 g2 g3 g4 g5 g6 g7 g8 g9 f0 f1 f2 f3 f4 f5 f6 f7 f8 f9 e0 e7 e8 e9 d0 d1 d2 d3 d4 d5 d6 d7 d8 d9 c0 c4 c6 c7 c8 c9 b0 b1 b2 b3 b4 b5 b6 b7 b8 b9 a0 a1 a2 a3 a4 a5 a6 a7 a8:Value}{KD:Int}{i b off len sc ba n c j:Nat}{sl:Option Addr}{ws:List (List Int)}{u:List Int}{G0:List (List (List Int))}{w wo:World}(C9:1<=KD)(B0:KD<=7)(B1:i<=8)(B3:u.length<=8)(B5:(j:Int)<len)(C7:len<=sc)(C8:sc<=9223372036854775807)(z0:len<=301)(A8:wo.cell? ⟨b,off+j,none⟩=some (.string (strOfNums u)))(B4:Hid (okW u))(B2:G0.length<=1505)(a9:w.heap.size<=ba)(HF:Hid (FamS ba b off len sc ws w wo (.slice sl n c) G0))(A9:∀ {sl':Option Addr} {n' c':Nat} {wx:World},FamS ba b off len sc ws w wx (.slice sl' n' c') (G0++genU KD i u)->∀ {z17 z18 z19 z91 z92 z93 z94 z95 z96 z97 z98 z99 z100 z101 z102 z103 z104 z105 z106 z107 z108 z109 z110 z111 z112 z113 z114 z115 z116 z117 z118 z119 z120 z121 z122 z123 z124 z125 z126 z127 z128 z129 z130 z131 z132 z133 z134 z135 z136 z137 z138 z139 z140 z141 z142 z143 z144 z145 z146 z147 z148 z149 z150 z151 z152 z153 z154 z155 z156 z157 z158 z159 z160 z161 z162 z163 z164 z165 z166 z167 z168 z169 z170 z171 z172 z173 z174 z175 z176 z177 z178 z179 z180 z181:Value},Q .normal ⟨((Value.int .i64 KD)::v1::(Value.int .i64 i)::v3::v4::v5::v6::v7::v8::v9::z1::z2::z3::z4::z5::(Value.slice sl' n' c')::z6::z17::z18::z19::z7::z8::z9::y0::y1::y2::y3::y4::y5::y6::y7::y8::y9::x0::x1::x2::x3::x4::x5::x6::x7::x8::x9::t0::t1::t2::t3::t4::t5::t6::t7::t8::t9::s0::s1::s2::s3::s4::s5::s6::s7::s8::s9::r0::r1::r2::r3::r4::r5::r6::r7::r8::r9::q0::q1::q2::q3::q4::q5::q6::q7::q8::q9::p0::p1::p2::p3::p4::(Value.slice (some ⟨b,off,none⟩) len sc)::p5::(Value.int .i64 j)::z91::z92::z93::z94::z95::z96::z97::z98::z99::z100::z101::z102::z103::z104::z105::z106::z107::z108::z109::z110::z111::z112::z113::z114::z115::z116::z117::z118::z119::z120::z121::z122::z123::z124::z125::z126::z127::z128::z129::z130::z131::z132::z133::z134::z135::z136::z137::z138::z139::z140::z141::z142::z143::z144::z145::z146::z147::z148::z149::z150::z151::z152::z153::z154::z155::z156::z157::z158::z159::z160::z161::z162::z163::z164::z165::z166::z167::z168::z169::z170::z171::z172::z173::z174::z175::z176::z177::z178::z179::z180::z181::g9::f0::f1::f2::f3::f4::f5::f6::f7::f8::f9::e0::e7::e8::e9::d0::d1::d2::d3::d4::d5::d6::d7::d8::d9::c0::c4::c6::c7::c8::c9::b0::b1::b2::b3::b4::b5::b6::b7::b8::b9::a0::a1::a2::a3::a4::a5::a6::a7::a8::[]).toArray,[]⟩ wx):Code.wp Tryz.prog (.block 3 (blk Tryz.f11 3)) Q ⟨((Value.int .i64 KD)::v1::(Value.int .i64 i)::v3::v4::v5::v6::v7::v8::v9::z1::z2::z3::z4::z5::(Value.slice sl n c)::z6::B6::B7::B8::z7::z8::z9::y0::y1::y2::y3::y4::y5::y6::y7::y8::y9::x0::x1::x2::x3::x4::x5::x6::x7::x8::x9::t0::t1::t2::t3::t4::t5::t6::t7::t8::t9::s0::s1::s2::s3::s4::s5::s6::s7::s8::s9::r0::r1::r2::r3::r4::r5::r6::r7::r8::r9::q0::q1::q2::q3::q4::q5::q6::q7::q8::q9::p0::p1::p2::p3::p4::(Value.slice (some ⟨b,off,none⟩) len sc)::p5::(Value.int .i64 j)::B9::A0::A1::A2::A3::A4::A5::A6::A7::p6::p7::p8::p9::o0::o1::o2::o3::o4::o5::o6::o7::o8::o9::n0::n1::n2::n3::n4::n5::n6::n7::n8::n9::m0::m1::m2::m3::m4::m5::m6::m7::m8::m9::l0::l1::l2::l3::l4::l5::l6::l7::l8::l9::k0::k1::k2::k3::k4::k5::k6::k7::k8::k9::j0::j1::j2::j3::j4::j5::j6::j7::j8::j9::i0::i1::i2::i3::i4::i5::i6::i7::i8::i9::g1::g2::g3::g4::g5::g6::g7::g8::g9::f0::f1::f2::f3::f4::f5::f6::f7::f8::f9::e0::e7::e8::e9::d0::d1::d2::d3::d4::d5::d6::d7::d8::d9::c0::c4::c6::c7::c8::c9::b0::b1::b2::b3::b4::b5::b6::b7::b8::b9::a0::a1::a2::a3::a4::a5::a6::a7::a8::[]).toArray,[]⟩ wo:=by
 have I1:(strOfNums u).size=u.length:=strOfNums_size u;have h9:=qYR u;refine wp_block ?_
 let hB:Exit->Act->World->Prop:=bodyPost Tryz.prog Tryz.f11 (fun _ _=>True)
 conv=>arg 2;whnf
 go_upto_region 21 with fail;go_cut [109] (fun v wx=>v=.bool (decide (KD=1\/KD=7\/(KD≠6/\u.length<i)))/\wo=wx)
 case first =>
  rcases (by omega:KD=1\/KD=7\/KD=6\/(¬KD=1/\¬KD=7/\¬KD=6)) with rfl|rfl|rfl|⟨h1,h2,h3⟩;rotate_left 3
  ·have e1:(KD == 1)=false:=by rw[beq_eq_false_iff_ne];exact h1
   have e2:(KD == 7)=false:=by rw[beq_eq_false_iff_ne];exact h2
   have e3:(KD == 6)=false:=by rw[beq_eq_false_iff_ne];exact h3
   have e4:(KD != 6)=true:=by rw[bne,e3];rfl
   obtain⟨H1,H2,H3⟩:=K3 h1 h2 h3;clear h1 h2 h3;go_wp2
   go_meet
   exact⟨congrArg Value.bool (by simp[H1.out,H2.out,H3.out]),rfl⟩
  all_goals
   go_wp2
   go_meet
   exact⟨congrArg Value.bool (by simp),rfl⟩
 obtain⟨rfl,rfl⟩:=hcut
 go_upto_if 109 with fail
 go_cut [15] (fun v wx=>FamS ba b off len sc ws w wx v (G0++if KD=1\/KD=7\/(KD≠6/\u.length<i) then [oneB u] else []))
 case first =>
  by_cases hc:KD=1\/KD=7\/(KD≠6/\u.length<i)
  ·have HC:=Kh hc
   rw[decide_eq_true hc];clear hc;go_wp2_with (at_builtin;refine qCB rfl (.tmp 110) (.tmp 114) rfl HF.out (by omega) (us:=oneB u) (cs:=#[.string (strOfNums u)]) (q:=1) rfl rfl (by unfold maxLen;omega) rfl rfl a9 ?_;intro sl' c' w3 H5);go_wp2
   go_meet
   rw[if_pos HC.out];exact H5
  have HC:=Kh hc;rw[decide_eq_false hc];clear hc;go_wp2
  go_meet
  rw[if_neg HC.out,List.append_nil];exact HF.out
 obtain⟨n,sl,c,rfl,hF⟩:=hcut.shape;have HF:=Kh hF;obtain⟨wo,rfl⟩:=Nm (wc:World);clear hcut hF;obtain⟨G1,hG⟩:=Nm (G0++if KD=1\/KD=7\/(KD≠6/\u.length<i) then [oneB u] else []);rw[<-hG]at HF;have D9:=Kh hG;have I6:G1.length<=1506:=by rw[hG,List.length_append];have:=iJ (c:=KD=1\/KD=7\/(KD≠6/\u.length<i)) (oneB u);omega
 clear hG;by_cases he:u=[]
 ·have C6:(strOfNums u).toList.isEmpty=true:=by rw[h9,he];rfl
  have D4:=Kh he;clear he h9;go_wp2;rw[genU,if_pos D4.out,List.append_nil,<-D9.out];exact HF.out
 have C6:(strOfNums u).toList.isEmpty=false:=by rw[h9,List.isEmpty_eq_false_iff];exact he
 have D4:=Kh he;clear he h9;go_upto_region 24 with fail;go_cut [127] (fun v wx=>v=.bool (decide (KD=2\/KD=4\/KD=5))/\wo=wx)
 case first =>
  rcases (by omega:KD=2\/KD=4\/KD=5\/(¬KD=2/\¬KD=4/\¬KD=5)) with rfl|rfl|rfl|⟨h1,h2,h3⟩;rotate_left 3
  ·have e1:(KD == 2)=false:=by rw[beq_eq_false_iff_ne];exact h1
   have e2:(KD == 4)=false:=by rw[beq_eq_false_iff_ne];exact h2
   have e3:(KD == 5)=false:=by rw[beq_eq_false_iff_ne];exact h3
   have e4:(KD != 5)=true:=by rw[bne,e3];rfl
   obtain⟨H1,H2,H3⟩:=K3 h1 h2 h3;clear h1 h2 h3;go_wp2
   go_meet
   exact⟨congrArg Value.bool (by simp[H1.out,H2.out,H3.out]),rfl⟩
  all_goals
   go_wp2
   go_meet
   exact⟨congrArg Value.bool (by simp),rfl⟩
 obtain⟨rfl,rfl⟩:=hcut
 go_upto_if 127 with fail
 go_cut [15] (fun v wx=>FamS ba b off len sc ws w wx v (G1++if KD=2\/KD=4\/KD=5 then [preB u] else []))
 case first =>
  by_cases hc:KD=2\/KD=4\/KD=5
  ·have HC:=Kh hc
   rw[decide_eq_true hc];clear hc;go_wp2_with (at_builtin;refine qCB rfl (.tmp 128) (.tmp 132) rfl HF.out (by omega) (us:=preB u) (cs:=#[.string (strOfNums u),.string ⟨#[]⟩]) (q:=2) rfl rfl (by unfold maxLen;omega) rfl rfl a9 ?_;intro sl' c' w3 H5);go_wp2
   go_meet
   rw[if_pos HC.out];exact H5
  have HC:=Kh hc;rw[decide_eq_false hc];clear hc;go_wp2
  go_meet
  rw[if_neg HC.out,List.append_nil];exact HF.out
 obtain⟨n,sl,c,rfl,hF⟩:=hcut.shape;have HF:=Kh hF;obtain⟨wo,rfl⟩:=Nm (wc:World);clear hcut hF;obtain⟨G2,hG⟩:=Nm (G1++if KD=2\/KD=4\/KD=5 then [preB u] else []);rw[<-hG]at HF;have F1:=Kh hG;have I5:G2.length<=1507:=by rw[hG,List.length_append];have:=iJ (c:=KD=2\/KD=4\/KD=5) (preB u);omega
 clear hG;go_upto_region 26 with fail;go_cut [143] (fun v wx=>v=.bool (decide (KD=3\/KD=4\/KD=5))/\wo=wx)
 case first =>
  rcases (by omega:KD=3\/KD=4\/KD=5\/(¬KD=3/\¬KD=4/\¬KD=5)) with rfl|rfl|rfl|⟨h1,h2,h3⟩;rotate_left 3
  ·have e1:(KD == 3)=false:=by rw[beq_eq_false_iff_ne];exact h1
   have e2:(KD == 4)=false:=by rw[beq_eq_false_iff_ne];exact h2
   have e3:(KD == 5)=false:=by rw[beq_eq_false_iff_ne];exact h3
   have e4:(KD != 5)=true:=by rw[bne,e3];rfl
   obtain⟨H1,H2,H3⟩:=K3 h1 h2 h3;clear h1 h2 h3;go_wp2
   go_meet
   exact⟨congrArg Value.bool (by simp[H1.out,H2.out,H3.out]),rfl⟩
  all_goals
   go_wp2
   go_meet
   exact⟨congrArg Value.bool (by simp),rfl⟩
 obtain⟨rfl,rfl⟩:=hcut
 go_upto_if 143 with fail
 go_cut [15] (fun v wx=>FamS ba b off len sc ws w wx v (G2++if KD=3\/KD=4\/KD=5 then [sufB u] else []))
 case first =>
  by_cases hc:KD=3\/KD=4\/KD=5
  ·have HC:=Kh hc
   rw[decide_eq_true hc];clear hc;go_wp2_with (at_builtin;refine qCB rfl (.tmp 144) (.tmp 148) rfl HF.out (by omega) (us:=sufB u) (cs:=#[.string ⟨#[]⟩,.string (strOfNums u)]) (q:=2) rfl rfl (by unfold maxLen;omega) rfl rfl a9 ?_;intro sl' c' w3 H5);go_wp2
   go_meet
   rw[if_pos HC.out];exact H5
  have HC:=Kh hc;rw[decide_eq_false hc];clear hc;go_wp2
  go_meet
  rw[if_neg HC.out,List.append_nil];exact HF.out
 obtain⟨n,sl,c,rfl,hF⟩:=hcut.shape;have HF:=Kh hF;obtain⟨wo,rfl⟩:=Nm (wc:World);clear hcut hF;obtain⟨G3,hG⟩:=Nm (G2++if KD=3\/KD=4\/KD=5 then [sufB u] else []);rw[<-hG]at HF;have F0:=Kh hG;have I4:G3.length<=1508:=by rw[hG,List.length_append];have:=iJ (c:=KD=3\/KD=4\/KD=5) (sufB u);omega
 clear hG
 go_upto_if 151 with fail
 go_cut [15] (fun v wx=>FamS ba b off len sc ws w wx v (G3++if KD=5 then [facB u] else []))
 case first =>
  by_cases hc:KD=5
  ·have HC:=Kh hc
   have e5:(KD == 5)=true:=by rw[hc];rfl
   clear hc;go_wp2_with (at_builtin;refine qCB rfl (.tmp 152) (.tmp 156) rfl HF.out (by omega) (us:=facB u) (cs:=#[.string ⟨#[]⟩,.string (strOfNums u),.string ⟨#[]⟩]) (q:=3) rfl rfl (by unfold maxLen;omega) rfl rfl a9 ?_;intro sl' c' w3 H5);go_wp2
   go_meet
   rw[if_pos HC.out];exact H5
  have HC:=Kh hc;have e5:(KD == 5)=false:=by rw[beq_eq_false_iff_ne];exact hc
  clear hc;go_wp2
  go_meet
  rw[if_neg HC.out,List.append_nil];exact HF.out
 obtain⟨n,sl,c,rfl,hF⟩:=hcut.shape;have HF:=Kh hF;obtain⟨wo,rfl⟩:=Nm (wc:World);clear hcut hF;obtain⟨G4,hG⟩:=Nm (G3++if KD=5 then [facB u] else []);rw[<-hG]at HF;have E9:=Kh hG;have I3:G4.length<=1509:=by rw[hG,List.length_append];have:=iJ (c:=KD=5) (facB u);omega
 clear hG;by_cases h6:KD=6
 ·have e6:(KD == 6)=true:=by rw[h6];rfl
  have H6:=Kh h6;obtain⟨n',sl',c',svs,e,D6,hT,hg,I7⟩:=HF.out;injection e with e1 e2 e3;subst e1;subst e2;subst e3;have hn:n<=1700:=by have:=D6.len;omega
  have D3:=Kh D6;clear D6 h6;have g0:wo.grownBy (wo.alloc (.cells #[.string ⟨#[]⟩] 9)) none:=Ga _ _ _;have ho:=World.ownsRow_lit (e:=9) (size:=1) wo #[.string ⟨#[]⟩] 1 (Nat.le_refl _) (by unfold maxLen;omega) (by simp)
  have E2:((wo.alloc (.cells #[.string ⟨#[]⟩] 9)).iter (strOfNums u) 0).heap[wo.heap.size+1]?=some (.stringIter (strOfNums u) 0):=by
   have:=World.iter_heap (wo.alloc (.cells #[.string ⟨#[]⟩] 9)) (strOfNums u) 0
   rwa [zL]at this
  have E7:=Kh (ho.alloc (.stringIter (strOfNums u) 0));have E8:=Kh E2;have F2:=Kh (vC g0 (.stringIter (strOfNums u) 0));clear ho E2 g0;go_wp2
  go_loopg [18] u.length (fun gh v wq=>∃(p:Nat) (sb:Option Addr) (cb:Nat),gh+p=u.length/\v=.slice sb (1+p) cb/\wq.ownsRow wo.heap.size 9 1 (.slice sb (1+p) cb) (1+p) (strs (uW u p))/\wq.heap[wo.heap.size+1]?=some (.stringIter (strOfNums u) p)/\wo.grownBy wq none)
  case atStart=>exact⟨0,_,_,rfl,rfl,E7.out,E8.out,F2.out⟩
  clear E7 E8 F2;obtain⟨p,sb,cb,E3,rfl,h0,h7,C5⟩:=hrel;obtain⟨wq,rfl⟩:=Nm (wr:World);have H7:=Kh E3;clear E3;by_cases hpl:p<u.length
  ·have C1:p<(strOfNums u).size:=by omega
   have C2:∀ty,(Instr.next (.pointer (some ⟨wo.heap.size+1,0,none⟩)) true ty).run Tryz.prog wq=_:=fun ty=>Lib.run_next_ascii_at wq (wo.heap.size+1) (strOfNums u) p ty h7 C1 (qPC B4.out hpl C1);have F9:=cL u p hpl;have H4:=Lib.iterAt_heap wq (wo.heap.size+1) (strOfNums u) p (p+1) h7;have D7:=qFF wq (wo.heap.size+1) (strOfNums u) (p+1);have h5:=h0.kept D7 (.inr (gX h0 h7).symm);have h8:=zA C5 D7 (fun q e=>by have:=Oj e;omega);obtain⟨BY,E6⟩:=Nm (((strOfNums u)[p]'C1).toNat:Nat);rw[<-E6]at C2;obtain⟨wi,E0⟩:∃wi,wq.iterAt (wo.heap.size+1) (strOfNums u) (p+1)=wi:=⟨_,rfl⟩;rw[E0]at C2 H4 h5 h8;have D0:=Kh H4;have F6:(p:Int)+1<=8:=by omega
   have I2:(p:Int)<((strOfNums u).size:Int):=(by omega);have F7:(p:Int)+1<=((strOfNums u).size:Int):=by omega
   clear E6 E0 D7 h0 h7 C5 H4;go_wp2_with (at_builtin;refine app1 rfl (.tmp 166) (.tmp 172) _ rfl tI wo.heap.size _ (1+p) (strs (uW u p)) rfl h5 _ rfl rfl ?c1 ?c2 ?c3 ?_)
   case c1=>unfold maxLen;omega
   case c2=>omega
   case c3=>exact h8.size
   intro sb' cb' w3 h4 H9 _;have E5:=fun q (e:(Value.slice sb (1+p) cb).ownBlock=some q)=>(h5.lt q e).1;have H8:=zA h8 H9 E5;have C4:=zB D0.out H9 (fun e=>gX h5 D0.out e.symm)
   have e1:strs (uW u (p+1))=strs (uW u p)++[.string (strOfNums [u[p]])]:=by
    rw[uW,uW,List.take_succ_eq_append_getElem hpl,List.map_append,<-List.append_assoc,tY];rfl
   obtain⟨HE,G8,I0⟩:=K3 e1 h4 C4;clear h5 h8 H9 F9 e1 h4 C4 C2 E5;go_wp2;go_roundg (u.length-(p+1))
   case measure=>have:=H7.out;omega
   exact⟨p+1,sb',cb',by have:=H7.out;omega,rfl,by rw[HE.out];exact G8.out,I0.out,H8⟩
  obtain⟨ub,D1⟩:=Nm (uW u p);have F5:p=u.length:=by have:=H7.out;omega
  have D5:ub.length=1+p:=by rw[D1];simp[uW];omega
  have C0:wY u=ub++[[]]:=by rw[D1,uW,List.take_of_length_le (by omega)];rfl
  have C1:¬p<(strOfNums u).size:=(by omega);have F6:p<=8:=by omega
  have C2:∀ty,(Instr.next (.pointer (some ⟨wo.heap.size+1,0,none⟩)) true ty).run Tryz.prog wq=_:=fun ty=>Lib.run_next_end_at wq (wo.heap.size+1) (strOfNums u) p ty h7 C1;rw[<-D1]at h0;have G6:=Kh C0;clear D1 D5 C0 F5 h7 hpl;go_wp2_with (at_builtin;refine app1 rfl (.tmp 175) (.tmp 176) _ rfl tI wo.heap.size _ (1+p) (strs ub) rfl h0 _ rfl rfl ?c1 ?c2 ?c3 ?_)
  case c1=>unfold maxLen;omega
  case c2=>omega
  case c3=>exact C5.size
  intro sb' cb' w3 h4 H9 _;have H8:=zA C5 H9 (fun q e=>(h0.lt q e).1);have e3:strs ub++[.string ⟨#[]⟩]=strs (wY u):=by rw[G6.out,tY];rfl
  rw[e3]at h4;have C3:=D3.out.kept H8 (by simp);have F4:=H8.size;clear h0 H9 C5 C2 e3;go_wp2_with (at_builtin;refine app1 rfl (.tmp 174) (.tmp 179) _ rfl qG ba _ n svs rfl C3.own _ rfl rfl ?c1 ?c2 ?c3 ?_)
  case c1=>unfold maxLen;omega
  case c2=>omega
  case c3=>omega
  intro sl5 c5 w5 H0 E4 _;obtain⟨E1,D2⟩:=D3.out.push (us:=wY u) H8 h4 H0 E4;have D8:=fun q (e:(Value.slice sl n c).ownBlock=some q)=>(D3.out.own.lt q e).1;have G5:=hT.kept D2 (fun q e=>.inl (D8 q e));have F8:=zA hg D2 (fun q e=>by have:=D8 q e;omega);have F3:ba<=w5.heap.size:=by have:=D2.size;omega
  have G7:=Kh E1;clear h4 H0 H8 E4 D2 C3 E1 hT hg D8 D3 F4;go_wp2;exact⟨_,_,_,_,rfl,by rw[genU,if_neg D4.out,if_pos H6.out,<-List.append_assoc,<-List.append_assoc,<-List.append_assoc,<-List.append_assoc,<-D9.out,<-F1.out,<-F0.out,<-E9.out];exact G7.out,G5,F8,F3⟩
 have e6:(KD == 6)=false:=by rw[beq_eq_false_iff_ne];exact h6
 have G9:=Kh h6;clear h6;go_wp2;rw[genU,if_neg D4.out,if_neg G9.out,List.append_nil,<-List.append_assoc,<-List.append_assoc,<-List.append_assoc,<-D9.out,<-F1.out,<-F0.out,<-E9.out];exact HF.out
theorem qGX (KD:Int)(L K M:Nat)(w:World)(ho:tZ KD L K M=true):Calls Tryz.prog 11 #[.int .i64 KD,.int .i64 L,.int .i64 K,.int .i64 M] w (sW w (famE KD L K M) (famL KD L K M)):=by
 have i1:=Kh (yK w (L:Int));have HO:=Kh ho;simp only[tZ,decide_eq_true_eq]at ho;obtain⟨b7,b6,m8,m7,hk,n0,hm⟩:=ho;have q9:M<=4:=by split at hm<;>omega
 have c8:1<=L:=by omega
 have c7:L<=6:=by omega
 have c9:K<=8:=by omega
 rw[decide_eq_true (show 1<=(L:Int)/\(L:Int)<=6 by omega)]at i1;have g7:=Kh (qPG (kind:=KD) (letters:=L) (k:=K) (m:=M) b7 b6 c8 (fun _=>by omega));have l4:=Kh (qZH (kind:=KD) (letters:=L) (k:=K) b7 b6 M);have p3:=Kh (xAI (kind:=KD) (L:=L) (K:=K) M);have HM:=Kh hm;obtain⟨lo,f9⟩:=Nm (if KD=1 then 0 else 1:Int);rw[<-f9]at hk;have i4:=Kh f9;have g6:Hid (∀i,i<=K->(upTo L (i+1)).length<=20000000):=Kh (fun i hi=>by have:=tX L c7 (i+1) (by omega);omega);have k5:KD=1\/KD=2\/KD=3\/KD=4\/KD=5\/KD=6\/KD=7:=by omega
 clear hm f9;go_enter Tryz.func11,Tryz.ntmps11
 go_upto_if 23 with fail
 go_cut [10] (fun v10 wx=>v10=.int .i64 lo/\w=wx)
 case first =>
  by_cases h1:KD=1
  ·have e1:(KD == 1)=true:=by rw[h1];rfl
   have i5:Hid (lo=0):=Kh (by rw[i4.out,if_pos h1]);clear h1;go_wp2
   go_meet
   exact⟨by rw[i5.out],rfl⟩
  have e1:(KD == 1)=false:=by rw[beq_eq_false_iff_ne];exact h1
  have i5:Hid (lo=1):=Kh (by rw[i4.out,if_neg h1]);clear h1;go_wp2
  go_meet
  exact⟨by rw[i5.out],rfl⟩
 obtain⟨rfl,rfl⟩:=hcut;go_upto_region 4 with fail;go_cut [63] (fun v63 wx=>v63=.bool false/\w=wx)
 case first =>
  as_aux_lemma =>
   by_cases h7:KD=7
   ·have e7:(KD == 7)=true:=by rw[h7];rfl
    have e8:(KD != 7)=false:=by rw[h7];rfl
    have m6:(M:Int)<=4:=by omega
    clear h7;go_wp2_with fail;refine i1.out.mono ?_;rintro e w ⟨rfl,rfl⟩;go_wp2
    go_meet
    exact⟨congrArg Value.bool (by simp only[Bool.or_eq_false_iff,decide_eq_false_iff_not];omega),rfl⟩
   have e7:(KD == 7)=false:=by rw[beq_eq_false_iff_ne];exact h7
   have e8:(KD != 7)=true:=by rw[bne,e7];rfl
   have j7:(M:Int)=0:=by have:=HM.out;rwa [if_neg h7]at this
   have m6:((M:Int) != 0)=false:=by rw[j7];rfl
   clear h7 j7;go_wp2_with fail;refine i1.out.mono ?_;rintro e w ⟨rfl,rfl⟩;go_wp2
   go_meet
   exact⟨congrArg Value.bool (by simp only[Bool.or_eq_false_iff,decide_eq_false_iff_not];omega),rfl⟩
 obtain⟨rfl,rfl⟩:=hcut;by_cases hsix:KD=6/\8<(K:Int)+2
 ·have H3:=Kh (qCC HO.out (.inl hsix))
  obtain⟨h6,o1⟩:=hsix;have e6:(KD == 6)=true:=by rw[h6];rfl
  clear h6;go_wp2;refine bodyPost_ret (v:=.tuple #[.slice none 0 0,.int .i64 3]) (by simp[results,Tryz.results11,go_sem]) rfl ?_;rw[H3.out.1,H3.out.2];exact sW.nil (zH _ _)
 have o4:=Kh hsix;go_upto_region 6 with fail;go_cut [70] (fun v70 wx=>v70=.bool false/\w=wx)
 case first =>
  by_cases h6:KD=6
  ·have e6:(KD == 6)=true:=by rw[h6];rfl
   have o1:¬8<(K:Int)+2:=fun h=>hsix ⟨h6,h⟩;clear h6 hsix;go_wp2
   go_meet
   exact⟨rfl,rfl⟩
  have e6:(KD == 6)=false:=by rw[beq_eq_false_iff_ne];exact h6
  clear h6 hsix;go_wp2
  go_meet
  exact⟨rfl,rfl⟩
 obtain⟨rfl,rfl⟩:=hcut;clear hsix
 as_aux_lemma =>
  go_wp2
  go_loopg [11,12,13] K (fun gh vc vi vp wr=>∃i:Nat,gh+i=K/\vc=.int .i64 (((upTo L (i+1)).length:Nat):Int)/\vi=.int .i64 (i:Int)/\vp=.int .i64 ((L ^ i:Nat):Int)/\w=wr)
  case atStart=>exact⟨0,rfl,by rw[xP,List.length_append,uF];simp[upTo],rfl,rfl,rfl⟩
  obtain⟨i,b8,rfl,rfl,rfl,rfl⟩:=hrel;have H1:=Kh b8;clear b8;have k8:=g6.out i (by have:=H1.out;omega);by_cases hlt:i<K
  ·have b3:(i:Int)<(K:Int):=by omega
   have k7:=g6.out (i+1) (by omega);have e0:=qAR L i;rw[e0]at k7;have g8:=Kh e0;obtain⟨CN,d4⟩:=Nm ((upTo L (i+1)).length);obtain⟨PW,g5⟩:=Nm (L ^ i);obtain⟨P2,b9⟩:=Nm (L ^ i*L);have m5:(PW:Int)*(L:Int)=(P2:Int):=by rw[b9,g5];push_cast;rfl
   have d6:Hid ((upTo L (i+1+1)).length=CN+P2/\L ^ (i+1)=P2):=Kh ⟨by rw[g8.out,d4,b9],by rw[b9,Nat.pow_succ]⟩;rw[<-b9,<-d4]at k7;rw[<-d4,<-g5];clear e0 d4 g5 b9 k8;go_wp2;go_roundg (K-(i+1))
   case measure=>have:=H1.out;omega
   exact⟨i+1,by have:=H1.out;omega,by rw[d6.out.1];go_num,by go_num,by rw[d6.out.2],rfl⟩
  obtain rfl:i=K:=by have:=H1.out;omega
  clear hlt g6;obtain⟨ws,H2⟩:=Nm (xM L i);have o2:=Kh H2;have c6:upTo L (i+1)=ws:=H2.symm;rw[c6]at k8⊢;have i6:Hid (ws.length<=(famP KD L i M).length+1):=Kh (by rw[H2];exact p3.out);have q0:1<=ws.length:=by rw[H2];exact fQ c8
  have p7:Hid (1<=i->2<=ws.length):=Kh (fun h=>by rw[H2];exact qAQ c8 h);have l2:Hid (∀r (h:r<ws.length),(ws[r]=[]↔r=0)):=Kh (by subst H2;exact fun r h=>qGH h);have o3:Hid (∀u∈ws,u.length<=8):=Kh (by subst H2;exact fun u hu=>qCW c9 hu);have o8:Hid (∀u∈ws,okW u):=Kh (by subst H2;exact fun u hu=>okB c7 (n:=i+1) hu);have l3:Hid (ws.length<=301->Calls Tryz.prog 30 #[.int .i64 L,.int .i64 i] w (qLK w ws)):=Kh (fun h=>by rw[<-c6];exact qUD L i w c8 c7 c9 (by rw[c6];omega));clear H2 c6;by_cases hbig:300<(ws.length:Int)-1
  ·have H3:=Kh (qCC HO.out (.inr (g7.out.2 (by have:=i6.out;omega))))
   go_wp2;refine bodyPost_ret (v:=.tuple #[.slice none 0 0,.int .i64 3]) (by simp[results,Tryz.results11,go_sem]) rfl ?_;rw[H3.out.1,H3.out.2];exact sW.nil (zH _ _)
  have c1:=Kh (l3.out (by omega));clear l3;go_wp2_with fail;refine c1.out.mono ?_;rintro e w1 ⟨sa,sc,rfl,H5,g1⟩;obtain⟨b,off,rfl,n8,k6⟩:=qI H5 (by omega);have n7:sc<=9223372036854775807:=by unfold maxLen at k6;omega
  have H9:ws.length<=301:=by omega
  clear c1 k6 hbig;obtain⟨ba,g3⟩:=Nm w1.heap.size;rw[<-g3]at H5;have a6:ba<=w1.heap.size:=by omega
  have d8:w.heap.size<=ba:=by rw[g3];exact g1.size
  clear g3;go_wp2
  go_loopw [15,90] (fun v iv wr=>∃(j n:Nat) (sl:Option Addr) (c:Nat) (svs:List Value),iv=.int .i64 (j:Int)/\j<=ws.length/\v=.slice sl n c /\
    LUp 65 ba wr (.slice sl n c) n svs (genL KD i (ws.take j))/\RowT ba 9 wr (.slice (some ⟨b,off,none⟩) ws.length sc) (strs ws)/\w.grownBy wr none/\ba<=wr.heap.size)
   (fun _ iv _=>ws.length-(intOf iv).toNat)
  case atStart=>exact⟨0,0,none,0,[],rfl,Nat.zero_le _,rfl,by simpa [genL] using LUp.nil (by decide) _ _,H5,g1,a6⟩
  clear H5 g1 a6;obtain⟨j,n,sl,c,svs,rfl,hj,rfl,h3,hT,hg,a6⟩:=hrel;obtain⟨wo,rfl⟩:=Nm (wr:World)
  have hn:n<=1600:=by
   have h1:=h3.len;have h2:=qBZ KD i (ws.take j);rw[List.length_take]at h2;omega
  have h0:=Kh h3;clear h3;by_cases hlt:j<ws.length
  ·have b3:(j:Int)<ws.length:=by omega
   have h9:=uR hT hlt;have i8:=o3.out _ (List.getElem_mem hlt);have e4:=qRZ KD i hlt;obtain⟨u,d9⟩:=Nm (ws[j]);rw[<-d9]at h9 i8 e4;have o5:=Kh e4;have o9:Hid (okW u):=Kh (o8.out u (by rw[d9];exact List.getElem_mem hlt));clear d9 e4
   go_upto_block 3 with fail
   refine qPT b7 b6 c9 i8 b3 n8 n7 H9 h9 o9 (G0:=genL KD i (ws.take j)) (by have:=qBZ KD i (ws.take j);rw[List.length_take]at this;omega) d8 (Kh ⟨n,sl,c,svs,rfl,h0.out,hT,hg,a6⟩) ?_;intro sl' n' c' wx hF
   intros
   obtain⟨n3,sl3,c3,svs3,e,b4,n9,d0,g2⟩:=hF;injection e with e1 e2 e3;subst e1;subst e2;subst e3;have i3:=Kh b4;clear b4 hT hg a6 h9;go_wp2;go_roundw
   case rel=>exact⟨j+1,_,_,_,svs3,by go_num,by omega,rfl,by rw[o5.out];exact i3.out,n9,d0,g2⟩
   simp[intOf];omega
  obtain rfl:j=ws.length:=by omega
  rw[List.take_length]at h0;have a8:Hid (refL KD L i M=genL KD i ws++if KD=7 then (allC ws (M+1)).take 301 else []):=Kh (by rw[refL,o2.out]);clear hlt hj
  go_upto_if 183 with fail
  go_cut [15] (fun v wx=>∃(n:Nat) (sl:Option Addr) (c:Nat) (svs:List Value),v=.slice sl n c/\n<=2000/\LUp 65 ba wx (.slice sl n c) n svs (refL KD L i M)/\w.grownBy wx none)
  case first =>
   by_cases h7:KD=7
   ·have e7:(KD == 7)=true:=by rw[h7];rfl
    have r0:1<=i:=by have:=i4.out;rw[if_neg (by omega)]at this;omega
    have H7:=Kh h7;clear h7;have m0:=Kh (qGZ ba wo (.slice (some ⟨b,off,none⟩) ws.length sc) ws M a6 hT (by omega) (p7.out (by omega)) H9 ((l2.out 0 (by omega)).2 rfl) (fun r h h1 e=>by have:=(l2.out r h).1 e;omega));obtain⟨CH,d5⟩:=Nm ((allC ws (M+1)).take 301);rw[<-d5]at m0;have q8:CH.length<=301:=by rw[d5,List.length_take];omega
    have p6:=Kh d5;clear d5;go_wp2_with fail;refine m0.out.mono ?_;rintro e w2 ⟨sb,cb,svb,rfl,i9,H4,d3⟩;have b5:=h0.out.kept d3 (by simp);have q3:=H4.1;have c4:Hid (∀x∈svb,x.oneCell'=true):=Kh H4.one;have m1:=d3.size;go_wp2_with (at_builtin;refine appR rfl (.tmp 184) (.tmp 187) _ rfl qG ba _ n svs rfl b5.own _ svb rfl ⟨_,i9.row⟩ c4.out (n+CH.length) ?a1 ?a2 ?a3 ?a4 ?_)
    case a1=>omega
    case a2=>unfold maxLen;omega
    case a3=>omega
    case a4=>omega
    intro sl2 c2 w3 a0 d0;obtain⟨j3,k4⟩:=h0.out.cat d3 H4 a0 d0;have k3:=zA hg k4 (fun q e=>by have:=(h0.out.own.lt q e).1;omega);have c5:=Kh j3;clear b5 i9 H4 a0 d0 k4 j3 hT hg d3 h0 a6 m1 c4;have h0:=c5;have hg:=k3;clear c5 k3;go_wp2
    go_meet
    exact⟨n+CH.length,sl2,c2,svs++svb,rfl,by omega,by rw[a8.out,if_pos H7.out,<-p6.out];exact h0.out,hg⟩
   have e7:(KD == 7)=false:=by rw[beq_eq_false_iff_ne];exact h7
   have H7:=Kh h7;clear h7;go_wp2
   go_meet
   exact⟨n,sl,c,svs,rfl,by omega,by rw[a8.out,if_neg H7.out,List.append_nil];exact h0.out,hg⟩
  clear h0 hT hg a6 a8;obtain⟨m,sl2,c2,svs,rfl,q2,h3,hg⟩:=hcut;obtain⟨wo,rfl⟩:=Nm (wc:World);have h0:=Kh h3;clear h3
  as_aux_lemma =>
   obtain⟨RL,g4⟩:=Nm (refL KD L i M);have h4:=Kh g4;rw[<-g4]at h0;clear g4;have j4:=h0.out.len;by_cases hlim:300<m
   ·have a5:(300:Int)<(m:Int):=by omega
    have H3:=Kh (qCC HO.out (.inr (g7.out.2 (l4.out.1 (by rw[<-h4.out];omega)))));clear hlim;go_wp2;refine bodyPost_ret (v:=.tuple #[.slice none 0 0,.int .i64 3]) (by simp[results,Tryz.results11,go_sem]) rfl ?_;rw[H3.out.1,H3.out.2];exact sW.nil hg
   have a5:¬(300:Int)<(m:Int):=(by omega);have l9:=Kh (qNM HO.out (o4.out) (fun h=>by have:=l4.out.2 (g7.out.1 h);rw[<-h4.out]at this;omega));have l7:Hid RL.Nodup:=Kh (by rw[h4.out];exact qPV b7 b6 (by rw[<-h4.out];omega));have i7:Hid (∀ps,pE ps->ps.Perm RL->ps=famP KD L i M):=Kh (fun ps h1 h2=>qMG b7 b6 (by rw[<-h4.out];omega) h1 (by rw[<-h4.out];exact h2));have l6:Hid (∀p∈RL,okP p):=Kh (fun p hp=>by rw[h4.out]at hp;exact qZI c7 c9 (by omega) hp);have c0:m<=300:=by omega
   have p0:=Kh j4;clear hlim j4 h4;obtain⟨NL,l1⟩:=Nm m;rw[<-l1]at h0 p0 c0 a5⊢;clear l1;obtain⟨SL,k9⟩:=Nm sl2;rw[<-k9]at h0⊢;clear k9;obtain⟨SC,l0⟩:=Nm c2;rw[<-l0]at h0⊢;clear l0;go_wp2
   go_loopg [194] NL (fun gh iv wx=>∃(q:Nat) (sv:List Value) (ps:List (List (List Int))),gh+q=NL/\iv=.int .i64 (q:Int)/\LUp 65 ba wx (.slice SL NL SC) NL sv ps/\Hid (pE (ps.take q)/\ps.Perm RL)/\w.grownBy wx none)
   case atStart=>exact⟨0,_,_,rfl,rfl,h0.out,Kh ⟨by simp[pE],List.Perm.refl _⟩,hg⟩
   clear h0 hg;obtain⟨q,sv,ps,b8,rfl,h3,b0,hg⟩:=hrel;obtain⟨wa,rfl⟩:=Nm (wr:World);have H1:=Kh b8;have h0:=Kh h3;clear b8;by_cases hq:q<NL
   ·have q1:(q:Int)<(NL:Int):=by omega
    rcases id h3.own.2 with ⟨_,e2⟩|⟨g,cap,cur,e1,hgb,_,hnc,hcm,_,_⟩
    ·omega
    simp only[Value.slice.injEq]at e1;obtain⟨rfl,_,rfl⟩:=e1;have o0:SC<=9223372036854775807:=by unfold maxLen at hcm;omega
    have p9:w.heap.size<=g:=by omega
    have l8:Hid (InsI RL ps q q):=Kh (qRX b0.out.1 (by have:=h3.len;omega) b0.out.2);clear h3 b0 hcm;go_wp2
    go_loopg [21] q (fun gh jv wx=>∃(j:Nat) (sv:List Value) (ps:List (List (List Int))),j=gh/\j<=q/\jv=.int .i64 (j:Int)/\LUp 65 ba wx (.slice (some ⟨g,0,none⟩) NL SC) NL sv ps/\Hid (InsI RL ps q j)/\w.grownBy wx none)
    case atStart=>exact⟨q,sv,ps,rfl,Nat.le_refl _,rfl,h0.out,l8,hg⟩
    clear h0 l8 hg;obtain⟨j,sv,ps,rfl,q5,rfl,h3,b1,hg⟩:=hrel;obtain⟨wb,rfl⟩:=Nm (wr:World);by_cases hj0:j=0
    ·subst hj0
     have h0:=Kh h3;clear h3;go_wp2
     go_quiet (fail)
     go_wp2;go_roundg (NL-(q+1))
     case measure=>have:=H1.out;omega
     exact⟨q+1,sv,ps,by have:=H1.out;omega,by go_num,h0.out.kept (zK wb _ none) (by simp),Kh (qKL b1.out l7.out (.inl rfl)),zA hg (zK wb _ none)⟩
    obtain⟨k,j9⟩:∃k,j=k+1:=⟨j-1,by omega⟩;obtain⟨a1,d1,p1,f0,f6,H8,j1⟩:=h3.at (i:=k) (by omega);obtain⟨a2,d2,p2,e5,f5,H6,j0⟩:=h3.at (i:=j) (by omega);obtain⟨A0,x0,B0,C0,f3,_,_,_,_,h5⟩:=b1.out;have f8:=l6.out p1 (h5.mem_iff.1 (List.mem_of_getElem? f6));have f7:=l6.out p2 (h5.mem_iff.1 (List.mem_of_getElem? f5));clear f3 h5;have h8:wb.grownBy wb.drew none:=zN wb none;have a9:=Kh (qWQ wb.heap.size wb.heap.size wb.drew (.slice a2 p2.length d2) (.slice a1 p1.length d1) p2 p1 (j0.kept h8 (by simp)).row (j1.kept h8 (by simp)).row f7.2 f8.2 f7.1 f8.1);have h0:=Kh h3;have n5:(0:Int)<(j:Int):=(by omega);have g0:0<j:=(by omega);have q7:decide ((0:Int)<(j:Int))=true:=decide_eq_true n5;have q6:decide (0<j)=true:=decide_eq_true g0;have q4:(j:Int)<(NL:Int):=(by omega);have m9:(k:Int)<(NL:Int):=(by omega);have p8:IntKind.i64.wrap ((j:Int)-1)=(k:Int):=by rw[IntWalk.i64_in _ (by omega)];omega
    have m2:IntKind.i64.wrap (k:Int)=(k:Int):=IntWalk.i64_in _ (by omega);have n4:(0:Int)<=(k:Int):=by omega
    have j8:(k:Int)<=300:=by omega
    have m4:(j:Int)-1=(k:Int):=by omega
    have b2:=Kh j9;have d7:Hid (∀W,wb.drew.grownBy W none->W.cell? ⟨g,j,none⟩=some (.slice a2 p2.length d2)/\W.cell? ⟨g,k,none⟩=some (.slice a1 p1.length d1)):=Kh (fun W hW=>⟨vJ (vJ H6 h8) hW,vJ (vJ H8 h8) hW⟩);obtain⟨n2,j5⟩:=Nm p2.length;obtain⟨n1,j6⟩:=Nm p1.length;rw[<-j6]at f0 H8 a9 d7;rw[<-j5]at e5 H6 a9 d7;obtain⟨o6,d6,i0,g9⟩:=K4 f0 e5 f6 f5;clear h3 j1 j0 f8 f7 f0 e5 f6 f5 j6 j5 j9 hj0;cases hle:vQ p2 p1 with
    | false =>
     rw[hle]at a9;have p5:=Kh (qKL b1.out l7.out (.inr ⟨k,p1,p2,b2.out,i0.out,by rw[<-b2.out];exact g9.out,hle⟩));clear hle b1;go_wp2
     go_region_held3 (fun W=>W.cell? ⟨g,j,none⟩=some (.slice a2 n2 d2)/\W.cell? ⟨g,k,none⟩=some (.slice a1 n1 d1))
      (first|go_keep|exact d7.out _ H0|fail)
      (first|(go_at_call 32;(with_reducible refine a9.out.mono ?_);rintro e w7 ⟨rfl,H0⟩)|fail)
     go_wp2;go_roundg (NL-(q+1))
     case measure=>have:=H1.out;omega
     exact⟨q+1,sv,ps,by have:=H1.out;omega,by go_num,(h0.out.kept h8 (by simp)).kept H0 (by simp),p5,zA (zA hg h8) H0⟩
    | true =>
     rw[hle]at a9;have g8:=Kh (qWV (by rw[<-b2.out];exact b1.out) i0.out (by rw[<-b2.out];exact g9.out) hle);clear hle b1;go_wp2
     go_region_held3 (fun W=>W.cell? ⟨g,j,none⟩=some (.slice a2 n2 d2)/\W.cell? ⟨g,k,none⟩=some (.slice a1 n1 d1))
      (first|go_keep|exact d7.out _ H0|fail)
      (first|(go_at_call 32;(with_reducible refine a9.out.mono ?_);rintro e w7 ⟨rfl,H0⟩)|fail)
     have a7:=(h0.out.kept h8 (by simp)).kept H0 (by simp);have k0:=zA (zA hg h8) H0;have k1:=vJ (vJ H8 h8) H0;have k2:=vJ (vJ H6 h8) H0;rcases id a7.own.2 with ⟨e1,_⟩|⟨g',cap,cur,e1,_,hgk,_,_,_,_⟩
     ·simp at e1
     simp only[Value.slice.injEq,Option.some.injEq,Addr.mk.injEq,and_true]at e1;obtain⟨rfl,_,rfl⟩:=e1;have f1:=frozen_of_row w7 g k _ _ hgk;have f2:=frozen_of_row w7 g j _ _ hgk;obtain⟨i2,p4,r1⟩:=K3 a7 k0 hgk;clear a7 k0 hgk hg h8 H0 H8 H6 h0 a9;go_wp2
     go_region
     all_goals
      go_wp2;go_roundg k
      case measure=>have:=b2.out;omega
      have e9:=b2.out;subst e9;obtain⟨m3,n6⟩:=i2.out.drewN.swap o6.out d6.out i0.out g9.out (W:=_) (by first|exact .inl rfl|exact .inr rfl);exact⟨k,_,_,rfl,by omega,by go_num,m3,g8,zA (zA p4.out (zN w7 none)) n6 (fun x e=>by have:g=x:=Oj e;omega)⟩
   obtain rfl:q=NL:=by have:=H1.out;omega
   have f4:=h3.len;have j2:ps=famP KD L i M:=i7.out ps (by have:=b0.out.1;rwa [f4,List.take_length]at this) b0.out.2;have o7:=Kh j2;have l5:=Kh f4;clear j2 f4 h3 b0;go_wp2;refine bodyPost_ret (v:=.tuple #[.slice SL q SC,.int .i64 0]) (by simp[results,Tryz.results11,go_sem]) rfl ?_;rw[l9.out.1,l9.out.2,<-o7.out];exact⟨SL,SC,sv,by rw[<-l5.out],by rw[<-l5.out];exact RowT.of_owns h0.out.own,h0.out.rows,hg⟩
theorem kT (kind letters k m:Int)(w:World):Calls Tryz.prog 11 #[.int .i64 kind,.int .i64 letters,.int .i64 k,.int .i64 m] w (sW w (famE kind letters k m) (famL kind letters k m)):=by
 cases ho:tZ kind letters k m with
 | false =>
  have e1:famE kind letters k m=1:=by rw[famE,if_pos ho]
  have e2:famL kind letters k m=[]:=by rw[famL,e1];rfl
  rw[e1,e2];exact qUU _ _ _ _ _ ho
 | true =>
  have h0:=ho;simp only[tZ,decide_eq_true_eq]at ho;obtain⟨h6,h5,h3,h2,hk,h4,hm⟩:=ho;have h1:0<=m/\m<=4:=by split at hm<;>omega
  have h7:0<=k:=by split at hk<;>omega
  obtain⟨L,rfl⟩:∃L:Nat,letters=(L:Int):=⟨letters.toNat,by omega⟩;obtain⟨K,rfl⟩:∃K:Nat,k=(K:Int):=⟨k.toNat,by omega⟩;obtain⟨M,rfl⟩:∃M:Nat,m=(M:Int):=⟨m.toNat,by omega⟩;exact qGX kind L K M w h0
open Go.Maps
def fO (l:List (List (List Int))):Bool:=decide (l.length<=300) && l.all fun p=>decide ((p.map List.length).sum<=8/\p.length<=8)
theorem qZD {p:List (List Int)}:∀u∈p,u.length<=(p.map List.length).sum:=by
 induction p with
 | nil=>intro u hu;simp at hu
 | cons a p ih =>
  intro u hu;rw[List.map_cons,List.sum_cons];rcases List.mem_cons.1 hu with rfl|hu
  ·omega
  have:=ih u hu;omega
def FamD (w:World)(v:Value)(L:List (List (List Int))):Prop:=fO L=true/\∃svs,RowT w.heap.size 65 w v svs/\wO w.heap.size 9 strs w svs L/\∃sa sc,v=.slice sa L.length sc
theorem FamD.kept {w w':World}{v:Value}{L:List (List (List Int))}{row:Option Nat}(h:FamD w v L)(hg:w.grownBy w' row)(hr:∀k,row=some k->yC w 65 k/\yC w 9 k):FamD w' v L:=by
 obtain⟨h1,svs,h2,h3,h4⟩:=h;exact⟨h1,svs,(h2.kept hg (fun k e=>.inr (hr k e).1)).mono hg.size,(h3.kept hg (fun k e=>.inr (hr k e).2)).mono hg.size,h4⟩
theorem FamD.pats {w:World}{v:Value}{L:List (List (List Int))}(h:FamD w v L):vE w.heap.size w v (famB L):=by
 obtain⟨h1,svs,h2,h3,h4⟩:=h;refine kV h2 h3 (fun p hp u hu=>?_);simp only[fO,Bool.and_eq_true,decide_eq_true_eq,List.all_eq_true]at h1;have:=(h1.2 p hp).1;have:=qZD u hu;omega
theorem qNN {p:List (List Int)}:rM (p.map strOfNums)=(p.map List.length).sum:=by
 unfold rM
 induction p with
 | nil=>rfl
 | cons a p ih =>
  rw[List.map_cons,List.map_cons,List.sum_cons];simp only[List.map_cons,List.sum_cons,List.foldl_cons]at ih⊢
  first|(rw[<-ih,strOfNums_size])|(simp[strOfNums_size,ih])
theorem rH {L:List (List (List Int))}(h:fO L=true):(famB L).length<=300/\∀p∈famB L,rM p<=8:=by
 simp only[fO,Bool.and_eq_true,decide_eq_true_eq,List.all_eq_true]at h;refine⟨by rw[wJ];exact h.1,fun p hp=>?_⟩;obtain⟨q,hq,rfl⟩:=List.mem_map.1 hp;rw[qNN];exact(h.2 q hq).1
theorem qNE {u:List Nat}{k:Nat}(h1:1<=k)(h6:k<=6)(hu:yO k u)(hl:u.length<=2048):zU (strOfNums (lets u)) (k:Int)=true/\zI (strOfNums (lets u))=u:=by
 have e1:(strOfNums (lets u)).data.toList=(lets u).map (fun n=>UInt8.ofNat n.toNat):=strOfNums_data _
 have hb:∀x∈u,(UInt8.ofNat (97+(x:Int)).toNat).toNat=97+x:=fun x hx=>by
  have:=hu x hx;rw[UInt8.toNat_ofNat'];omega
 constructor
 ·simp only[zU,Bool.and_eq_true,decide_eq_true_eq,List.all_eq_true]
  refine⟨⟨by omega,by omega,by rw[strOfNums_size];simpa [lets] using hl⟩,fun c hc=>?_⟩;rw[e1]at hc;simp only[lets,List.map_map,List.mem_map]at hc;obtain⟨x,hx,rfl⟩:=hc;have h3:=hb x hx;have:=hu x hx;unfold pK;rw[decide_eq_true_eq];simp only[Function.comp];omega
 rw[qBT,e1];simp only[lets,List.map_map];refine(List.map_congr_left fun x hx=>?_).trans (List.map_id u);have:=hb x hx;simp only[Function.comp,letU,id];omega
end Go.Proofs.YtcoimliafiammaaGreat
namespace Go.Proofs.YtcoimliafiammaaGreat
open Go.RowKit
theorem qAH:∀kind∈[1,2,3,4,5,6,7],∀letters∈[1,2,3,4,5,6],∀p∈ordL kind 2,fO (famL kind letters p.1 p.2)=true:=by decide +kernel
def qOJ (d:DfaV)(ps:List (List ByteArray))(E:Int):Prop:=∃w' v u1 u2,OfOut w' d ps v u1 u2 E
def uY (d:DfaV)(ps:List (List ByteArray))(E:Int):Prop:=∃n,qLM d ps n E
inductive LeastR (R:List (List ByteArray)->Int->Prop)(kind letters:Int):List (Int×Int)->Int->Int->Int->Prop
 | nil:LeastR R kind letters [] 0 0 9
 | fam {p:Int×Int} {r:List (Int×Int)} (h:famE kind letters p.1 p.2≠0):LeastR R kind letters (p::r) 0 0 (famE kind letters p.1 p.2)
 | ok {p:Int×Int} {r:List (Int×Int)} (h:famE kind letters p.1 p.2=0) (hR:R (famB (famL kind letters p.1 p.2)) 0):LeastR R kind letters (p::r) p.1 p.2 0
 | bad {p:Int×Int} {r:List (Int×Int)} {E:Int} (h:famE kind letters p.1 p.2=0) (hR:R (famB (famL kind letters p.1 p.2)) E) (h0:E≠0) (h2:E≠20):LeastR R kind letters (p::r) 0 0 E
 | next {p:Int×Int} {r:List (Int×Int)} {k m E:Int} (h:famE kind letters p.1 p.2=0) (hR:R (famB (famL kind letters p.1 p.2)) 20) (hr:LeastR R kind letters r k m E):LeastR R kind letters (p::r) k m E
theorem qNF {R S:List (List ByteArray)->Int->Prop}{kind letters:Int}(a9:∀ps E F,R ps E->S ps F->E=F){l:List (Int×Int)}{k m E:Int}(h:LeastR R kind letters l k m E):∀ {k' m' E':Int},LeastR S kind letters l k' m' E'->k=k'/\m=m'/\E=E':=by
 induction h with
 | nil=>intro k' m' E' h';cases h';exact⟨rfl,rfl,rfl⟩
 | fam h =>
  intro k' m' E' h';cases h' with
  | fam _=>exact⟨rfl,rfl,rfl⟩
  | ok h2 _=>exact absurd h2 h
  | bad h2 _ _ _=>exact absurd h2 h
  | next h2 _ _=>exact absurd h2 h
 | ok h hR =>
  intro k' m' E' h';cases h' with
  | fam h2=>exact absurd h h2
  | ok _ _=>exact⟨rfl,rfl,rfl⟩
  | bad _ hS h0 _=>exact absurd (a9 _ _ _ hR hS).symm h0
  | next _ hS _=>have:=a9 _ _ _ hR hS;omega
 | bad h hR h0 h2 =>
  intro k' m' E' h';cases h' with
  | fam h3=>exact absurd h h3
  | ok _ hS=>exact absurd (a9 _ _ _ hR hS) h0
  | bad _ hS _ _=>exact⟨rfl,rfl,a9 _ _ _ hR hS⟩
  | next _ hS _=>exact absurd (a9 _ _ _ hR hS) h2
 | next h hR hr ih =>
  intro k' m' E' h';cases h' with
  | fam h3=>exact absurd h h3
  | ok _ hS=>have:=a9 _ _ _ hR hS;omega
  | bad _ hS _ h2=>exact absurd (a9 _ _ _ hR hS).symm h2
  | next _ _ hr'=>exact ih hr'
def eD (R:List (List ByteArray)->Int->Prop)(d:DfaV)(kind most k m E:Int):Prop :=
 (xK d≠0/\k=0/\m=0/\E=xK d)\/(xK d=0/\(kind<1\/7<kind\/most<0\/8<most)/\k=0/\m=0/\E=1) \/
  (xK d=0/\¬(kind<1\/7<kind\/most<0\/8<most)/\LeastR R kind d.letters (ordL kind most.toNat) k m E)
theorem qBU {d:DfaV}{kind most k m E k' m' E':Int}(h:eD (qOJ d) d kind most k m E)(h':eD (uY d) d kind most k' m' E'):k=k'/\m=m'/\E=E':=by
 rcases h with ⟨a1,a2,a3,a4⟩|⟨a1,a2,a3,a4,a5⟩|⟨a1,a2,a3⟩
 ·rcases h' with ⟨b1,b2,b3,b4⟩|⟨b1,_⟩|⟨b1,_⟩
  ·exact⟨a2.trans b2.symm,a3.trans b3.symm,a4.trans b4.symm⟩
  ·exact absurd b1 a1
  exact absurd b1 a1
 ·rcases h' with ⟨b1,_⟩|⟨b1,b2,b3,b4,b5⟩|⟨b1,b2,_⟩
  ·exact absurd a1 b1
  ·exact⟨a3.trans b3.symm,a4.trans b4.symm,a5.trans b5.symm⟩
  exact absurd a2 b2
 rcases h' with ⟨b1,_⟩|⟨b1,b2,_⟩|⟨b1,b2,b3⟩
 ·exact absurd a1 b1
 ·exact absurd b2 a2
 exact qNF (fun ps E F ⟨w',v,u1,u2,hE⟩ ⟨n,hF⟩=>xBL hE hF) a3 b3
theorem qEH {kind:Int}{mo:Nat}(h:mo<=2){p:Int×Int}(hp:p∈ordL kind mo):p∈ordL kind 2:=by
 unfold ordL at hp⊢
 split at hp
 ·rename_i h7
  rw[if_pos h7];unfold ordC at hp⊢;obtain⟨i,hi,hm⟩:=List.mem_flatMap.1 hp;exact List.mem_flatMap.2 ⟨i,List.mem_range.2 (by have:=List.mem_range.1 hi;omega),hm⟩
 rename_i h7
 rw[if_neg h7];unfold ordO at hp⊢;obtain⟨i,hi,hm⟩:=List.mem_map.1 hp;exact List.mem_map.2 ⟨i,List.mem_range.2 (by have:=List.mem_range.1 hi;omega),hm⟩
end Go.Proofs.YtcoimliafiammaaGreat
