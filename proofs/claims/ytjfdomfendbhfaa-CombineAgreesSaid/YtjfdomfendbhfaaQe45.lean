/- Part 45 of the proof: RSort, RFamB, RFamO. -/
import Derived.Test.YtjfdomfendbhfaaQe44
import Derived.Lib.OthersKept
set_option linter.unusedVariables false
set_option linter.unusedSimpArgs false
namespace Go.Proofs.Ytjfdomfendbhfaa
open Go.RowKit
theorem lW {w:World} {base e g n c:Nat} {xs:List Value} (h:w.ownsRow base e 1 (.slice (some ⟨g,0,none⟩) n c) n xs) (i:Nat) (u:Value):(w.setCell ⟨g,i,none⟩ u).ownsRow base e 1 (.slice (some ⟨g,0,none⟩) n c) n (xs.set i u):=by
 obtain⟨h1,h2⟩:=h
 refine⟨by simpa using h1,?_⟩
 rcases h2 with ⟨e1,_⟩|⟨g',cap,cur,e1,hb,hg,hnc,hcm,hcs,htake⟩
 ·simp at e1
 ·simp only[Value.slice.injEq,Option.some.injEq,Addr.mk.injEq,and_true]at e1
  obtain⟨rfl,_,rfl⟩:=e1
  refine .inr ⟨g,c,cur.setIfInBounds i u,rfl,hb,heap_setCell_same w g i _ _ u hg,hnc,hcm,by simpa using hcs,?_⟩
  rw[<- htake,Array.toList_setIfInBounds,List.take_set]
theorem xS.swap {α:Type} {B:Nat} {e:TypeId} {f:α->List Value} {w:World} {svs:List Value} {ps:List α} (h:xS B e f w svs ps) {i:Nat} {x y:Value} {p q:α} (hx:svs[i]?=some x) (hy:svs[i+1]?=some y) (hp:ps[i]?=some p) (hq:ps[i+1]?=some q) :
  xS B e f w ((svs.set i y).set (i+1) x) ((ps.set i q).set (i+1) p):=by
 obtain⟨a1,rfl⟩:=List.getElem?_eq_some_iff.1 hx
 obtain⟨a2,rfl⟩:=List.getElem?_eq_some_iff.1 hy
 obtain⟨b1,rfl⟩:=List.getElem?_eq_some_iff.1 hp
 obtain⟨b2,rfl⟩:=List.getElem?_eq_some_iff.1 hq
 refine⟨by simpa using h.1,fun k h1 h2=>?_⟩
 rw[List.getElem_set,List.getElem_set,List.getElem_set,List.getElem_set]
 by_cases e1:i+1=k
 ·rw[if_pos e1,if_pos e1];exact h.2 i a1 b1
 ·rw[if_neg e1,if_neg e1]
  by_cases e2:i=k
  ·rw[if_pos e2,if_pos e2];exact h.2 (i+1) a2 b2
  ·rw[if_neg e2,if_neg e2];exact h.2 k (by simpa using h1) (by simpa using h2)
theorem LUp.swap {e base g n c i:Nat} {w:World} {svs:List Value} {ps:List (List (List Int))} (h:LUp e base w (.slice (some ⟨g,0,none⟩) n c) n svs ps) {x y:Value} {p q:List (List Int)} (hx:svs[i]?=some x) (hy:svs[i+1]?=some y) (hp:ps[i]?=some p) (hq:ps[i+1]?=some q)
  {W:World} (hW:W=(w.setCell ⟨g,i+1,none⟩ x).setCell ⟨g,i,none⟩ y\/W=(w.setCell ⟨g,i,none⟩ y).setCell ⟨g,i+1,none⟩ x) :
  LUp e base W (.slice (some ⟨g,0,none⟩) n c) n ((svs.set i y).set (i+1) x) ((ps.set i q).set (i+1) p)/\w.grownBy W (some g):=by
 have hg:w.grownBy W (some g):=by
  rcases hW with rfl|rfl
  ·exact zD (zC w ⟨g,i+1,none⟩ x) (zC _ ⟨g,i,none⟩ y)
  ·exact zD (zC w ⟨g,i,none⟩ y) (zC _ ⟨g,i+1,none⟩ x)
 refine⟨⟨?_,?_,h.ne⟩,hg⟩
 ·rcases hW with rfl|rfl
  ·have h2:=lW (lW h.own (i+1) x) i y
   rwa [List.set_comm _ _ (by omega)]at h2
  ·exact lW (lW h.own i y) (i+1) x
 ·have h0:=yI h.own h.ne
  exact(((h.rows.swap hx hy hp hq).kept hg (fun k e=>.inr (h0 k (by rw[<- e];rfl)))).mono hg.size)
theorem LUp.drewN {e base n:Nat} {w:World} {v:Value} {svs:List Value} {ps:List (List (List Int))} (h:LUp e base w v n svs ps):LUp e base w.drew v n svs ps:=h.kept (zL w none) (by simp)
theorem LUp.at {base g n c i:Nat} {w:World} {svs:List Value} {ps:List (List (List Int))} (h:LUp 28 base w (.slice (some ⟨g,0,none⟩) n c) n svs ps) (hi:i < n) :
  ∃ (a:Option Addr) (d:Nat) (p:List (List Int)),svs[i]?=some (.slice a p.length d)/\ps[i]?=some p/\w.cell? ⟨g,i,none⟩=some (.slice a p.length d)/\RowT w.heap.size 9 w (.slice a p.length d) (strs p):=by
 have hl:=h.own.1
 have h0:=h.rows.1
 have hr:=h.rows.2 i (by omega) (by omega)
 obtain⟨a,d,e⟩:=hr.row.shape
 rw[wE]at e
 refine⟨a,d,ps[i]'(by omega),by rw[<- e];exact List.getElem?_eq_getElem _,List.getElem?_eq_getElem _,?_,by rw[<- e];exact hr⟩
 have:=(RowT.of_owns h.own).row
 rcases this with ⟨a0,c0,e0,hx⟩|⟨b',off',cap',hv,_,_,_,hra⟩
 ·simp only[Value.slice.injEq]at e0;omega
 ·simp only[Value.slice.injEq,Option.some.injEq,Addr.mk.injEq,and_true]at hv
  obtain⟨⟨rfl,rfl⟩,_⟩:=hv
  have hc:=hra.2 i (by omega)
  rw[Nat.zero_add]at hc
  rw[hc,<- e]
def InsI (L ps:List (List (List Int))) (i j:Nat):Prop:=∃ A x B C,ps=A ++ x :: (B ++ C)/\A.length=j/\A.length+B.length=i/\tB (A ++ B)/\(∀ b∈B,xR x b=true)/\ps.Perm L
theorem dV {L ps:List (List (List Int))} {i:Nat} (hs:tB (ps.take i)) (hi:i < ps.length) (hp:ps.Perm L):InsI L ps i i :=
 ⟨ps.take i,ps[i],[],ps.drop (i+1),by rw[List.nil_append,<- List.drop_eq_getElem_cons hi,List.take_append_drop],by simp;omega,by simp;omega,by simpa using hs,by simp,hp⟩
theorem eS {α:Type} (a x:α) (R:List α):∀ A:List α,((A ++ a :: x :: R).set A.length x).set (A.length+1) a=A ++ x :: a :: R
 | []=>rfl
 | b :: A=>by have:=eS a x R A;simp[this]
theorem iJ {α:Type} {A:List α} {j:Nat} (h:A.length=j+1):∃ A' a,A=A' ++ [a]/\A'.length=j:=by
 have h0:A≠[]:=by intro e;rw[e]at h;simp at h
 exact⟨A.dropLast,A.getLast h0,(List.dropLast_concat_getLast h0).symm,by simp[h]⟩
theorem aO {L ps:List (List (List Int))} {i j:Nat} {p q:List (List Int)} (h:InsI L ps i (j+1)) (hp:ps[j]?=some p) (hq:ps[j+1]?=some q) (hl:xR q p=true):InsI L ((ps.set j q).set (j+1) p) i j:=by
 obtain⟨A,x,B,C,rfl,hA,hi,hs,hB,h0⟩:=h
 obtain⟨A',a,rfl,rfl⟩:=iJ hA
 have e0:A' ++ [a] ++ x :: (B ++ C)=A' ++ a :: x :: (B ++ C):=by simp
 rw[e0]at hp hq h0 ⊢
 have e1:a=p:=by rw[List.getElem?_append_right (Nat.le_refl _)]at hp;simpa using hp
 have e2:x=q:=by rw[List.getElem?_append_right (by omega)]at hq;simpa using hq
 subst e1;subst e2
 rw[eS]
 refine⟨A',x,a :: B,C,by simp,rfl,by simp at hi ⊢;omega,by simpa using hs,?_,(List.Perm.append_left A' (List.Perm.swap _ _ _)).trans h0⟩
 intro b hb
 rcases List.mem_cons.1 hb with rfl|hb
 ·exact hl
 ·exact hB b hb
theorem kC {L ps:List (List (List Int))} {i j:Nat} (h:InsI L ps i j) (hn:L.Nodup) (hd:j=0\/∃ k p q,j=k+1/\ps[k]?=some p/\ps[k+1]?=some q/\xR q p=false):tB (ps.take (i+1))/\ps.Perm L:=by
 obtain⟨A,x,B,C,rfl,hA,hi,hs,hB,h0⟩:=h
 refine⟨?_,h0⟩
 have et:(A ++ x :: (B ++ C)).take (i+1)=A ++ x :: B:=by
  have e3:A ++ x :: (B ++ C)=(A ++ x :: B) ++ C:=by simp
  rw[e3,List.take_left' (by simp;omega)]
 rw[et]
 have h1:=List.pairwise_append.1 hs
 have h2:=h0.nodup_iff.2 hn
 have h8:∀ a∈A,xR a x=true:=by
  rcases hd with rfl|⟨k,p,q,rfl,hp,hq,hl⟩
  ·intro a ha;rw[List.eq_nil_of_length_eq_zero hA]at ha;simp at ha
  ·obtain⟨A',a,rfl,rfl⟩:=iJ hA
   have e0:A' ++ [a] ++ x :: (B ++ C)=A' ++ a :: x :: (B ++ C):=by simp
   rw[e0]at hp hq h2
   have e1:a=p:=by rw[List.getElem?_append_right (Nat.le_refl _)]at hp;simpa using hp
   have e2:x=q:=by rw[List.getElem?_append_right (by omega)]at hq;simpa using hq
   subst e1;subst e2
   have h7:a≠x:=by
    have h3:=(List.pairwise_append.1 h2).2.1
    have h4:=(List.pairwise_cons.1 h3).1 x (by simp)
    exact h4
   have h6:xR a x=true:=by
    rcases lessP_total h7 with h|h
    ·exact h
    ·rw[hl]at h;cases h
   intro b hb
   rcases List.mem_append.1 hb with hb|hb
   ·have h5:=(List.pairwise_append.1 h1.1).2.2 b hb a (by simp)
    exact jB h5 h6
   ·have:b=a:=by simpa using hb
    rw[this];exact h6
 refine List.pairwise_append.2 ⟨h1.1,List.pairwise_cons.2 ⟨hB,h1.2.1⟩,fun a ha b hb=>?_⟩
 rcases List.mem_cons.1 hb with rfl|hb
 ·exact h8 a ha
 ·exact h1.2.2 a ha b hb
theorem sorted_is {l m:List (List (List Int))} (h1:tB l) (h2:tB m) (h:l.Perm m):l=m:=dR h1 h2 fun _=>h.mem_iff
theorem nE (L i:Nat):(upTo L (i+2)).length=(upTo L (i+1)).length+L ^ i * L:=by
 rw[xH L (i+1),List.length_append,vD,Nat.pow_succ]
theorem qBH {kind:Int} {L K:Nat} (M:Nat):(yP L K).length<=(famP kind L K M).length+1:=by
 unfold famP
 simp only
 split
 ·rw[List.length_map];omega
 split
 ·simp only[List.length_append,List.length_map,List.length_drop];omega
 split
 ·simp only[List.length_append,List.length_map,List.length_drop];omega
 split
 ·simp only[List.length_append,List.length_map,List.length_drop];omega
 split
 ·simp only[List.length_append,List.length_map,List.length_drop];omega
 split
 ·simp only[List.length_append,List.length_map,List.length_drop];omega
 ·rw[eE,List.length_append,List.length_map];omega
theorem nT {kind:Int} {L K M:Nat} (ho:oL kind L K M=true) (h:(kind=6/\8 < (K:Int)+2)\/300 < qAN kind L K M):famE kind L K M=3/\famL kind L K M=[]:=by
 have e1:famE kind L K M=3:=by rw[famE,if_neg (by rw[ho];simp),if_pos (h.imp id (fun hs=>by simpa using hs))]
 exact⟨e1,by rw[famL,e1];rfl⟩
theorem gC {kind:Int} {L K M:Nat} (ho:oL kind L K M=true) (h6:¬ (kind=6/\8 < (K:Int)+2)) (h:¬ 300 < qAN kind L K M):famE kind L K M=0/\famL kind L K M=famP kind L K M:=by
 have e1:famE kind L K M=0:=by
  rw[famE,if_neg (by rw[ho];simp),if_neg]
  rintro (h1|h1)
  ·exact h6 h1
  ·exact h (by simpa using h1)
 exact⟨e1,by rw[famL,e1];simp⟩
theorem dY {α:Type} {c:Prop} [Decidable c] (x:α):(if c then [x] else []).length<=1:=by split <;> simp
theorem genU_len (kind:Int) (k:Nat) (u:List Int):(genU kind k u).length<=5:=by
 unfold genU
 rw[List.length_append]
 have h1:=dY (c:=kind=1\/kind=7\/(kind≠6/\u.length < k)) (oneB u)
 by_cases hu:u=[]
 ·rw[if_pos hu,List.length_nil];omega
 ·rw[if_neg hu]
  rw[List.length_append,List.length_append,List.length_append]
  have h2:=dY (c:=kind=2\/kind=4\/kind=5) (preB u)
  have h3:=dY (c:=kind=3\/kind=4\/kind=5) (sufB u)
  have h4:=dY (c:=kind=5) (facB u)
  have h5:=dY (c:=kind=6) (tC u)
  omega
theorem fS (kind:Int) (k:Nat):∀ W:List (List Int),(genL kind k W).length<=5 * W.length
 | []=>by simp[genL]
 | u :: W=>by
  have:=fS kind k W
  have:=genU_len kind k u
  simp only[genL,List.flatMap_cons,List.length_append,List.length_cons]at *
  omega
theorem grown_iterAt (w:World) (k:Nat) (s:ByteArray) (pos:Nat):w.grownBy (w.iterAt k s pos) (some k) :=
 ⟨rfl,rfl,rfl,by rw[Lib.iterAt_size];exact Nat.le_refl _,fun i _ hne=>Lib.iterAt_other w k i s pos (fun e=>hne (by rw[e]))⟩
theorem xS.one {w:World} {B:Nat} {e:TypeId} {svs:List Value} {ps:List (List (List Int))} (h:xS B e strs w svs ps):∀ u∈svs,u.oneCell'=true:=by
 intro u hu
 obtain⟨i,hi,rfl⟩:=List.mem_iff_getElem.1 hu
 have hl:=h.1
 obtain⟨a,c,e⟩:=(h.2 i hi (by omega)).row.shape
 rw[e];rfl
theorem kG {L K r:Nat} (h:r < (yP L K).length):((yP L K)[r]=[] ↔ r=0):=by
 obtain⟨t,e,ht⟩:=kH L K
 have e':yP L K=[] :: t:=e
 constructor
 ·intro h0
  rcases r with _|r
  ·rfl
  ·exfalso
   simp only[e',List.getElem_cons_succ]at h0
   exact ht _ (List.getElem_mem _) h0
 ·rintro rfl
  simp only[e',List.getElem_cons_zero]
theorem kF {L K:Nat} (h6:K<=8) {u:List Int} (hu:u∈yP L K):u.length<=8:=upTo_len8 (n:=K+1) (by omega) hu
theorem okB {letters:Nat} (h:letters<=6) {n:Nat} {u:List Int} (hu:u∈upTo letters n):okW u:=by
 simp only[upTo,List.mem_flatMap,List.mem_range]at hu
 obtain⟨m,_,hu⟩:=hu
 intro x hx
 have:=(tW hu).2 x hx
 unfold qQ at *
 omega
def okP (p:List (List Int)):Prop:=p.length<=100/\∀ u∈p,okW u/\u.length<=8
theorem okW_nil:okW []:=fun x hx=>by simp at hx
theorem genU_cases {kind:Int} {k:Nat} {u:List Int} {p:List (List Int)} (hp:p∈genU kind k u):p=oneB u\/p=preB u\/p=sufB u\/p=facB u\/p=tC u:=by
 unfold genU at hp
 rw[List.mem_append]at hp
 rcases hp with hp|hp
 ·split at hp
  ·exact .inl (by simpa using hp)
  ·simp at hp
 ·by_cases hu:u=[]
  ·rw[if_pos hu]at hp;simp at hp
  ·rw[if_neg hu,List.mem_append,List.mem_append,List.mem_append]at hp
   rcases hp with hp|hp|hp|hp
   ·split at hp
    ·exact .inr (.inl (by simpa using hp))
    ·simp at hp
   ·split at hp
    ·exact .inr (.inr (.inl (by simpa using hp)))
    ·simp at hp
   ·split at hp
    ·exact .inr (.inr (.inr (.inl (by simpa using hp))))
    ·simp at hp
   ·split at hp
    ·exact .inr (.inr (.inr (.inr (by simpa using hp))))
    ·simp at hp
theorem genU_ok {kind:Int} {k:Nat} {u:List Int} (h:okW u) (h8:u.length<=8) {p:List (List Int)} (hp:p∈genU kind k u):okP p:=by
 have hn:okW []/\([]:List Int).length<=8:=⟨okW_nil,by simp⟩
 rcases genU_cases hp with rfl|rfl|rfl|rfl|rfl
 ·refine⟨by simp[oneB],fun x hx=>?_⟩
  simp only[oneB,List.mem_singleton]at hx
  subst hx;exact⟨h,h8⟩
 ·refine⟨by simp[preB],fun x hx=>?_⟩
  simp only[preB,List.mem_cons,List.not_mem_nil,or_false]at hx
  rcases hx with rfl|rfl
  ·exact⟨h,h8⟩
  ·exact hn
 ·refine⟨by simp[sufB],fun x hx=>?_⟩
  simp only[sufB,List.mem_cons,List.not_mem_nil,or_false]at hx
  rcases hx with rfl|rfl
  ·exact hn
  ·exact⟨h,h8⟩
 ·refine⟨by simp[facB],fun x hx=>?_⟩
  simp only[facB,List.mem_cons,List.not_mem_nil,or_false]at hx
  rcases hx with rfl|rfl|rfl
  ·exact hn
  ·exact⟨h,h8⟩
  ·exact hn
 ·refine⟨by simp[tC];omega,fun x hx=>?_⟩
  simp only[tC,List.mem_append,List.mem_singleton,List.mem_map]at hx
  rcases hx with (rfl|⟨c,hc,rfl⟩)|rfl
  ·exact hn
  ·refine⟨fun y hy=>?_,by simp⟩
   simp only[List.mem_singleton]at hy
   subst hy;exact h y hc
  ·exact hn
theorem qBQ (ws:List (List Int)):∀ (i:Nat) {b:List (List Int)},b∈chB ws i->∀ u∈b,u∈ws
 | 0,b,h=>by
  obtain⟨v,hv,rfl⟩:=List.mem_map.1 h
  intro u hu
  simp only[oneB,List.mem_singleton]at hu
  subst hu;exact hv
 | i+1,b,h=>by
  obtain⟨c,hc,hb⟩:=List.mem_flatMap.1 h
  obtain⟨v,hv,rfl⟩:=List.mem_map.1 hb
  intro u hu
  rcases List.mem_append.1 hu with hu|hu
  ·exact qBQ ws i hc u hu
  ·simp only[List.mem_singleton]at hu
   subst hu;exact List.mem_of_mem_drop hv
theorem eI (ws:List (List Int)):∀ (i:Nat) {b:List (List Int)},b∈allC ws i->b.length<=i+1/\∀ u∈b,u∈ws
 | 0,b,h=>by simp[allC]at h
 | i+1,b,h=>by
  rcases List.mem_append.1 h with h|h
  ·exact⟨by have:=(eI ws i h).1;omega,(eI ws i h).2⟩
  ·obtain⟨c,hc,hb⟩:=List.mem_flatMap.1 h
   obtain⟨v,hv,rfl⟩:=List.mem_map.1 hb
   refine⟨by rw[List.length_append,jR i hc];simp,fun u hu=>?_⟩
   rcases List.mem_append.1 hu with hu|hu
   ·exact qBQ ws i hc u hu
   ·simp only[List.mem_singleton]at hu
    subst hu;exact hv
theorem qAQ {kind:Int} {L K M:Nat} (hl:L<=6) (hk:K<=8) (hm:M<=4) {p:List (List Int)} (hp:p∈refL kind L K M):okP p:=by
 have hw:∀ u∈yP L K,okW u/\u.length<=8:=fun u hu=>⟨okB hl (n:=K+1) hu,kF hk hu⟩
 rcases List.mem_append.1 hp with hp|hp
 ·obtain⟨u,hu,hp⟩:=List.mem_flatMap.1 hp
  exact genU_ok (hw u hu).1 (hw u hu).2 hp
 ·split at hp
  ·have h:=eI _ _ (List.mem_of_mem_take hp)
   exact⟨by omega,fun u hu=>hw u (h.2 u hu)⟩
  ·simp at hp
theorem iN {kind:Int} {L K M:Nat} (h1:1<=kind) (h7:kind<=7) (hn:¬ 300 < (refL kind L K M).length) {ps:List (List (List Int))} (hs:tB ps) (hp:ps.Perm (refL kind L K M)):ps=famP kind L K M:=by
 refine sorted_is hs (jF _ _ _ _) (hp.trans (gZ h1 h7 M ?_))
 by_cases hk:kind=7
 ·refine .inl ?_
  rw[refL,if_pos hk,List.length_append,List.length_take]at hn
  omega
 ·exact .inr hk
theorem dB {kind:Int} {L K M:Nat} (h1:1<=kind) (h7:kind<=7) (hn:¬ 300 < (refL kind L K M).length):(refL kind L K M).Nodup:=by
 have hp:(refL kind L K M).Perm (famP kind L K M):=by
  refine gZ h1 h7 M ?_
  by_cases hk:kind=7
  ·refine .inl ?_
   rw[refL,if_pos hk,List.length_append,List.length_take]at hn
   omega
  ·exact .inr hk
 exact hp.nodup_iff.2 (sortP_nodup (jF _ _ _ _))
theorem str_byte (u:List Int) (p:Nat) (h:p < u.length) (h':p < (strOfNums u).size):(strOfNums u)[p]'h'=UInt8.ofNat (u[p].toNat):=by
 have e:(strOfNums u)[p]'h'=(strOfNums u).data.toList[p]'(by rw[strOfNums_data];simpa using h):=by rw[Array.getElem_toList];rfl
 rw[e]
 simp only[strOfNums_data,List.getElem_map]
theorem str_ascii {u:List Int} (hu:okW u) {p:Nat} (h:p < u.length) (h':p < (strOfNums u).size):((strOfNums u)[p]'h').toNat < 128:=by
 obtain⟨a,b⟩:=hu _ (List.getElem_mem h)
 rw[str_byte u p h h',UInt8.toNat_ofNat'];omega
theorem lB {w:World} {B e size n:Nat} {v:Value} {xs:List Value} {k:Nat} {s:ByteArray} {pos:Nat} (h:w.ownsRow B e size v n xs) (hk:w.heap[k]?=some (.stringIter s pos)):some k≠v.ownBlock:=by
 rcases h.2 with ⟨rfl,_⟩|⟨g,cap,cur,rfl,hb,hg,_⟩
 ·simp[Value.ownBlock]
 ·intro e
  simp only[Value.ownBlock,Option.some.injEq]at e
  subst e
  rw[hk]at hg
  cases hg
end Go.Proofs.Ytjfdomfendbhfaa
