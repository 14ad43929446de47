/- Part 8 of the proof: Assoc, Ref40a. -/
import Derived.Test.YtdjhoadoiknaoaaDoorZC7
set_option linter.unusedVariables false
set_option linter.unusedSimpArgs false
namespace Go.Proofs.YtdjhoadoiknaoaaDoor
open Go.RowKit
def assAt (t:List (List Int)) (x y z:Nat):Prop:=entN t (entN t x y) z=entN t x (entN t y z)
theorem oO {t:List (List Int)} (h:∀ x,x < t.length→∀ y,y < t.length→∀ z,z < t.length→assAt t x y z):Assoc t:=fun g hg x y hx hy=>h x hx g hg y hy
theorem not_assoc {t:List (List Int)} {x y z:Nat} (hx:x < t.length) (hy:y < t.length) (hz:z < t.length) (h:¬ assAt t x y z):¬ Assoc t:=fun ha=>h (ha y hy x z hx hz)
def oS (w:World) (t:List (List Int)) (e:Ending) (w':World):Prop:=∃ x y z:Int,e=.returned (.tuple #[.int .i64 x,.int .i64 y,.int .i64 z,.int .i64 (xK t)])∧∃ m,w'=w.drewN m
def DoneX (t:List (List Int)) (k:Nat):Prop:=∀ x,x < k→∀ y,y < t.length→∀ z,z < t.length→assAt t x y z
def DoneY (t:List (List Int)) (x k:Nat):Prop:=∀ y,y < k→∀ z,z < t.length→assAt t x y z
def DoneZ (t:List (List Int)) (x y k:Nat):Prop:=∀ z,z < k→assAt t x y z
theorem oS.mk {w:World} {t:List (List Int)} {x y z c:Int} {m:Nat} (h:c=xK t):oS w t (.returned (.tuple #[.int .i64 x,.int .i64 y,.int .i64 z,.int .i64 c])) (w.drewN m):=⟨x,y,z,by rw [h],m,rfl⟩
theorem oS.mk0 {w:World} {t:List (List Int)} {x y z c:Int} (h:c=xK t):oS w t (.returned (.tuple #[.int .i64 x,.int .i64 y,.int .i64 z,.int .i64 c])) w:=⟨x,y,z,by rw [h],0,rfl⟩
set_option maxRecDepth 100000 in
set_option maxHeartbeats 800000 in
theorem associative_any (B:Nat) (w:World) (v:Value) (t:List (List Int)) (h:Mat B w v t) :
  Calls Tryd.prog 113 #[v] w (oS w t):=by
 by_cases hE:uF t=0
 ·have hs:=jB hE
  obtain ⟨b,off,cap,RB,RO,RC,rfl,hc1,hc2,hq⟩:=h.sq hs
  have hmx:cap≤9223372036854775807:=by unfold maxLen at hc2;omega
  have HE:=Kh hE;have HS:=Kh hs;have HQ:=Kh hq;have H0:=Kh h
  clear hE hs hq h
  go_enter Tryd.func113,Tryd.ntmps113
  go_wp2_with fail
  refine (shape14_any B w _ t H0.out).mono ?_
  rintro e w' ⟨rfl,rfl⟩
  rw [HE.out]
  go_wp2
  go_loopg [17] t.length (fun g i wr=>∃ k m:Nat,g+k=t.length∧i=.int .i64 k∧DoneX t k∧wr=w.drewN m)
  case atStart=>exact ⟨0,0,rfl,rfl,fun x hx=>absurd hx (by omega),rfl⟩
  case round =>
   obtain ⟨x,m,hg,rfl,hok,rfl⟩:=hrel
   have OK:=Kh hok;have HG:=Kh hg;clear hok hg
   by_cases hx:x < t.length
   ·have hx':(x:Int) < t.length:=by omega
    have hxc:=HQ.out.hd x hx
    go_wp2
    go_loopg [22] t.length (fun g i wr=>∃ k m:Nat,g+k=t.length∧i=.int .i64 k∧DoneY t x k∧wr=w.drewN m)
    case atStart=>exact ⟨0,m,rfl,rfl,fun x hx=>absurd hx (by omega),rfl⟩
    case round =>
     obtain ⟨y,m,hg,rfl,hok,rfl⟩:=hrel
     have OKY:=Kh hok;have HGY:=Kh hg;clear hok hg
     by_cases hy:y < t.length
     ·have hy':(y:Int) < t.length:=by omega
      have hyc:=HQ.out.hd y hy
      have hxy:=HQ.out.el x y hx hy
      obtain ⟨p,hp⟩:∃ p,p=entN t x y:=⟨_,rfl⟩
      have hpl:p < t.length:=by rw [hp];exact uD HS.out hx hy
      have hpl':(p:Int) < t.length:=by omega
      have hpc:=HQ.out.hd p hpl
      rw [← hp] at hxy
      have HP:=Kh hp;clear hp
      go_wp2
      go_loopg [27] t.length (fun g i wr=>∃ k m:Nat,g+k=t.length∧i=.int .i64 k∧DoneZ t x y k∧wr=w.drewN m)
      case atStart=>exact ⟨0,m,rfl,rfl,fun x hx=>absurd hx (by omega),rfl⟩
      case round =>
       obtain ⟨z,m,hg,rfl,hok,rfl⟩:=hrel
       have OKZ:=Kh hok;have HGZ:=Kh hg;clear hok hg
       by_cases hz:z < t.length
       ·have hz':(z:Int) < t.length:=by omega
        have hyz:=HQ.out.el y z hy hz
        have hpz:=HQ.out.el p z hpl hz
        obtain ⟨q,hq⟩:∃ q,q=entN t y z:=⟨_,rfl⟩
        have hql:q < t.length:=by rw [hq];exact uD HS.out hy hz
        have hql':(q:Int) < t.length:=by omega
        rw [← hq] at hyz
        have hxq:=HQ.out.el x q hx hql
        obtain ⟨r,hr⟩:∃ r,r=entN t p z:=⟨_,rfl⟩
        obtain ⟨s,hs⟩:∃ s,s=entN t x q:=⟨_,rfl⟩
        rw [← hr] at hpz
        rw [← hs] at hxq
        have hass:assAt t x y z ↔ r=s:=by rw [assAt,← HP.out,← hq,← hr,← hs]
        have HA:=Kh hass
        clear hq hr hs hass
        by_cases hrs:r=s
        ·subst hrs
         have ht:((r:Int) != (r:Int))=false:=by simp
         go_wp2
         go_quiet (fail)
         go_wp2
         go_roundg (t.length - (z+1))
         case measure=>have:=HGZ.out;omega
         case rel =>
          refine ⟨z+1,_,by omega,by go_num,fun z' hz'=>?_,rfl⟩
          rcases Nat.lt_succ_iff_lt_or_eq.1 hz' with hz'|rfl
          ·exact OKZ.out z' hz'
          ·exact HA.out.2 (by simp)
        ·have ht:((r:Int) != (s:Int))=true:=by rw [bne_iff_ne];omega
         have HRS:=Kh hrs;clear hrs
         go_wp2
         go_quiet (fail)
         go_wp2
         refine bodyPost_ret (v:=.tuple #[.int .i64 x,.int .i64 y,.int .i64 z,.int .i64 5]) (by simp [results,Tryd.results113,go_sem]) rfl ?_
         rw [World.drewN_drewN]
         exact oS.mk (mP HE.out (not_assoc hx hy hz (fun h=>HRS.out (HA.out.1 h)))).symm
       ·go_wp2
        go_roundg (t.length - (y+1))
        case measure=>have:=HGY.out;omega
        case rel =>
         refine ⟨y+1,m,by omega,by go_num,fun y' hy'=>?_,rfl⟩
         rcases Nat.lt_succ_iff_lt_or_eq.1 hy' with hy'|rfl
         ·exact OKY.out y' hy'
         ·exact fun z' hz'=>OKZ.out z' (by omega)
     ·go_wp2
      go_roundg (t.length - (x+1))
      case measure=>have:=HG.out;omega
      case rel =>
       refine ⟨x+1,m,by omega,by go_num,fun x' hx'=>?_,rfl⟩
       rcases Nat.lt_succ_iff_lt_or_eq.1 hx' with hx'|rfl
       ·exact OK.out x' hx'
       ·exact fun y' hy'=>OKY.out y' (by omega)
   ·go_wp2
    refine bodyPost_ret (v:=.tuple #[.int .i64 0,.int .i64 0,.int .i64 0,.int .i64 0]) (by simp [results,Tryd.results113,go_sem]) rfl ?_
    exact oS.mk (sO HE.out (oO (fun x' hx'=>OK.out x' (by omega)))).symm
 ·have hb:(uF t != 0)=true:=by rw [bne_iff_ne];exact hE
  have HE:=Kh hE;clear hE
  go_enter Tryd.func113,Tryd.ntmps113
  go_wp2_with fail
  refine (shape14_any B w v t h).mono ?_
  rintro e w' ⟨rfl,rfl⟩
  go_wp2
  refine bodyPost_ret (v:=.tuple #[.int .i64 0,.int .i64 0,.int .i64 0,.int .i64 (uF t)]) (by simp [results,Tryd.results113,go_sem]) rfl ?_
  exact oS.mk0 (pW HE.out).symm
theorem validate14_any (B:Nat) (w:World) (v:Value) (t:List (List Int)) (h:Mat B w v t) :
  Calls Tryd.prog 95 #[v] w fun e w'=>e=.returned (.int .i64 (xK t))∧∃ m,w'=w.drewN m:=by
 go_enter Tryd.func95,Tryd.ntmps95
 go_wp2_with fail
 refine (associative_any B w v t h).mono ?_
 rintro e w' ⟨x,y,z,rfl,m,rfl⟩
 go_wp2
 go_ret
 exact ⟨rfl,m,rfl⟩
def idAt (t:List (List Int)) (e x:Nat):Bool:=entN t e x == x && entN t x e == x
def isId (t:List (List Int)) (e:Nat):Bool:=(List.range t.length).all (idAt t e)
def wK (t:List (List Int)):Int:=match (List.range t.length).find? (isId t) with
 | some e=>e
 | none=>-1
theorem find_range {p:Nat→Bool} {n e:Nat} (he:e < n) (hp:p e=true) (hb:∀ x,x < e→p x=false):(List.range n).find? p=some e:=by
 rw [List.find?_eq_some_iff_getElem]
 refine ⟨hp,e,by simpa using he,by simp,fun j hj=>by simp [hb j hj]⟩
theorem nY {t:List (List Int)} {e:Nat} (he:e < t.length) (hp:isId t e=true) (hb:∀ x,x < e→isId t x=false):wK t=e:=by rw [wK,find_range he hp hb]
theorem identI_none {t:List (List Int)} (hb:∀ x,x < t.length→isId t x=false):wK t = -1:=by
 have:(List.range t.length).find? (isId t)=none:=by
  rw [List.find?_eq_none];intro x hx;rw [hb x (by simpa using hx)];simp
 rw [wK,this]
theorem sM (p:Nat→Bool) (n:Nat):(List.range (n+1)).all p=((List.range n).all p && p n):=by
 rw [List.range_succ,List.all_append];simp
def NoId (t:List (List Int)) (k:Nat):Prop:=∀ x,x < k→isId t x=false
set_option maxRecDepth 100000 in
set_option maxHeartbeats 800000 in
theorem qW (B:Nat) (w:World) (v:Value) (t:List (List Int)) (h:Mat B w v t) (hs:Shape t) :
  Calls Tryd.prog 33 #[v] w fun e w'=>e=.returned (.int .i64 (wK t))∧w=w':=by
 obtain ⟨b,off,cap,RB,RO,RC,rfl,hc1,hc2,hq⟩:=h.sq hs
 have hmx:cap≤9223372036854775807:=by unfold maxLen at hc2;omega
 have HQ:=Kh hq;clear hs hq h
 go_enter Tryd.func33,Tryd.ntmps33
 go_wp2
 go_loopg [8] t.length (fun g i wr=>∃ k:Nat,g+k=t.length∧i=.int .i64 k∧NoId t k∧w=wr)
 case atStart=>exact ⟨0,rfl,rfl,fun x hx=>absurd hx (by omega),rfl⟩
 case round =>
  obtain ⟨x,hg,rfl,hok,rfl⟩:=hrel
  have OK:=Kh hok;have HG:=Kh hg;clear hok hg
  by_cases hx:x < t.length
  ·have hx':(x:Int) < t.length:=by omega
   have hxc:=HQ.out.hd x hx
   go_wp2
   go_loopg [4,13] t.length (fun g s i wr=>∃ (k:Nat) (c:Bool),g+k=t.length∧s=.bool c∧i=.int .i64 k∧Hid (c=(List.range k).all (idAt t x))∧w=wr)
   case atStart=>exact ⟨0,true,rfl,rfl,rfl,Kh rfl,rfl⟩
   case round =>
    obtain ⟨y,c,hg,rfl,rfl,hc,rfl⟩:=hrel
    have HGY:=Kh hg;clear hg
    by_cases hy:y < t.length
    ·have hy':(y:Int) < t.length:=by omega
     have hyc:=HQ.out.hd y hy
     have hxy:=HQ.out.el x y hx hy
     have hyx:=HQ.out.el y x hy hx
     cases c
     ·go_wp2
      go_roundg (t.length - (y+1))
      case measure=>have:=HGY.out;omega
      case rel=>exact ⟨y+1,false,by omega,rfl,by go_num,Kh (by rw [sM,← hc.out];rfl),rfl⟩
     ·obtain ⟨p,hp⟩:∃ p,p=entN t x y:=⟨_,rfl⟩
      obtain ⟨q,hq⟩:∃ q,q=entN t y x:=⟨_,rfl⟩
      rw [← hp] at hxy
      rw [← hq] at hyx
      have HI:Hid (idAt t x y=(p == y && q == y)):=by rw [hp,hq];exact Kh rfl
      clear hp hq
      by_cases h1:p=y
      ·by_cases h2:q=y
       ·have e1:((p:Int) == (y:Int))=true:=by rw [h1];simp
        have e2:((q:Int) == (y:Int))=true:=by rw [h2];simp
        have H1:=Kh h1;have H2:=Kh h2;clear h1 h2
        go_wp2
        go_roundg (t.length - (y+1))
        case measure=>have:=HGY.out;omega
        case rel=>exact ⟨y+1,true,by omega,rfl,by go_num,Kh (by rw [sM,← hc.out,HI.out,H1.out,H2.out];simp),rfl⟩
       ·have e1:((p:Int) == (y:Int))=true:=by rw [h1];simp
        have e2:((q:Int) == (y:Int))=false:=by rw [beq_eq_false_iff_ne];omega
        have H1:=Kh h1;have H2:=Kh h2;clear h1 h2
        go_wp2
        go_roundg (t.length - (y+1))
        case measure=>have:=HGY.out;omega
        case rel=>exact ⟨y+1,false,by omega,rfl,by go_num,Kh (by rw [sM,HI.out];simp [H2.out]),rfl⟩
      ·have e1:((p:Int) == (y:Int))=false:=by rw [beq_eq_false_iff_ne];omega
       have H1:=Kh h1;clear h1
       go_wp2
       go_roundg (t.length - (y+1))
       case measure=>have:=HGY.out;omega
       case rel=>exact ⟨y+1,false,by omega,rfl,by go_num,Kh (by rw [sM,HI.out];simp [H1.out]),rfl⟩
    ·have hI:Hid (c=isId t x):=by
      have:y=t.length:=by have:=HGY.out;omega
      subst this;exact hc
     cases c
     ·go_wp2
      go_roundg (t.length - (x+1))
      case measure=>have:=HG.out;omega
      case rel =>
       refine ⟨x+1,by omega,by go_num,fun x' hx'=>?_,rfl⟩
       rcases Nat.lt_succ_iff_lt_or_eq.1 hx' with hx'|rfl
       ·exact OK.out x' hx'
       ·exact hI.out.symm
     ·go_wp2
      go_ret
      exact ⟨yD (nY hx hI.out.symm OK.out).symm,rfl⟩
  ·go_wp2
   go_ret
   exact ⟨yD (identI_none (fun x' hx'=>OK.out x' (by omega))).symm,rfl⟩
def inB (n:Nat) (l:List Int):Bool:=l.all fun x=>decide (0≤x∧x < n)
theorem rE {n:Nat} {l:List Int}:inB n l=true ↔ ∀ y,y < l.length→0≤l.getD y 0∧l.getD y 0 < n:=by
 simp only [inB,List.all_eq_true,decide_eq_true_eq]
 refine ⟨fun h y hy=>?_,fun h x hx=>?_⟩
 ·have:=h (l[y]) (List.getElem_mem hy)
  simpa [List.getD,List.getElem?_eq_getElem hy] using this
 ·obtain ⟨y,hy,rfl⟩:=List.getElem_of_mem hx
  have:=h y hy
  simpa [List.getD,List.getElem?_eq_getElem hy] using this
theorem jL {n:Nat} {l:List Int} {y:Nat} (hy:y < l.length) (h:l.getD y 0 < 0∨n≤l.getD y 0):inB n l=false:=by
 rw [← Bool.not_eq_true]
 intro hr
 have:=rE.1 hr y hy
 omega
set_option maxHeartbeats 400000 in
theorem in14_any (B:Nat) (w:World) (a:Option Addr) (n cap:Nat) (v:Value) (l:List Int) (hn:n≤9223372036854775807) (h:Row B w v (ints l)) :
  Calls Tryd.prog 69 #[.slice a n cap,v] w fun e w'=>e=.returned (.bool (inB n l))∧w=w':=by
 by_cases h0:0 < l.length
 ·obtain ⟨b,off,c,rfl,_,hc1,hc2,hra⟩:=h.some_ (by rw [zM];exact h0)
  rw [zM] at *
  have hmx:c≤9223372036854775807:=by unfold maxLen at hc2;omega
  have RA:=Kh hra;clear hra h
  go_enter Tryd.func69,Tryd.ntmps69
  go_wp2
  go_loopg [9] l.length (fun g i wr=>∃ k:Nat,g+k=l.length∧i=.int .i64 k∧jW n l k∧w=wr)
  case atStart=>exact ⟨0,rfl,rfl,fun x hx=>absurd hx (by omega),rfl⟩
  case round =>
   obtain ⟨y,hg,rfl,hok,rfl⟩:=hrel
   have OKY:=Kh hok;have HG2:=Kh hg;clear hok hg
   by_cases hy:y < l.length
   ·have hcy:=RA.out.int y hy
    obtain ⟨z,hz⟩:∃ z,z=l.getD y 0:=⟨_,rfl⟩
    rw [← hz] at hcy
    have HZ:=Kh hz;clear hz
    by_cases hb1:z < 0
    ·go_wp2
     go_ret
     exact ⟨zT (jL hy (by rw [← HZ.out];exact .inl hb1)).symm,rfl⟩
    ·by_cases hb2:(n:Int)≤z
     ·go_wp2
      go_ret
      exact ⟨zT (jL hy (by rw [← HZ.out];exact .inr hb2)).symm,rfl⟩
     ·go_wp2
      go_roundg (l.length - (y+1))
      case measure=>have:=HG2.out;omega
      case rel =>
       refine ⟨y+1,by omega,by go_num,fun x hx=>?_,rfl⟩
       rcases Nat.lt_succ_iff_lt_or_eq.1 hx with hx|rfl
       ·exact OKY.out x hx
       ·rw [← HZ.out];omega
   ·go_wp2
    go_ret
    exact ⟨zT (rE.2 (fun x hx=>OKY.out x (by omega))).symm,rfl⟩
 ·have hl:l=[]:=List.eq_nil_of_length_eq_zero (by omega)
  subst hl
  obtain ⟨a',c,rfl⟩:=h.nil_ rfl
  clear h h0
  go_enter Tryd.func69,Tryd.ntmps69
  go_wp2
  refine wp_loop_rounds 1 ?_
  rw [rounds_succ]
  go_wp2
  go_ret
  exact ⟨rfl,rfl⟩
def PB (n:Nat) (tb:Nat→Nat→Nat) (a b k j s:Nat):Prop :=
 ∀ z,s.testBit z=true ↔ (∃ x y,x < k∧y < n∧a.testBit x=true∧b.testBit y=true∧tb x y=z)∨(∃ y,y < j∧a.testBit k=true∧b.testBit y=true∧tb k y=z)
theorem PB.skip {n:Nat} {tb:Nat→Nat→Nat} {a b k j s:Nat} (h:PB n tb a b k j s) (hb:¬ (a.testBit k=true∧b.testBit j=true)):PB n tb a b k (j+1) s:=by
 intro z
 rw [h z]
 refine or_congr_right ⟨fun ⟨y,hy,h⟩=>⟨y,by omega,h⟩,fun ⟨y,hy,h1,h2,h3⟩=>?_⟩
 rcases Nat.lt_succ_iff_lt_or_eq.1 hy with hy|rfl
 ·exact ⟨y,hy,h1,h2,h3⟩
 ·exact absurd ⟨h1,h2⟩ hb
theorem PB.add {n:Nat} {tb:Nat→Nat→Nat} {a b k j s:Nat} (h:PB n tb a b k j s) (h1:a.testBit k=true) (h2:b.testBit j=true):PB n tb a b k (j+1) (s ||| 2 ^ tb k j):=by
 intro z
 rw [← Nat.one_shiftLeft,nS,Bool.or_eq_true,decide_eq_true_eq,h z]
 constructor
 ·rintro ((h|⟨y,hy,h⟩)|e)
  ·exact .inl h
  ·exact .inr ⟨y,by omega,h⟩
  ·exact .inr ⟨j,by omega,h1,h2,e⟩
 ·rintro (h|⟨y,hy,h3,h4,h5⟩)
  ·exact .inl (.inl h)
  ·rcases Nat.lt_succ_iff_lt_or_eq.1 hy with hy|rfl
   ·exact .inl (.inr ⟨y,hy,h3,h4,h5⟩)
   ·exact .inr h5
theorem PB.next {n:Nat} {tb:Nat→Nat→Nat} {a b k s:Nat} (h:PB n tb a b k n s):PB n tb a b (k+1) 0 s:=by
 intro z
 rw [h z]
 constructor
 ·rintro (⟨x,y,hx,h⟩|⟨y,hy,h1,h2,h3⟩)
  ·exact .inl ⟨x,y,by omega,h⟩
  ·exact .inl ⟨k,y,by omega,hy,h1,h2,h3⟩
 ·rintro (⟨x,y,hx,h1,h2,h3,h4⟩|⟨y,hy,_⟩)
  ·rcases Nat.lt_succ_iff_lt_or_eq.1 hx with hx|rfl
   ·exact .inl ⟨x,y,hx,h1,h2,h3,h4⟩
   ·exact .inr ⟨y,h1,h2,h3,h4⟩
  ·omega
theorem PB.start {n:Nat} {tb:Nat→Nat→Nat} {a b:Nat}:PB n tb a b 0 0 0:=by
 intro z
 simp
theorem PB.end_ {n:Nat} {tb:Nat→Nat→Nat} {a b s:Nat} (h:PB n tb a b n 0 s):s=zP n tb a b:=by
 refine lB fun z=>?_
 rw [h z]
 constructor
 ·rintro (⟨x,y,h⟩|⟨y,hy,_⟩)
  ·exact ⟨x,y,h⟩
  ·omega
 ·rintro ⟨x,y,h⟩
  exact .inl ⟨x,y,h⟩
set_option maxRecDepth 100000 in
set_option maxHeartbeats 1000000 in
theorem nJ (B:Nat) (w:World) (v:Value) (t:List (List Int)) (a b:Nat) (h:Mat B w v t) (hs:Shape t) (hn:t.length≤12) (ha:a < 2 ^ t.length) (hb:b < 2 ^ t.length) :
  Calls Tryd.prog 55 #[v,.int .i64 (a:Int),.int .i64 (b:Int)] w fun e w'=>e=.returned (.int .i64 (zP t.length (entN t) a b:Nat))∧w=w':=by
 obtain ⟨tb_,off,cap,RB,RO,RC,rfl,hc1,hc2,hq⟩:=h.sq hs
 have hmx:cap≤9223372036854775807:=by unfold maxLen at hc2;omega
 obtain ⟨N,hN⟩:∃ N,N=2 ^ t.length:=⟨_,rfl⟩
 have hN4:N≤4096:=by have:=uG hn;omega
 have ha63:a < 9223372036854775808:=by omega
 have hb63:b < 9223372036854775808:=by omega
 have HQ:=Kh hq;have HS:=Kh hs;have HN:=Kh hN
 clear hs hq h hN ha hb
 go_enter Tryd.func55,Tryd.ntmps55
 go_wp2
 go_loopg [7,12] t.length (fun g sv i wr=>∃ k s:Nat,g+k=t.length∧i=.int .i64 k∧sv=.int .i64 s∧s < N∧Hid (PB t.length (entN t) a b k 0 s)∧w=wr)
 case atStart=>exact ⟨0,0,rfl,rfl,rfl,by rw [HN.out];exact Nat.two_pow_pos _,Kh PB.start,rfl⟩
 case round =>
  obtain ⟨k,s,hg,rfl,rfl,hs,hpb,rfl⟩:=hrel
  have HG:=Kh hg;clear hg
  by_cases hk:k < t.length
  ·have hk':(k:Int) < t.length:=by omega
   have ck:=HQ.out.hd k hk
   go_wp2
   go_loopg [7,17] t.length (fun g sv i wr=>∃ j s:Nat,g+j=t.length∧i=.int .i64 j∧sv=.int .i64 s∧s < N∧Hid (PB t.length (entN t) a b k j s)∧w=wr)
   case atStart=>exact ⟨0,s,rfl,rfl,rfl,hs,hpb,rfl⟩
   case round =>
    clear hs hpb
    obtain ⟨j,s,hg,rfl,rfl,hs,hpb,rfl⟩:=hrel
    have HGJ:=Kh hg;clear hg
    by_cases hj:j < t.length
    ·have hj':(j:Int) < t.length:=by omega
     cases hba:a.testBit k
     ·have e1:=lY ha63 hba
      have hpb2:=Kh (hpb.out.skip (by rw [hba];simp))
      have HBA:=Kh hba
      clear hba
      go_wp2
      go_roundg (t.length - (j+1))
      case measure=>have:=HGJ.out;omega
      case rel=>exact ⟨j+1,s,by omega,by go_num,rfl,hs,hpb2,rfl⟩
     ·have e1:=jO ha63 hba
      cases hbb:b.testBit j
      ·have e2:=lY hb63 hbb
       have hpb2:=Kh (hpb.out.skip (by rw [hbb];simp))
       have HBA:=Kh hba;have HBB:=Kh hbb
       clear hba hbb
       go_wp2
       go_roundg (t.length - (j+1))
       case measure=>have:=HGJ.out;omega
       case rel=>exact ⟨j+1,s,by omega,by go_num,rfl,hs,hpb2,rfl⟩
      ·have e2:=jO hb63 hbb
       have hpb2:=Kh (hpb.out.add hba hbb)
       have cj:=HQ.out.el k j hk hj
       obtain ⟨m,hm⟩:∃ m,m=entN t k j:=⟨_,rfl⟩
       have hml:m < t.length:=by rw [hm];exact uD HS.out hk hj
       rw [← hm] at cj hpb2
       have hsx:=rW (m:=m) (by omega)
       have hor:=kF (show s < 2 ^ t.length by rw [← HN.out];exact hs) hml
       rw [Nat.one_shiftLeft,← HN.out] at hor
       obtain ⟨M,hM⟩:∃ M,M=2 ^ m:=⟨_,rfl⟩
       rw [← hM] at hsx hor hpb2
       have hM4:M≤4096:=by rw [hM];have:=uG (show m≤12 by omega);omega
       have e4:bits .or .i64 (s:Int) (M:Int)=((s ||| M:Nat):Int):=tZ s M (by omega) (by omega)
       have HBA:=Kh hba;have HBB:=Kh hbb
       clear hba hbb hm hM
       go_wp2
       go_roundg (t.length - (j+1))
       case measure=>have:=HGJ.out;omega
       case rel=>exact ⟨j+1,s ||| M,by omega,by go_num,rfl,hor,hpb2,rfl⟩
    ·have hpb2:Hid (PB t.length (entN t) a b (k+1) 0 s):=by
      have hjn:j=t.length:=by have:=HGJ.out;omega
      have:=hpb.out
      rw [hjn] at this
      exact Kh this.next
     go_wp2
     go_roundg (t.length - (k+1))
     case measure=>have:=HG.out;omega
     case rel=>exact ⟨k+1,s,by omega,by go_num,rfl,hs,hpb2,rfl⟩
  ·have he:Hid (s=zP t.length (entN t) a b):=by
    have hkn:k=t.length:=by have:=HG.out;omega
    have:=hpb.out
    rw [hkn] at this
    exact Kh this.end_
   go_wp2
   go_ret
   exact ⟨yD (by rw [← he.out]),rfl⟩
set_option maxRecDepth 100000 in
theorem omega40_any (B:Nat) (w:World) (v:Value) (t:List (List Int)) (a:Nat) (h:Mat B w v t) (hv:xK t=0) (hn:t.length≤12) (ha:a < 2 ^ t.length) :
  Calls Tryd.prog 57 #[v,.int .i64 (a:Int)] w fun e w'=>e=.returned (.int .i64 (yC t.length (entN t) a:Nat))∧w=w':=by
 have hs:=(uE hv).1
 have ht:=tb_of hv
 obtain ⟨N,hN⟩:∃ N,N=2 ^ t.length:=⟨_,rfl⟩
 have hN4:N≤4096:=by have:=uG hn;omega
 obtain ⟨O,hO⟩:∃ O,O=yC t.length (entN t) a:=⟨_,rfl⟩
 rw [← hO]
 have H:=Kh h;have HS:=Kh hs;have HN:=Kh hN;have HTB:=Kh ht;have HO:=Kh hO;have HA:=Kh ha
 have haN:a < N:=by omega
 clear h hs hN ht hO ha hv
 go_enter Tryd.func57,Tryd.ntmps57
 go_wp2
 go_loopg [5] (2 ^ t.length * 2 ^ t.length+2 ^ t.length) (fun g xv wr=>∃ x:Nat,xv=.int .i64 x∧x < N∧Hid (Ends t.length (entN t) a g x)∧Hid (rD t.length (entN t) a g x=O)∧w=wr)
 case atStart=>exact ⟨a,rfl,haN,Kh (lD HTB.out HA.out),Kh HO.out.symm,rfl⟩
 case round =>
  obtain ⟨x,rfl,hx,hends,hgo,rfl⟩:=hrel
  have hx2:x < 2 ^ t.length:=by rw [← HN.out];exact hx
  have HP1:=Kh (nJ B w v t x x H.out HS.out hn hx2 hx2)
  have HP2:=Kh (nJ B w v t x a H.out HS.out hn hx2 HA.out)
  obtain ⟨Y,hY⟩:∃ Y,Y=zP t.length (entN t) x a:=⟨_,rfl⟩
  obtain ⟨X,hX⟩:∃ X,X=zP t.length (entN t) x x:=⟨_,rfl⟩
  have hYN:Y < N:=by rw [hY,HN.out];exact xU HTB.out.lt _ _
  rw [← hX] at HP1
  rw [← hY] at HP2
  have HX:=Kh hX;have HY:=Kh hY
  clear hX hY hx2
  by_cases hid:X=x
  ·have ht:((X:Int) != (x:Int))=false:=by rw [hid];simp
   have HI:=Kh hid
   have e4:bits .or .i64 (x:Int) (Y:Int)=((x ||| Y:Nat):Int):=tZ x Y (by omega) (by omega)
   have hstop:x ||| Y=O:=by
    have h1:=hgo.out
    rw [oE (by rw [← HX.out];exact hid)] at h1
    rw [HY.out];exact h1
   rw [hstop] at e4
   clear hid hstop
   go_wp2_with fail
   refine HP1.out.mono ?_
   rintro e w' ⟨rfl,rfl⟩
   go_wp2_with fail
   refine HP2.out.mono ?_
   rintro e w' ⟨rfl,rfl⟩
   go_wp2
   go_ret
   exact ⟨rfl,rfl⟩
  ·have ht:((X:Int) != (x:Int))=true:=by rw [bne_iff_ne];omega
   have HI:=Kh hid
   clear hid
   go_wp2_with fail
   refine HP1.out.mono ?_
   rintro e w' ⟨rfl,rfl⟩
   go_wp2_with fail
   refine HP2.out.mono ?_
   rintro e w' ⟨rfl,rfl⟩
   obtain ⟨j,hj,he⟩:=kO hends.out (by rw [← HX.out];exact HI.out)
   have hgo2:=hgo.out
   rw [hj,oF (by rw [← HX.out];exact HI.out),← HY.out] at hgo2
   rw [← HY.out] at he
   have HJ:=Kh hj;have HE:=Kh he;have HG:=Kh hgo2
   clear hj he hgo2
   go_wp2
   go_roundg j
   case measure=>have:=HJ.out;omega
   case rel=>exact ⟨Y,rfl,hYN,HE,HG,rfl⟩
def setB (n:Nat) (s:Int):Bool:=decide (0≤s∧s < (2 ^ n:Nat))
theorem isSet_any (w:World) (a:Option Addr) (n cap:Nat) (s:Int) (hn:n≤12) :
  Calls Tryd.prog 66 #[.slice a n cap,.int .i64 s] w fun e w'=>e=.returned (.bool (setB n s))∧w=w':=by
 have hsh:=rW (m:=n) (by omega)
 unfold setB
 obtain ⟨N,hN⟩:∃ N,N=2 ^ n:=⟨_,rfl⟩
 rw [← hN] at hsh ⊢
 have HN:=Kh hN
 clear hN
 by_cases h0:0≤s
 ·go_enter Tryd.func66,Tryd.ntmps66
  go_wp2
  go_ret
  exact ⟨zT (by simp [h0]),rfl⟩
 ·go_enter Tryd.func66,Tryd.ntmps66
  go_wp2
  go_ret
  exact ⟨zT (by simp;omega),rfl⟩
end Go.Proofs.YtdjhoadoiknaoaaDoor
